/- Programs that a law builds: what may stand in a code; rows of codes in memory; picks one behind the other, however many. Events without bounds (XEv): as values; a thread's events with their places. trace.Of, as an iterator: its contract for every loop body that keeps old memory. Calls: as rows of cells whose last field is a row of their own; how they come about, event by event. The document's calls, one by one, as lists: each thread's are what goes through its events gathers. Calls (plain): what they say of events, and events of them. Calls of a machine's events (plain). tso.Machine.Done. rw (plain): whatever is picked; what the machine of law22's programs comes to. -/
import Derived.Test.YtmhfpjnkjlhbpaaGreatDoorQd27
import Derived.Test.YtmhfpjnkjlhbpaaGreatDoorQd26
import Derived.Test.YtmhfpjnkjlhbpaaGreatDoorQd02
import Derived.RangeFuncNested
import Derived.RangeFuncBox
import Derived.RangeFuncBound
import Derived.RangeFuncCalls
import Derived.RangeFuncLeaves
import Derived.Shelf.Abstract
import Derived.Shelf.RegionOpen
import Derived.WalkKit
import Derived.OwnWalkIn
import Derived.TacticsInMore
import Derived.LoopNIn
import Derived.LoopIn
import Derived.Laws.OwnMore
import Derived.Test.YtmhfpjnkjlhbpaaGreatDoorQd21
import Derived.Test.YtmhfpjnkjlhbpaaGreatDoorQd24
namespace Go.Proofs.YtmhfpjnkjlhbpaaGreatDoor
open Go.ChangeShapes Go.WideShapes Go.ChangeAt Go.RowKit Go.Deep
set_option linter.unusedVariables false
set_option maxRecDepth 100000
set_option linter.unusedSimpArgs false
def opOk (size m:Nat):Op->Prop
 | .set a k=>a<8/\0<=k/\k<=4294967295
 | .move a b=>a<8/\b<8
 | .add a b c| .and a b c| .same a b c=>a<8/\b<8/\c<8
 | .jump k=>k<=size
 | .zero a k| .some a k=>a<8/\k<=size
 | .load a x| .store a x| .swap a x| .fetch a x| .wait a x| .wake a x=>a<8/\x<m
 | .cas a c x=>a<8/\c<8/\x<m
 | .out a=>a<8
 | .mark k=>k<=4294967295
theorem kinds_at:kindAt 1=⟨true,false,false,false,false,true⟩/\kindAt 2=⟨true,true,false,false,false,false⟩/\kindAt 3=⟨true,true,false,true,false,false⟩/\kindAt 6=⟨true,true,false,true,false,false⟩/\kindAt 12=⟨true,true,false,true,false,false⟩/\
 kindAt 13=⟨false,false,false,false,true,false⟩/\kindAt 14=⟨true,false,false,false,true,false⟩/\kindAt 15=⟨true,false,false,false,true,false⟩/\kindAt 16=⟨true,false,true,false,false,true⟩/\kindAt 17=⟨true,false,true,false,false,true⟩/\
 kindAt 19=⟨true,false,true,false,false,true⟩/\kindAt 20=⟨true,false,true,false,false,true⟩/\kindAt 21=⟨true,false,true,true,false,true⟩/\kindAt 22=⟨true,false,false,false,false,false⟩/\kindAt 23=⟨true,false,true,false,false,true⟩/\
 kindAt 24=⟨true,false,true,false,false,true⟩/\kindAt 27=⟨true,false,false,false,false,true⟩:=
 ⟨by kernel_rfl,by kernel_rfl,by kernel_rfl,by kernel_rfl,by kernel_rfl,by kernel_rfl,by kernel_rfl,by kernel_rfl,by kernel_rfl,by kernel_rfl,by kernel_rfl,by kernel_rfl,by kernel_rfl,by kernel_rfl,by kernel_rfl,by kernel_rfl,by kernel_rfl⟩
theorem right_of {op a b c k size:Int} {q:Kind} (h0:0<=op/\op<28) (hq:kindAt op.toNat=q) (h:RightP q a b c k size):rightB ⟨op,a,b,c,k⟩ size=true:=by
 unfold rightB
 rw [if_pos h0]
 dsimp only
 rw [hq]
 exact decide_eq_true h
theorem opOk.right {size m:Nat} {o:Op} (h:opOk size m o) (hs:size<=4000) (hm:m<=1024):rightB o.ins (size:Int)=true/\o.ins.Ok/\ ∀x,o.word=some x->x<m:=by
 obtain ⟨k1,k2,k3,k6,k12,k13,k14,k15,k16,k17,k19,k20,k21,k22,k23,k24,k27⟩:=kinds_at
 have nn: ∀{n:Nat},n<8->(0:Int)<=(n:Int)/\(n:Int)<=7:=fun h=>by omega
 have n100: ∀{n:Nat},n<8->(0:Int)<=(n:Int)/\(n:Int)<=100:=fun h=>by omega
 have z:(0:Int)<=0/\(0:Int)<=100:=by decide
 have e8:(0:Int)<=8/\(8:Int)<=8:=by decide
 have e8':(0:Int)<=8/\(8:Int)<=100:=by decide
 cases o with
 |set a k=>exact ⟨right_of (by decide) k1 ⟨nn h.1,rfl,rfl,.inl rfl⟩,insOk ⟨by decide,n100 h.1,z,z,h.2⟩,fun x q=>by cases q⟩
 |move a b=>exact ⟨right_of (by decide) k2 ⟨nn h.1,nn h.2,rfl,.inr rfl⟩,insOk ⟨by decide,n100 h.1,n100 h.2,z,by decide,by decide⟩,fun x q=>by cases q⟩
 |add a b c=>exact ⟨right_of (by decide) k3 ⟨nn h.1,nn h.2.1,nn h.2.2,.inr rfl⟩,insOk ⟨by decide,n100 h.1,n100 h.2.1,n100 h.2.2,by decide,by decide⟩,fun x q=>by cases q⟩
 |and a b c=>exact ⟨right_of (by decide) k6 ⟨nn h.1,nn h.2.1,nn h.2.2,.inr rfl⟩,insOk ⟨by decide,n100 h.1,n100 h.2.1,n100 h.2.2,by decide,by decide⟩,fun x q=>by cases q⟩
 |same a b c=>exact ⟨right_of (by decide) k12 ⟨nn h.1,nn h.2.1,nn h.2.2,.inr rfl⟩,insOk ⟨by decide,n100 h.1,n100 h.2.1,n100 h.2.2,by decide,by decide⟩,fun x q=>by cases q⟩
 |jump k=>
  have h:k<=size:=h
  exact ⟨right_of (by decide) k13 ⟨rfl,rfl,rfl,by show (0:Int)<=size/\(k:Int)<=size;omega⟩,insOk ⟨by decide,z,z,z,by omega,by omega⟩,fun x q=>by cases q⟩
 |zero a k=>
  have h2:k<=size:=h.2
  exact ⟨right_of (by decide) k14 ⟨nn h.1,rfl,rfl,by show (0:Int)<=size/\(k:Int)<=size;omega⟩,insOk ⟨by decide,n100 h.1,z,z,by omega,by omega⟩,fun x q=>by cases q⟩
 |some a k=>
  have h2:k<=size:=h.2
  exact ⟨right_of (by decide) k15 ⟨nn h.1,rfl,rfl,by show (0:Int)<=size/\(k:Int)<=size;omega⟩,insOk ⟨by decide,n100 h.1,z,z,by omega,by omega⟩,fun x q=>by cases q⟩
 |load a x=>
  have h2:x<m:=h.2
  exact ⟨right_of (by decide) k16 ⟨nn h.1,e8,rfl,.inl rfl⟩,insOk ⟨by decide,n100 h.1,e8',z,by omega,by omega⟩,fun y q=>by rw [<-Option.some.inj q];exact h2⟩
 |store a x=>
  have h2:x<m:=h.2
  exact ⟨right_of (by decide) k17 ⟨nn h.1,e8,rfl,.inl rfl⟩,insOk ⟨by decide,n100 h.1,e8',z,by omega,by omega⟩,fun y q=>by rw [<-Option.some.inj q];exact h2⟩
 |swap a x=>
  have h2:x<m:=h.2
  exact ⟨right_of (by decide) k19 ⟨nn h.1,e8,rfl,.inl rfl⟩,insOk ⟨by decide,n100 h.1,e8',z,by omega,by omega⟩,fun y q=>by rw [<-Option.some.inj q];exact h2⟩
 |fetch a x=>
  have h2:x<m:=h.2
  exact ⟨right_of (by decide) k20 ⟨nn h.1,e8,rfl,.inl rfl⟩,insOk ⟨by decide,n100 h.1,e8',z,by omega,by omega⟩,fun y q=>by rw [<-Option.some.inj q];exact h2⟩
 |cas a c x=>
  have h2:x<m:=h.2.2
  exact ⟨right_of (by decide) k21 ⟨nn h.1,e8,nn h.2.1,.inl rfl⟩,insOk ⟨by decide,n100 h.1,e8',n100 h.2.1,by omega,by omega⟩,fun y q=>by rw [<-Option.some.inj q];exact h2⟩
 |out a=>exact ⟨right_of (by decide) k22 ⟨nn h,rfl,rfl,.inr rfl⟩,insOk ⟨by decide,n100 h,z,z,by decide,by decide⟩,fun x q=>by cases q⟩
 |wait a x=>
  have h2:x<m:=h.2
  exact ⟨right_of (by decide) k23 ⟨nn h.1,e8,rfl,.inl rfl⟩,insOk ⟨by decide,n100 h.1,e8',z,by omega,by omega⟩,fun y q=>by rw [<-Option.some.inj q];exact h2⟩
 |wake a x=>
  have h2:x<m:=h.2
  exact ⟨right_of (by decide) k24 ⟨nn h.1,e8,rfl,.inl rfl⟩,insOk ⟨by decide,n100 h.1,e8',z,by omega,by omega⟩,fun y q=>by rw [<-Option.some.inj q];exact h2⟩
 |mark k=>
  have h:k<=4294967295:=h
  exact ⟨right_of (by decide) k27 ⟨by decide,rfl,rfl,.inl rfl⟩,insOk ⟨by decide,by decide,z,z,by omega,by omega⟩,fun x q=>by cases q⟩
def codeOf (code:Nat->List Op) (rd:Nat):List Op:=(List.range rd).flatMap code
theorem codeOf_succ (code:Nat->List Op) (rd:Nat):codeOf code (rd+1)=codeOf code rd++code rd:=by
 unfold codeOf
 rw [List.range_succ,List.flatMap_append]
 simp
theorem codeOf_len {code:Nat->List Op} {bs:Nat->Nat} (h0:bs 0=0): ∀{rd:Nat},(∀n,n<rd->bs (n+1)=bs n+(code n).length)->(codeOf code rd).length=bs rd
 |0,_=>h0.symm
 |rd+1,h=>by rw [codeOf_succ,List.length_append,codeOf_len h0 (fun n hn=>h n (by omega)),h rd (by omega)]
theorem codeOf_get {code:Nat->List Op} {bs:Nat->Nat} (h0:bs 0=0): ∀{rd:Nat},(∀n,n<rd->bs (n+1)=bs n+(code n).length)-> ∀n,n<rd-> ∀o op,(code n)[o]?=some op->(codeOf code rd)[bs n+o]?=some op
 |0,_,n,hn,_,_,_=>absurd hn (by omega)
 |rd+1,h,n,hn,o,op,ho=>by
  have hl:=codeOf_len h0 (rd:=rd) (fun n hn=>h n (by omega))
  have ho2:=(List.getElem?_eq_some_iff.1 ho).1
  rw [codeOf_succ]
  rcases Nat.lt_or_ge n rd with c|c
  ·have h1:=bs_mono (rd:=rd) (fun n hn=>h n (by omega)) (n:=n+1) (m:=rd) (by omega) (Nat.le_refl _)
   have h2:=h n hn
   rw [List.getElem?_append_left (by omega)]
   exact codeOf_get h0 (fun n hn=>h n (by omega)) n c o op ho
  ·obtain rfl:n=rd:=by omega
   rw [List.getElem?_append_right (by omega),hl,Nat.add_sub_cancel_left]
   exact ho
theorem coded_of {B:MB} {t rd:Nat} {bs:Nat->Nat} {code:Nat->List Op} (h0:bs 0=0) (hnx: ∀n,n<rd->bs (n+1)=bs n+(code n).length) (hl:(B.codes.getD t cdd).len=((codeOf code rd).map Op.ins).length)
 (hF:(B.codes.getD t cdd).F=fun i=>((codeOf code rd).map Op.ins).getD i default) (hok: ∀n,n<rd-> ∀op∈code n,opOk (bs rd) B.m op) (hs:bs rd<=4000) (hm:B.m<=1024):Coded B t rd bs code:=by
 have hlen:(B.codes.getD t cdd).len=bs rd:=by rw [hl,List.length_map,codeOf_len h0 hnx]
 refine ⟨hlen,hnx,fun n hn o op hop=>?_,fun n hn op hop=>?_⟩
 ·rw [hF]
  have :=codeOf_get h0 hnx n hn o op hop
  show ((codeOf code rd).map Op.ins).getD (bs n+o) default=op.ins
  rw [List.getD_eq_getElem?_getD,List.getElem?_map,this]
  rfl
 ·obtain ⟨h1,_,h3⟩:=(hok n hn op hop).right hs hm
  rw [hlen]
  exact ⟨h1,h3⟩
theorem codeOf_mem {code:Nat->List Op} {rd:Nat} {op:Op} (h:op∈codeOf code rd): ∃n,n<rd/\op∈code n:=by
 obtain ⟨n,h1,h2⟩:=List.mem_flatMap.1 h
 exact ⟨n,List.mem_range.1 h1,h2⟩
theorem codeOf_good {code:Nat->List Op} {bs:Nat->Nat} (h0:bs 0=0) {rd m:Nat} (hnx: ∀n,n<rd->bs (n+1)=bs n+(code n).length) (hok: ∀n,n<rd-> ∀op∈code n,opOk (bs rd) m op) (hs:bs rd<=4000) (hm:m<=1024):
 (∀x∈(codeOf code rd).map Op.ins,x.Ok)/\(∀x∈(codeOf code rd).map Op.ins,rightB x (((codeOf code rd).map Op.ins).length:Int)=true)/\((codeOf code rd).map Op.ins).length=bs rd:=by
 have hl:((codeOf code rd).map Op.ins).length=bs rd:=by rw [List.length_map,codeOf_len h0 hnx]
 have one: ∀x∈(codeOf code rd).map Op.ins,rightB x (bs rd:Int)=true/\x.Ok:=fun x hx=>by
  obtain ⟨op,h1,rfl⟩:=List.mem_map.1 hx
  obtain ⟨n,hn,h2⟩:=codeOf_mem h1
  obtain ⟨q1,q2,_⟩:=(hok n hn op h2).right hs hm
  exact ⟨q1,q2⟩
 refine ⟨fun x hx=>(one x hx).2,fun x hx=>?_,hl⟩
 rw [hl];exact (one x hx).1
def CdRow (W:World) (base:Nat) (v:Value) (L:List (List Ins)):Prop:=
 ∃vals:List Value,vals.length=L.length/\W.ownsRow base 50 1 v L.length vals/\ ∀i,i<L.length->W.ownsRow base 75 5 (vals.getD i undef) (L.getD i []).length ((L.getD i []).flatMap Ins.cells)
theorem CdRow.nil (W:World) (base:Nat):CdRow W base (.slice none 0 0) []:=⟨[],rfl,⟨rfl,.inl ⟨rfl,rfl⟩⟩,fun i hi=>absurd hi (by simp)⟩
section
variable {W W':World} {base:Nat} {v v':Value} {L:List (List Ins)}
theorem CdRow.below (h:CdRow W base v L) (hb:Below W.heap.size W W'):CdRow W' base v L:=by
 obtain ⟨vals,h1,h2,h3⟩:=h
 exact ⟨vals,h1,own_below h2 (Nat.le_refl _) hb,fun i hi=>own_below (h3 i hi) (Nat.le_refl _) hb⟩
theorem own_weak {W:World} {b b' s n:Nat} {e:TypeId} {v:Value} {xs:List Value} (h:W.ownsRow b e s v n xs) (hb:b'<=b):W.ownsRow b' e s v n xs:=by
 refine ⟨h.1,?_⟩
 rcases h.2 with hn|⟨g,cap,cur,rfl,hbg,rest⟩
 ·exact .inl hn
 ·exact .inr ⟨g,cap,cur,rfl,Nat.le_trans hb hbg,rest⟩
theorem CdRow.snoc {vals:List Value} {c:Value} {l:List Ins} (h1:vals.length=L.length) (h2:W.ownsRow base 50 1 v L.length vals) (h3: ∀i,i<L.length->W.ownsRow base 75 5 (vals.getD i undef) (L.getD i []).length ((L.getD i []).flatMap Ins.cells))
 {b2:Nat} (hc:W.ownsRow b2 75 5 c l.length (l.flatMap Ins.cells)) (hb2:base<=b2) (hg:W.grownBy W' v.ownBlock) (hr:W'.ownsRow base 50 1 v' (L.length+1) (vals++[c])):CdRow W' base v' (L++[l]):=by
 have hne:75≠50:=by decide
 refine ⟨vals++[c],by simp [h1],by rw [List.length_append];exact hr,fun i hi=>?_⟩
 rcases getD_snoc L l [] i hi with ⟨hlt,e⟩|⟨rfl,e⟩
 ·have e2:(vals++[c]).getD i undef=vals.getD i undef:=by
   simp only [List.getD_eq_getElem?_getD];rw [List.getElem?_append_left (by omega)]
  rw [e,e2]
  exact own_apart (h3 i hlt) h2 hne hg
 ·have e2:(vals++[c]).getD L.length undef=c:=by
   simp only [List.getD_eq_getElem?_getD];rw [List.getElem?_append_right (by omega),h1];simp
  rw [e,e2]
  exact own_weak (own_apart hc h2 hne hg) hb2
def lPg (A:Option Addr) (n cap:Nat) (cds:Nat->Cd) (mA:Option Addr) (m mcap:Nat) (room:Int):Pg:=⟨A,n,cap,cds,mA,m,mcap,fun _=>0,room⟩
theorem CdRow.prog (h:CdRow W base v L) (hok: ∀l∈L,∀x∈l,x.Ok) (hright: ∀l∈L,∀x∈l,rightB x (l.length:Int)=true) (hlen: ∀l∈L,l.length<=4000) (hn:1<=L.length/\L.length<=8) {room:Int} (hroom:1<=room/\room<=16) {mA:Option Addr} {m mcap:Nat} (hm:m<=1024) (hmc:m<=mcap/\mcap<=maxLen) (hmem:Sl W mA m (fun _=> .int .u32 0)):
 ∃A cap cds,v= .slice A L.length cap/\(lPg A L.length cap cds mA m mcap room).Ok/\Chk (lPg A L.length cap cds mA m mcap room) 0 0 0/\(lPg A L.length cap cds mA m mcap room).At W/\ ∀t,t<L.length->(cds t).len=(L.getD t []).length/\(cds t).F=fun i=>(L.getD t []).getD i default:=by
 obtain ⟨vals,h1,h2,h3⟩:=h
 have hv: ∀t,t<L.length-> ∃A cap,vals.getD t undef= .slice A (L.getD t []).length cap/\(L.getD t []).length<=cap/\cap<=maxLen/\SlE W A (L.getD t []).length 5 (fun i=>((L.getD t []).getD i default).cells):=fun t ht=>by
  obtain ⟨A,cap,e,hc,hs⟩:=own_sle Ins.cells (fun _=>rfl) default (L.getD t []) (h3 t ht)
  obtain ⟨_,cap',e2,_,hm2⟩:=own_cap (h3 t ht)
  rw [e]at e2
  injection e2 with _ _ e3
  exact ⟨A,cap,e,hc,by rw [e3];exact hm2,hs⟩
 let cds:Nat->Cd:=fun t=>if ht:t<L.length then ⟨(hv t ht).choose,(L.getD t []).length,(hv t ht).choose_spec.choose,fun i=>(L.getD t []).getD i default⟩else cdd
 have hcd: ∀t (ht:t<L.length),(cds t).val=vals.getD t undef/\(cds t).len=(L.getD t []).length/\(cds t).F=(fun i=>(L.getD t []).getD i default)/\(cds t).len<=(cds t).cap/\(cds t).cap<=maxLen/\(cds t).At W:=fun t ht=>by
  have e:cds t=⟨(hv t ht).choose,(L.getD t []).length,(hv t ht).choose_spec.choose,fun i=>(L.getD t []).getD i default⟩:=dif_pos ht
  obtain ⟨q1,q2,q3,q4⟩:=(hv t ht).choose_spec.choose_spec
  rw [e]
  exact ⟨q1.symm,rfl,rfl,q2,q3,q4⟩
 have hmem': ∀t,t<L.length->L.getD t []∈L:=fun t ht=>by rw [List.getD_eq_getElem?_getD,List.getElem?_eq_getElem ht];exact List.getElem_mem ht
 have hget: ∀(l:List Ins) i,i<l.length->l.getD i default∈l:=fun l i hi=>by rw [List.getD_eq_getElem?_getD,List.getElem?_eq_getElem hi];exact List.getElem_mem hi
 obtain ⟨A,cap,rfl,hc,hcm⟩:=own_cap h2
 obtain ⟨A',cap',e',_,hsl⟩:=own_sl (size:=1) h2
 injection e' with e1 _ _
 subst e1
 refine ⟨A,cap,cds,rfl,⟨hc,hcm,hmc.1,hmc.2,fun t ht=>?_,fun _ _=>(by decide:(0:Int)<=0/\(0:Int)<=4294967295),by have :=hroom.1;show _<=room;omega,by have :=hroom.2;show room<=_;omega⟩,.fine hn.1 hn.2 hroom.1 hroom.2 hm (fun t ht=>?_),⟨fun hp=>?_,fun t ht=>(hcd t ht).2.2.2.2.2,hmem⟩,fun t ht=>⟨(hcd t ht).2.1,(hcd t ht).2.2.1⟩⟩
 ·obtain ⟨_,e2,e3,q1,q2,_⟩:=hcd t ht
  refine ⟨q1,q2,fun i hi=>?_⟩
  show ((cds t).F i).Ok
  rw [e3]
  have hi':i<(cds t).len:=hi
  exact hok _ (hmem' t ht) _ (hget _ _ (by rw [<-e2];exact hi'))
 ·obtain ⟨_,e2,e3,_⟩:=hcd t ht
  refine ⟨by show (cds t).len<=4000;rw [e2];exact hlen _ (hmem' t ht),fun i hi=>?_⟩
  show rightB ((cds t).F i) ((cds t).len:Int)=true
  have hi':i<(cds t).len:=hi
  rw [e3,e2]
  exact hright _ (hmem' t ht) _ (hget _ _ (by rw [<-e2];exact hi'))
 ·obtain ⟨b,off,e,hlt,hcell⟩:=hsl (by rw [Nat.mul_one];exact hp)
  refine ⟨b,off,e,hlt,fun i hi=>?_⟩
  have hi:i<L.length:=hi
  rw [hcell i (by rw [Nat.mul_one];exact hi)]
  show some (vals.getD i undef)=some (cds i).val
  rw [(hcd i hi).1]
end
set_option maxHeartbeats 2000000 in
theorem trun2_any (B:MB) (hB:MBok B) (s:Mst) (hr16:B.room<=16) (hs:TOk B s) (A:Option Addr) (n cap:Nat) (F:Nat->Int×Int) (hc:EvC 999999000 (2*n) s) (own:Nat->Prop) (W:World) (hI:MInv tsoL B s own W) (hT:Tab W)
 (hsl:SlE W A n 2 (fun i=>pkc (F i))) (hA:0<n-> ∀b o,A=some ⟨b,o,none⟩-> ¬own b) (hn:n<=1000000000):
 Calls Tryz.prog 17 #[.pointer (some ⟨B.mb,0,none⟩),.slice A n cap] W fun e W'=>(∃u,e= .returned u)/\Moves (MInv tsoL B) (tRun B s ((List.range n).map F)) own W W':=by
 have hlo:=hI.lo
 have HB:=Lib.hid (And.intro hB (And.intro hr16 (And.intro hs (And.intro hc (And.intro hT hlo)))))
 have HS:=Lib.hid (And.intro hsl hA)
 have HI:=Lib.hid hI.stay
 clear hB hr16 hs hc hI hT hsl hA hlo
 go_enter Tryz.func17,Tryz.ntmps17
 go_wp2_with fail
 go_loopw [5,8] (fun q i wr=> ∃k:Nat,k<=n/\i= .int .i64 (k:Int)/\Moves (MInv tsoL B) (tRun B s ((List.range k).map F)) own W wr) (fun _ i _=>n-(intOf i).toNat)
 case atStart=>exact ⟨0,Nat.zero_le _,rfl,HI.out⟩
 case round=>
  obtain ⟨k,hk,rfl,hM⟩:=hrel
  by_cases hkn:k<n
  ·have hk0:(0:Int)<=(k:Int):=by omega
   have hk1:(k:Int)<(n:Int):=by omega
   have hM0:=hM
   obtain ⟨own1,hI1,ho1,hk1'⟩:=hM
   obtain ⟨b,off,rfl,hlt,hcc⟩:=hk1'.sle HS.out.1 HS.out.2 (by omega)
   obtain ⟨x,hx⟩: ∃x,F k=x:=⟨_,rfl⟩
   have k0:=hcc k hkn 0 (.int .i64 (F k).1) rfl
   have k1:=hcc k hkn 1 (.int .i64 (F k).2) rfl
   rw [hx]at k0 k1
   rw [Nat.add_zero]at k0
   have HX:=Lib.hid hx
   have hal:=(Below.refl wr.heap.size wr).alloc (Nat.le_refl _) (.cells #[.int .i64 x.1,.int .i64 x.2] 78)
   have hM1:=hM0.belowM hal
   have hT1:Tab wr:=hk1'.tab HB.out.2.2.2.2.2 HB.out.2.2.2.2.1
   have HM1:=Lib.hid (And.intro hM1 (hT1.step hal))
   have HK:=Lib.hid (And.intro ho1 hk1')
   clear hM0 hI1 ho1 hk1' hcc hx hal hM1 hT1
   go_wp2_with fail
   have hcall:Calls Tryz.prog 36 #[.pointer (some ⟨B.mb,0,none⟩),.agg #[.int .i64 x.1,.int .i64 x.2]] (wr.alloc (.cells #[.int .i64 x.1,.int .i64 x.2] 78)) fun e W'=>(∃u,e= .returned u)/\Moves (MInv tsoL B) (tRun B s ((List.range (k+1)).map F)) own W W':=by
    obtain ⟨own2,hI2,ho2,hk2⟩:=HM1.out.1
    have hcan:mCan B 3 (tRun B s ((List.range k).map F)):=can_of (tRun_ok HB.out.1 _ s HB.out.2.2.1) HB.out.1 (tRun_evc ((List.range k).map F) (HB.out.2.2.2.1.mono (by rw [List.length_map,List.length_range];omega)))
    refine (tpick_any B HB.out.1 HB.out.2.1 _ (tRun_ok HB.out.1 _ s HB.out.2.2.1) hcan own2 _ hI2 HM1.out.2 x).mono fun e W' ⟨he,hm⟩=>⟨he,?_⟩
    rw [List.range_succ,List.map_append,List.map_cons,List.map_nil,HX.out,tRun_snoc]
    exact Moves.after ho2 hk2 hm
   refine hcall.mono ?_
   rintro e W2 ⟨⟨u,rfl⟩,hM2⟩
   clear hcall k0 k1
   go_wp2
   go_roundw
   case rel=>exact ⟨k+1,by omega,by go_num,hM2⟩
   case measure=>simp [intOf];omega
  ·obtain rfl:n=k:=by omega
   have hk1: ¬(n:Int)<(n:Int):=by omega
   go_wp2
   go_end0
   exact ⟨⟨_,rfl⟩,hM⟩
structure EvB where
 (kind who pc addr value old k:Int)
 ok:Bool
 k0:0<=k
 k1:k<=4294967295
instance:Inhabited EvB:=⟨⟨0,0,0,0,0,0,0,false,by decide,by decide⟩⟩
end Go.Proofs.YtmhfpjnkjlhbpaaGreatDoor
namespace Go.Proofs.YtmhfpjnkjlhbpaaGreatDoor
open Go.ChangeShapes Go.WideShapes Go.ChangeAt Go.RowKit Go.Shelf
set_option linter.unusedVariables false
set_option maxRecDepth 100000
set_option linter.unusedSimpArgs false
attribute [local go_sem] Oper.semAt_some
end Go.Proofs.YtmhfpjnkjlhbpaaGreatDoor
namespace Go.Proofs.YtmhfpjnkjlhbpaaGreatDoor
open Go.ChangeShapes Go.WideShapes Go.ChangeAt Go.RowKit Go.Deep
set_option linter.unusedVariables false
set_option maxRecDepth 100000
set_option linter.unusedSimpArgs false
structure Cl where
 (site who began ended result:Int)
 inner:List Int
instance:Inhabited Cl:=⟨⟨0,0,0,0,0,[]⟩⟩
section
variable {W W':World} {base bl:Nat} {v:Value} {C:List Cl} {IV:List Value}
end
section
variable {W w5:World} {base bl g cap:Nat} {C:List Cl} {IV:List Value} {c:Cl} {lv:Value}
end
def ostep (s:Cl×Bool) (x:Nat×EvB):Cl×Bool:=
 if s.2=false then s else if x.2.who≠s.1.who then s
 else if x.2.kind≠7 then (if x.2.kind≠3 then ({s.1 with inner:=s.1.inner++[(x.1:Int)]},true)else s)
 else if x.2.k % 2=0 then (s.1,false)
 else if x.2.k/2=s.1.site then ({s.1 with ended:=(x.1:Int),result:=x.2.value},false)else s
def newC (E:Nat->EvB) (i:Nat):Cl:=⟨(E i).k/2,(E i).who,(i:Int),-1,0,[]⟩
def begBB (E:Nat->EvB) (i:Nat):Bool:=(E i).kind==7&&(E i).k % 2==0
def evFrom (E:Nat->EvB) (i n:Nat):List (Nat×EvB):=(List.range n).map fun k=>(i+k,E (i+k))
def oneS (E:Nat->EvB) (len i:Nat):Cl×Bool:=(evFrom E (i+1) (len-(i+1))).foldl ostep (newC E i,true)
def rs (E:Nat->EvB) (t:Int) (len:Nat):List (Cl×Bool):=((List.range len).filter fun i=>begBB E i&&(E i).who==t).map (oneS E len)
def doneT (s:Mst) (t:Nat):Bool:=(s.ths.getD t tha).st !=0&&(s.ths.getD t tha).st !=1&&(s.bufs.getD t []).length==0
def doneM (s:Mst):Bool:=(List.range s.ths.length).all (doneT s)
theorem doneM_no {s:Mst} {t:Nat} (ht:t<s.ths.length) (h:doneT s t=false):doneM s=false:=by
 unfold doneM
 rw [List.all_eq_false]
 exact ⟨t,List.mem_range.2 ht,by rw [h];decide⟩
theorem doneM_yes {s:Mst} (h: ∀t,t<s.ths.length->doneT s t=true):doneM s=true:=List.all_eq_true.2 fun t ht=>h t (List.mem_range.1 ht)
theorem below_of_grownT {w w':World} {row:Option Nat} {N:Nat} (hN:N<=w.heap.size) (h:w.grownBy w' row) (hr: ∀g,row=some g->N<=g):Below N w w':=
 ⟨h.os,h.tape,h.output,h.size,fun k hk=>h.block k (Nat.lt_of_lt_of_le hk hN) (fun e=>by have :=hr k e.symm;omega)⟩
section
variable {P:Program}
theorem wpList_load_midG {ops:Array Oper} {rest:List Oper} {op:Oper} {a:Act} {w:World} {Q:Exit->Act->World->Prop} (hgd:Region.wanted op (yielded ops a.tmps)=true) (ty:TypeId) (x:Operand) (ho:op.op= .load ty x)
 (b o:Nat) (hx:a.eval x= .pointer (some ⟨b,o,none⟩)) (cs:List Value) (d:TypeDesc) (hc:w.rangeAt b o cs)
 (hu:P.underlying ty=some d) (hd:d.isRow=true) (hi:(P.info? ty).map (·.size)=some cs.length)
 (h:wpList P ops Q rest (a.put op.dst (.agg cs.toArray)) w):wpList P ops Q (op::rest) a w:=
 wpList_step fun _ hK=>by
  rw [if_pos hgd]
  exact wp_load_mid ty x ho b o hx cs d hc hu hd hi (hK _ _ h)
end
set_option maxHeartbeats 2000000 in
theorem tdone_any (B:MB) (s:Mst) (own:Nat->Prop) (W:World) (hI:MInv tsoL B s own W) (h0:0<s.ths.length) (h8:s.ths.length<=8) (hbl:s.bufs.length=s.ths.length):
 Calls Tryz.prog 21 #[.pointer (some ⟨B.mb,0,none⟩)] W fun e W'=>e= .returned (.bool (doneM s))/\Below W.heap.size W W':=by
 obtain ⟨V,bcs,h⟩:=hI
 obtain ⟨g1,cap1,e1,hc1,hm1,hx1⟩:=h.thAt h0
 obtain ⟨g2,cap2,cs0,e2,hc2,hm2,hx2⟩:=h.bufAt (t:=0) (by omega)
 clear hx1 hx2
 have c1:W.cell? ⟨B.mb,1,none⟩=some (.slice (some ⟨g1,0,none⟩) s.ths.length cap1):=by rw [<-e1];exact h.cell (j:=1) (by decide) rfl
 have HH:=Lib.hid (And.intro h (And.intro e1 e2))
 obtain ⟨n,hn⟩: ∃n,s.ths.length=n:=⟨_,rfl⟩
 rw [hn]at c1 hc1 h8
 have HN:=Lib.hid (And.intro hn hbl)
 clear h e1 e2 hn hbl h0 hc2 hm2
 go_enter Tryz.func21,Tryz.ntmps21
 go_wp2_with fail
 go_loopw [10] (fun i wr=> ∃k:Nat,k<=n/\i= .int .i64 (k:Int)/\(∀j,j<k->doneT s j=true)/\Below W.heap.size W wr) (fun i _=>n-(intOf i).toNat)
 case atStart=>exact ⟨0,Nat.zero_le _,rfl,fun j hj=>absurd hj (Nat.not_lt_zero _),Below.refl _ _⟩
 case round=>
  obtain ⟨k,hk,rfl,hall,hB⟩:=hrel
  by_cases hkn:k<n
  ·have hk0:(0:Int)<=(k:Int):=by omega
   have hk1:(k:Int)<(n:Int):=by omega
   have h':=HH.out.1.below hB
   obtain ⟨g,cap,e1,hx1,hx2,hra,hx3⟩:=h'.thAt (t:=k) (by rw [HN.out.1];exact hkn)
   obtain ⟨gb,capb,cs,e2,hx4,hx5,hbuf,hrb,hx6⟩:=h'.bufAt (t:=k) (by rw [HN.out.2,HN.out.1];exact hkn)
   clear hx1 hx2 hx3 hx4 hx5 hx6
   rw [HH.out.2.1]at e1
   injection e1 with e1 e1n e1c
   clear e1n
   subst e1c
   injection e1 with e1
   injection e1 with e1 _ _
   subst e1
   have c2:wr.cell? ⟨B.mb,2,none⟩=some (.slice (some ⟨gb,0,none⟩) s.bufs.length capb):=by rw [<-e2];exact h'.cell (j:=2) (by decide) rfl
   rw [HN.out.2,HN.out.1]at c2
   have hlen:(s.bufs.getD k []).length<=16:=hbuf.le
   have hC:=len_any cs (s.bufs.getD k []) B.room hbuf
   obtain ⟨m,hm⟩: ∃m,(s.bufs.getD k []).length=m:=⟨_,rfl⟩
   obtain ⟨th,hth⟩: ∃th,s.ths.getD k tha=th:=⟨_,rfl⟩
   rw [hm]at hlen hC
   rw [hth]at hra
   have hlt2:gb<wr.heap.size:=(h'.lo gb (h'.vb 2 (by decide) gb (by rw [e2];rfl))).2
   have hbm:=h'.blt
   obtain ⟨pc,regs,st⟩:=th
   have hD:doneT s k=(st !=0&&st !=1&&m==0):=by unfold doneT;rw [hth,hm]
   have HA:=Lib.hid (And.intro hall (And.intro hD (And.intro hB (And.intro hrb (And.intro hlt2 (And.intro c2 (And.intro hbm (buf_infoL hbuf))))))))
   clear h' e2 hbuf hall hD hm hth hrb hlt2 c2 hB hbm
   have hz:=Blk.new wr 124 #[.int .i64 0,.int .u32 0,.int .u32 0,.int .u32 0,.int .u32 0,.int .u32 0,.int .u32 0,.int .u32 0,.int .u32 0,.int .i64 0]
   have hal:=(Below.refl wr.heap.size wr).alloc (Nat.le_refl _) (.cells #[.int .i64 0,.int .u32 0,.int .u32 0,.int .u32 0,.int .u32 0,.int .u32 0,.int .u32 0,.int .u32 0,.int .u32 0,.int .i64 0] 124)
   by_cases s0:st=0
   ·subst s0
    go_wp2_with (first|(refine wpList_load_mid rfl 124 (.tmp 13) rfl g1 (k*10) rfl (⟨pc,regs,0⟩:Th).cells _ hra Tryz.underlying124 rfl th_info ?_)|(refine wpList_store_row rfl 124 (.tmp 4) (.tmp 14) rfl _ rfl (thArr ⟨pc,regs,0⟩) rfl 124 _ hz rfl th_info (th_one _) ?_))
    intro W9 hb9 hg9
    have p9:W9.cell? ⟨wr.heap.size,9,none⟩=some (.int .i64 0):=(hb9.cell 9).trans rfl
    have hw9:Below wr.heap.size wr W9:=hal.trans (below_of_grownT hal.size hg9 (fun g e=>by cases e;exact Nat.le_refl _))
    have HB9:=Lib.hid (HA.out.2.2.1.trans (hw9.mono HA.out.2.2.1.size))
    have c2:=keepAt hw9 HA.out.2.2.2.2.2.2.1 HA.out.2.2.2.2.2.1
    have hrb9:=range_below HA.out.2.2.2.1 HA.out.2.2.2.2.1 hw9
    clear hz hal hw9
    go_wp2
    go_ret
    refine ⟨?_,HB9.out⟩
    rw [doneM_no (t:=k) (by rw [HN.out.1];exact hkn) (by rw [HA.out.2.1];rfl)]
    rfl
   ·by_cases s1:st=1
    ·subst s1
     go_wp2_with (first|(refine wpList_load_mid rfl 124 (.tmp 13) rfl g1 (k*10) rfl (⟨pc,regs,1⟩:Th).cells _ hra Tryz.underlying124 rfl th_info ?_)|(refine wpList_store_row rfl 124 (.tmp 4) (.tmp 14) rfl _ rfl (thArr ⟨pc,regs,1⟩) rfl 124 _ hz rfl th_info (th_one _) ?_))
     intro W9 hb9 hg9
     have p9:W9.cell? ⟨wr.heap.size,9,none⟩=some (.int .i64 1):=(hb9.cell 9).trans rfl
     have hw9:Below wr.heap.size wr W9:=hal.trans (below_of_grownT hal.size hg9 (fun g e=>by cases e;exact Nat.le_refl _))
     have HB9:=Lib.hid (HA.out.2.2.1.trans (hw9.mono HA.out.2.2.1.size))
     have c2:=keepAt hw9 HA.out.2.2.2.2.2.2.1 HA.out.2.2.2.2.2.1
     have hrb9:=range_below HA.out.2.2.2.1 HA.out.2.2.2.2.1 hw9
     clear hz hal hw9
     go_wp2
     go_ret
     refine ⟨?_,HB9.out⟩
     rw [doneM_no (t:=k) (by rw [HN.out.1];exact hkn) (by rw [HA.out.2.1];rfl)]
     rfl
    ·have hD:=HA.out.2.1
     rw [show (st !=0)=true by simpa using s0,show (st !=1)=true by simpa using s1]at hD
     have HD:=Lib.hid hD
     clear hD
     have hs0:(st==0)=false:=by simpa using s0
     have hs1:(st==1)=false:=by simpa using s1
     go_wp2_with (first|(refine wpList_load_mid rfl 124 (.tmp 13) rfl g1 (k*10) rfl (⟨pc,regs,st⟩:Th).cells _ hra Tryz.underlying124 rfl th_info ?_)|(refine wpList_store_row rfl 124 (.tmp 4) (.tmp 14) rfl _ rfl (thArr ⟨pc,regs,st⟩) rfl 124 _ hz rfl th_info (th_one _) ?_))
     intro W9 hb9 hg9
     have p9:W9.cell? ⟨wr.heap.size,9,none⟩=some (.int .i64 st):=(hb9.cell 9).trans rfl
     have hw9:Below wr.heap.size wr W9:=hal.trans (below_of_grownT hal.size hg9 (fun g e=>by cases e;exact Nat.le_refl _))
     have HB9:=Lib.hid (HA.out.2.2.1.trans (hw9.mono HA.out.2.2.1.size))
     have c2:=keepAt hw9 HA.out.2.2.2.2.2.2.1 HA.out.2.2.2.2.2.1
     have hrb9:=range_below HA.out.2.2.2.1 HA.out.2.2.2.2.1 hw9
     clear hz hal hw9
     go_wp2_with (refine wpList_load_midG (by simp [Region.wanted,yielded,s0,s1]) 114 (.tmp 29) rfl gb (k*35) rfl cs.toList _ hrb9 Tryz.underlying114 rfl HA.out.2.2.2.2.2.2.2 ?_)
     refine (hC W9).mono ?_
     rintro e W10 ⟨rfl,hB10⟩
     have HE:=Lib.hid (HB9.out.trans (hB10.mono HB9.out.size))
     clear hC hB10
     by_cases m0:m=0
     ·subst m0
      go_wp2
      go_roundw
      case rel=>
       refine ⟨k+1,by omega,by go_num,fun j hj=>?_,HE.out⟩
       by_cases c:j<k
       ·exact HA.out.1 j c
       ·obtain rfl:j=k:=by omega
        exact HD.out
      case measure=>simp [intOf];omega
     ·have m1:(0:Int)<(m:Int):=by omega
      go_wp2
      go_ret
      refine ⟨?_,HE.out⟩
      rw [doneM_no (t:=k) (by rw [HN.out.1];exact hkn) (by rw [HD.out];simpa using m0)]
      rfl
  ·obtain rfl:k=n:=by omega
   have hk1: ¬(k:Int)<(k:Int):=by omega
   have HA:=Lib.hid (And.intro hall hB)
   clear hall hB
   go_wp2
   go_ret
   refine ⟨?_,HA.out.2⟩
   rw [doneM_yes (by rw [HN.out.1];exact HA.out.1)]
   rfl
section
variable {nt:Nat} {kd:Nat->Nat->Bool} {rd:Nat->Nat} {bs:Nat->Nat->Nat} {v:Vw} {g:RG} {t:Nat}
def rwRd (t:Nat) (isW:Bool) (q:Nat):List Op:=if isW=true then wrL t q else rdL t q
theorem rwRd_len (t:Nat) (isW:Bool) (q:Nat):(rwRd t isW q).length=if isW=true then 41 else 48:=by
 unfold rwRd;cases isW<;>rfl
def rwB (kd:Nat->Bool):Nat->Nat
 |0=>0
 |n+1=>rwB kd n+(if kd n=true then 41 else 48)
theorem rwB_le (kd:Nat->Bool) (n:Nat):rwB kd n<=48*n:=by
 induction n with
 |zero=>exact Nat.le_refl _
 |succ n ih=>
  show rwB kd n+_<=_
  split<;>omega
theorem rwB_mono (kd:Nat->Bool) {n m:Nat} (h:n<=m):rwB kd n<=rwB kd m:=bs_mono (rd:=m) (ln:=fun n=>if kd n=true then 41 else 48) (fun _ _=>rfl) h (Nat.le_refl _)
theorem rwm_start (h8:nt<=8) (hrd: ∀t,t<nt->rd t<=4) (h1: ∀t,v.th t=tha) (h2: ∀t,v.bf t=[]) (h3: ∀i,v.mem i=0) (h4:v.evs=[]):RwI nt kd rd (fun t=>rwB (kd t)) v ⟨none,fun _=>false,0,none,fun _=>false,fun _=>0⟩:=by
 have hz:sumT nt (fun _=>0)=0:=sumT_none (fun _ _=>rfl)
 have hz2:(sumT nt fun _=>b2n false)=0:=sumT_none (fun _ _=>rfl)
 refine ⟨h8,hrd,fun t n=>rfl,fun _=>⟨(h3 16).trans ?_,h3 0⟩,(fun u q=>by cases q),fun t ht=>?_,hz.symm,(fun u q=>by cases q),?_⟩
 ·show (0:Int)=((sumT nt fun _=>b2n false:Nat):Int)
  rw [hz2];rfl
 ·rw [h1,h2]
  have eA:RG.at_ ⟨none,fun _=>false,0,none,fun _=>false,fun _=>0⟩ v t=⟨false,false,false,false,0,0,0,0,[]⟩:=by
   unfold RG.at_
   rw [h4,h3,h3]
   rfl
  rw [eA]
  have F:RFree ⟨false,false,false,false,0,0,0,0,[]⟩ (wrs (kd t) 0) []:=⟨rfl,rfl,rfl,rfl,rfl,rfl,rfl,⟨⟨fun i h1 h2=>absurd h2 (by simp),fun x hx=>by cases hx⟩,rfl⟩⟩
  refine ⟨0,0,rfl,?_⟩
  rcases Nat.eq_zero_or_pos (rd t)with c|c
  ·exact .inr ⟨c.symm,rfl,.inl rfl,F⟩
  ·refine .inl ⟨c,.inl rfl,?_⟩
   cases hk:kd t 0 with
   |true=>exact .inl ⟨rfl,by decide,F⟩
   |false=>exact .inr ⟨rfl,by decide,F⟩
 ·rw [h4]
  show some ((-1:Int),(0:Int))=some (-1,((sumT nt fun _=>b2n false:Nat):Int))
  rw [hz2];rfl
theorem RLoc.done {kd:Nat->Bool} {rd:Nat} {bs:Nat->Nat} {L:RL} {th:Th} {b:List Ent} (h:RLoc kd rd bs L t th b) (hst:th.st=2):RFree L (wrs kd rd) b:=by
 obtain ⟨n,o,hp,h|h⟩:=h
 ·have :=h.2.1
  omega
 ·rw [<-h.1];exact h.2.2.2
def rwT (t:Nat) (kd:Nat->Bool) (rd:Nat):List Ins:=(codeOf (fun n=>rwRd t (kd n) (rwB kd n)) rd).map Op.ins
theorem wrL_ok {t q size m:Nat} (ht:t<=8) (hm:17+t<m) (hq:q+41<=size): ∀op∈wrL t q,opOk size m op:=by
 intro op hop
 simp only [wrL,List.mem_cons,List.not_mem_nil,or_false]at hop
 rcases hop with rfl|rfl|rfl|rfl|rfl|rfl|rfl|rfl|rfl|rfl|rfl|rfl|rfl|rfl|rfl|rfl|rfl|rfl|rfl|rfl|rfl|rfl|rfl|rfl|rfl|rfl|rfl|rfl|rfl|rfl|rfl|rfl|rfl|rfl|rfl|rfl|rfl|rfl|rfl|rfl|rfl<;>(dsimp only [opOk];omega)
theorem rdL_ok {t q size m:Nat} (ht:t<=8) (hm:17+t<m) (hq:q+48<=size): ∀op∈rdL t q,opOk size m op:=by
 intro op hop
 simp only [rdL,List.mem_cons,List.not_mem_nil,or_false]at hop
 rcases hop with rfl|rfl|rfl|rfl|rfl|rfl|rfl|rfl|rfl|rfl|rfl|rfl|rfl|rfl|rfl|rfl|rfl|rfl|rfl|rfl|rfl|rfl|rfl|rfl|rfl|rfl|rfl|rfl|rfl|rfl|rfl|rfl|rfl|rfl|rfl|rfl|rfl|rfl|rfl|rfl|rfl|rfl|rfl|rfl|rfl|rfl|rfl|rfl<;>(dsimp only [opOk];omega)
theorem rwRd_ok {t n rd m:Nat} (kd:Nat->Bool) (ht:t<=8) (hm:17+t<m) (hn:n<rd): ∀op∈rwRd t (kd n) (rwB kd n),opOk (rwB kd rd) m op:=by
 have h1:=rwB_mono kd (show n+1<=rd from hn)
 have h2:rwB kd (n+1)=rwB kd n+(if kd n=true then 41 else 48):=rfl
 unfold rwRd
 cases hk:kd n with
 |true=>rw [hk,if_pos rfl]at h2;rw [if_pos rfl];exact wrL_ok ht hm (by omega)
 |false=>rw [hk,if_neg (by decide)]at h2;rw [if_neg (by decide)];exact rdL_ok ht hm (by omega)
theorem rwT_good (t:Nat) (kd:Nat->Bool) (rd:Nat) (ht:t<=8) (hr:rd<=4):(∀x∈rwT t kd rd,x.Ok)/\(∀x∈rwT t kd rd,rightB x ((rwT t kd rd).length:Int)=true)/\(rwT t kd rd).length=rwB kd rd:=
 codeOf_good (bs:=rwB kd) (m:=26) rfl (fun n _=>by rw [rwRd_len];rfl) (fun n hn op hop=>rwRd_ok kd ht (by omega) hn op hop) (by have :=rwB_le kd rd;omega) (by decide)
end
end Go.Proofs.YtmhfpjnkjlhbpaaGreatDoor
