/- Programs that a law builds: what may stand in a code; rows of codes in memory; picks one behind the other, however many. Calls of a machine's events (plain). tso.Machine.Done. -/
import Derived.Test.YtmhfpjnkjlhbpaaGreatDoorQf30
import Derived.Test.YtmhfpjnkjlhbpaaGreatDoorQf27
import Derived.Test.YtmhfpjnkjlhbpaaGreatDoorQf22
namespace Go.Proofs.YtmhfpjnkjlhbpaaGreatDoor
open Go.ChangeShapes Go.WideShapes Go.ChangeAt Go.RowKit Go.Deep
set_option linter.unusedVariables false
set_option maxRecDepth 100000
set_option linter.unusedSimpArgs false
def opOk (size m:Nat):Op->Prop
 | .set a k=>a<8/\0<=k/\k<=4294967295
 | .move a b=>a<8/\b<8
 | .add a b c| .and a b c| .same a b c=>a<8/\b<8/\c<8
 | .jump k=>k<=size
 | .zero a k| .some a k=>a<8/\k<=size
 | .load a x| .store a x| .swap a x| .fetch a x| .wait a x| .wake a x=>a<8/\x<m
 | .cas a c x=>a<8/\c<8/\x<m
 | .out a=>a<8
 | .mark k=>k<=4294967295
theorem kinds_at:kindAt 1=⟨true,false,false,false,false,true⟩/\kindAt 2=⟨true,true,false,false,false,false⟩/\kindAt 3=⟨true,true,false,true,false,false⟩/\kindAt 6=⟨true,true,false,true,false,false⟩/\kindAt 12=⟨true,true,false,true,false,false⟩/\
 kindAt 13=⟨false,false,false,false,true,false⟩/\kindAt 14=⟨true,false,false,false,true,false⟩/\kindAt 15=⟨true,false,false,false,true,false⟩/\kindAt 16=⟨true,false,true,false,false,true⟩/\kindAt 17=⟨true,false,true,false,false,true⟩/\
 kindAt 19=⟨true,false,true,false,false,true⟩/\kindAt 20=⟨true,false,true,false,false,true⟩/\kindAt 21=⟨true,false,true,true,false,true⟩/\kindAt 22=⟨true,false,false,false,false,false⟩/\kindAt 23=⟨true,false,true,false,false,true⟩/\
 kindAt 24=⟨true,false,true,false,false,true⟩/\kindAt 27=⟨true,false,false,false,false,true⟩:=
 ⟨by kernel_rfl,by kernel_rfl,by kernel_rfl,by kernel_rfl,by kernel_rfl,by kernel_rfl,by kernel_rfl,by kernel_rfl,by kernel_rfl,by kernel_rfl,by kernel_rfl,by kernel_rfl,by kernel_rfl,by kernel_rfl,by kernel_rfl,by kernel_rfl,by kernel_rfl⟩
theorem right_of {op a b c k size:Int} {q:Kind} (h0:0<=op/\op<28) (hq:kindAt op.toNat=q) (h:RightP q a b c k size):rightB ⟨op,a,b,c,k⟩ size=true:=by
 unfold rightB
 rw [if_pos h0]
 dsimp only
 rw [hq]
 exact decide_eq_true h
theorem opOk.right {size m:Nat} {o:Op} (h:opOk size m o) (hs:size<=4000) (hm:m<=1024):rightB o.ins (size:Int)=true/\o.ins.Ok/\ ∀x,o.word=some x->x<m:=by
 obtain ⟨k1,k2,k3,k6,k12,k13,k14,k15,k16,k17,k19,k20,k21,k22,k23,k24,k27⟩:=kinds_at
 have nn: ∀{n:Nat},n<8->(0:Int)<=(n:Int)/\(n:Int)<=7:=fun h=>by omega
 have n100: ∀{n:Nat},n<8->(0:Int)<=(n:Int)/\(n:Int)<=100:=fun h=>by omega
 have z:(0:Int)<=0/\(0:Int)<=100:=by decide
 have e8:(0:Int)<=8/\(8:Int)<=8:=by decide
 have e8':(0:Int)<=8/\(8:Int)<=100:=by decide
 cases o with
 |set a k=>exact ⟨right_of (by decide) k1 ⟨nn h.1,rfl,rfl,.inl rfl⟩,insOk ⟨by decide,n100 h.1,z,z,h.2⟩,fun x q=>by cases q⟩
 |move a b=>exact ⟨right_of (by decide) k2 ⟨nn h.1,nn h.2,rfl,.inr rfl⟩,insOk ⟨by decide,n100 h.1,n100 h.2,z,by decide,by decide⟩,fun x q=>by cases q⟩
 |add a b c=>exact ⟨right_of (by decide) k3 ⟨nn h.1,nn h.2.1,nn h.2.2,.inr rfl⟩,insOk ⟨by decide,n100 h.1,n100 h.2.1,n100 h.2.2,by decide,by decide⟩,fun x q=>by cases q⟩
 |and a b c=>exact ⟨right_of (by decide) k6 ⟨nn h.1,nn h.2.1,nn h.2.2,.inr rfl⟩,insOk ⟨by decide,n100 h.1,n100 h.2.1,n100 h.2.2,by decide,by decide⟩,fun x q=>by cases q⟩
 |same a b c=>exact ⟨right_of (by decide) k12 ⟨nn h.1,nn h.2.1,nn h.2.2,.inr rfl⟩,insOk ⟨by decide,n100 h.1,n100 h.2.1,n100 h.2.2,by decide,by decide⟩,fun x q=>by cases q⟩
 |jump k=>
  have h:k<=size:=h
  exact ⟨right_of (by decide) k13 ⟨rfl,rfl,rfl,by show (0:Int)<=size/\(k:Int)<=size;omega⟩,insOk ⟨by decide,z,z,z,by omega,by omega⟩,fun x q=>by cases q⟩
 |zero a k=>
  have h2:k<=size:=h.2
  exact ⟨right_of (by decide) k14 ⟨nn h.1,rfl,rfl,by show (0:Int)<=size/\(k:Int)<=size;omega⟩,insOk ⟨by decide,n100 h.1,z,z,by omega,by omega⟩,fun x q=>by cases q⟩
 |some a k=>
  have h2:k<=size:=h.2
  exact ⟨right_of (by decide) k15 ⟨nn h.1,rfl,rfl,by show (0:Int)<=size/\(k:Int)<=size;omega⟩,insOk ⟨by decide,n100 h.1,z,z,by omega,by omega⟩,fun x q=>by cases q⟩
 |load a x=>
  have h2:x<m:=h.2
  exact ⟨right_of (by decide) k16 ⟨nn h.1,e8,rfl,.inl rfl⟩,insOk ⟨by decide,n100 h.1,e8',z,by omega,by omega⟩,fun y q=>by rw [<-Option.some.inj q];exact h2⟩
 |store a x=>
  have h2:x<m:=h.2
  exact ⟨right_of (by decide) k17 ⟨nn h.1,e8,rfl,.inl rfl⟩,insOk ⟨by decide,n100 h.1,e8',z,by omega,by omega⟩,fun y q=>by rw [<-Option.some.inj q];exact h2⟩
 |swap a x=>
  have h2:x<m:=h.2
  exact ⟨right_of (by decide) k19 ⟨nn h.1,e8,rfl,.inl rfl⟩,insOk ⟨by decide,n100 h.1,e8',z,by omega,by omega⟩,fun y q=>by rw [<-Option.some.inj q];exact h2⟩
 |fetch a x=>
  have h2:x<m:=h.2
  exact ⟨right_of (by decide) k20 ⟨nn h.1,e8,rfl,.inl rfl⟩,insOk ⟨by decide,n100 h.1,e8',z,by omega,by omega⟩,fun y q=>by rw [<-Option.some.inj q];exact h2⟩
 |cas a c x=>
  have h2:x<m:=h.2.2
  exact ⟨right_of (by decide) k21 ⟨nn h.1,e8,nn h.2.1,.inl rfl⟩,insOk ⟨by decide,n100 h.1,e8',n100 h.2.1,by omega,by omega⟩,fun y q=>by rw [<-Option.some.inj q];exact h2⟩
 |out a=>exact ⟨right_of (by decide) k22 ⟨nn h,rfl,rfl,.inr rfl⟩,insOk ⟨by decide,n100 h,z,z,by decide,by decide⟩,fun x q=>by cases q⟩
 |wait a x=>
  have h2:x<m:=h.2
  exact ⟨right_of (by decide) k23 ⟨nn h.1,e8,rfl,.inl rfl⟩,insOk ⟨by decide,n100 h.1,e8',z,by omega,by omega⟩,fun y q=>by rw [<-Option.some.inj q];exact h2⟩
 |wake a x=>
  have h2:x<m:=h.2
  exact ⟨right_of (by decide) k24 ⟨nn h.1,e8,rfl,.inl rfl⟩,insOk ⟨by decide,n100 h.1,e8',z,by omega,by omega⟩,fun y q=>by rw [<-Option.some.inj q];exact h2⟩
 |mark k=>
  have h:k<=4294967295:=h
  exact ⟨right_of (by decide) k27 ⟨by decide,rfl,rfl,.inl rfl⟩,insOk ⟨by decide,by decide,z,z,by omega,by omega⟩,fun x q=>by cases q⟩
def codeOf (code:Nat->List Op) (rd:Nat):List Op:=(List.range rd).flatMap code
theorem codeOf_succ (code:Nat->List Op) (rd:Nat):codeOf code (rd+1)=codeOf code rd++code rd:=by
 unfold codeOf
 rw [List.range_succ,List.flatMap_append]
 simp
theorem codeOf_len {code:Nat->List Op} {bs:Nat->Nat} (h0:bs 0=0): ∀{rd:Nat},(∀n,n<rd->bs (n+1)=bs n+(code n).length)->(codeOf code rd).length=bs rd
 |0,_=>h0.symm
 |rd+1,h=>by rw [codeOf_succ,List.length_append,codeOf_len h0 (fun n hn=>h n (by omega)),h rd (by omega)]
theorem codeOf_get {code:Nat->List Op} {bs:Nat->Nat} (h0:bs 0=0): ∀{rd:Nat},(∀n,n<rd->bs (n+1)=bs n+(code n).length)-> ∀n,n<rd-> ∀o op,(code n)[o]?=some op->(codeOf code rd)[bs n+o]?=some op
 |0,_,n,hn,_,_,_=>absurd hn (by omega)
 |rd+1,h,n,hn,o,op,ho=>by
  have hl:=codeOf_len h0 (rd:=rd) (fun n hn=>h n (by omega))
  have ho2:=(List.getElem?_eq_some_iff.1 ho).1
  rw [codeOf_succ]
  rcases Nat.lt_or_ge n rd with c|c
  ·have h1:=bs_mono (rd:=rd) (fun n hn=>h n (by omega)) (n:=n+1) (m:=rd) (by omega) (Nat.le_refl _)
   have h2:=h n hn
   rw [List.getElem?_append_left (by omega)]
   exact codeOf_get h0 (fun n hn=>h n (by omega)) n c o op ho
  ·obtain rfl:n=rd:=by omega
   rw [List.getElem?_append_right (by omega),hl,Nat.add_sub_cancel_left]
   exact ho
theorem coded_of {B:MB} {t rd:Nat} {bs:Nat->Nat} {code:Nat->List Op} (h0:bs 0=0) (hnx: ∀n,n<rd->bs (n+1)=bs n+(code n).length) (hl:(B.codes.getD t cdd).len=((codeOf code rd).map Op.ins).length)
 (hF:(B.codes.getD t cdd).F=fun i=>((codeOf code rd).map Op.ins).getD i default) (hok: ∀n,n<rd-> ∀op∈code n,opOk (bs rd) B.m op) (hs:bs rd<=4000) (hm:B.m<=1024):Coded B t rd bs code:=by
 have hlen:(B.codes.getD t cdd).len=bs rd:=by rw [hl,List.length_map,codeOf_len h0 hnx]
 refine ⟨hlen,hnx,fun n hn o op hop=>?_,fun n hn op hop=>?_⟩
 ·rw [hF]
  have :=codeOf_get h0 hnx n hn o op hop
  show ((codeOf code rd).map Op.ins).getD (bs n+o) default=op.ins
  rw [List.getD_eq_getElem?_getD,List.getElem?_map,this]
  rfl
 ·obtain ⟨h1,_,h3⟩:=(hok n hn op hop).right hs hm
  rw [hlen]
  exact ⟨h1,h3⟩
theorem codeOf_mem {code:Nat->List Op} {rd:Nat} {op:Op} (h:op∈codeOf code rd): ∃n,n<rd/\op∈code n:=by
 obtain ⟨n,h1,h2⟩:=List.mem_flatMap.1 h
 exact ⟨n,List.mem_range.1 h1,h2⟩
theorem codeOf_good {code:Nat->List Op} {bs:Nat->Nat} (h0:bs 0=0) {rd m:Nat} (hnx: ∀n,n<rd->bs (n+1)=bs n+(code n).length) (hok: ∀n,n<rd-> ∀op∈code n,opOk (bs rd) m op) (hs:bs rd<=4000) (hm:m<=1024):
 (∀x∈(codeOf code rd).map Op.ins,x.Ok)/\(∀x∈(codeOf code rd).map Op.ins,rightB x (((codeOf code rd).map Op.ins).length:Int)=true)/\((codeOf code rd).map Op.ins).length=bs rd:=by
 have hl:((codeOf code rd).map Op.ins).length=bs rd:=by rw [List.length_map,codeOf_len h0 hnx]
 have one: ∀x∈(codeOf code rd).map Op.ins,rightB x (bs rd:Int)=true/\x.Ok:=fun x hx=>by
  obtain ⟨op,h1,rfl⟩:=List.mem_map.1 hx
  obtain ⟨n,hn,h2⟩:=codeOf_mem h1
  obtain ⟨q1,q2,_⟩:=(hok n hn op h2).right hs hm
  exact ⟨q1,q2⟩
 refine ⟨fun x hx=>(one x hx).2,fun x hx=>?_,hl⟩
 rw [hl];exact (one x hx).1
def CdRow (W:World) (base:Nat) (v:Value) (L:List (List Ins)):Prop:=
 ∃vals:List Value,vals.length=L.length/\W.ownsRow base 50 1 v L.length vals/\ ∀i,i<L.length->W.ownsRow base 75 5 (vals.getD i undef) (L.getD i []).length ((L.getD i []).flatMap Ins.cells)
theorem CdRow.nil (W:World) (base:Nat):CdRow W base (.slice none 0 0) []:=⟨[],rfl,⟨rfl,.inl ⟨rfl,rfl⟩⟩,fun i hi=>absurd hi (by simp)⟩
section
variable {W W':World} {base:Nat} {v v':Value} {L:List (List Ins)}
theorem CdRow.below (h:CdRow W base v L) (hb:Below W.heap.size W W'):CdRow W' base v L:=by
 obtain ⟨vals,h1,h2,h3⟩:=h
 exact ⟨vals,h1,own_below h2 (Nat.le_refl _) hb,fun i hi=>own_below (h3 i hi) (Nat.le_refl _) hb⟩
theorem own_weak {W:World} {b b' s n:Nat} {e:TypeId} {v:Value} {xs:List Value} (h:W.ownsRow b e s v n xs) (hb:b'<=b):W.ownsRow b' e s v n xs:=by
 refine ⟨h.1,?_⟩
 rcases h.2 with hn|⟨g,cap,cur,rfl,hbg,rest⟩
 ·exact .inl hn
 ·exact .inr ⟨g,cap,cur,rfl,Nat.le_trans hb hbg,rest⟩
theorem CdRow.snoc {vals:List Value} {c:Value} {l:List Ins} (h1:vals.length=L.length) (h2:W.ownsRow base 50 1 v L.length vals) (h3: ∀i,i<L.length->W.ownsRow base 75 5 (vals.getD i undef) (L.getD i []).length ((L.getD i []).flatMap Ins.cells))
 {b2:Nat} (hc:W.ownsRow b2 75 5 c l.length (l.flatMap Ins.cells)) (hb2:base<=b2) (hg:W.grownBy W' v.ownBlock) (hr:W'.ownsRow base 50 1 v' (L.length+1) (vals++[c])):CdRow W' base v' (L++[l]):=by
 have hne:75≠50:=by decide
 refine ⟨vals++[c],by simp [h1],by rw [List.length_append];exact hr,fun i hi=>?_⟩
 rcases getD_snoc L l [] i hi with ⟨hlt,e⟩|⟨rfl,e⟩
 ·have e2:(vals++[c]).getD i undef=vals.getD i undef:=by
   simp only [List.getD_eq_getElem?_getD];rw [List.getElem?_append_left (by omega)]
  rw [e,e2]
  exact own_apart (h3 i hlt) h2 hne hg
 ·have e2:(vals++[c]).getD L.length undef=c:=by
   simp only [List.getD_eq_getElem?_getD];rw [List.getElem?_append_right (by omega),h1];simp
  rw [e,e2]
  exact own_weak (own_apart hc h2 hne hg) hb2
def lPg (A:Option Addr) (n cap:Nat) (cds:Nat->Cd) (mA:Option Addr) (m mcap:Nat) (room:Int):Pg:=⟨A,n,cap,cds,mA,m,mcap,fun _=>0,room⟩
theorem CdRow.prog (h:CdRow W base v L) (hok: ∀l∈L,∀x∈l,x.Ok) (hright: ∀l∈L,∀x∈l,rightB x (l.length:Int)=true) (hlen: ∀l∈L,l.length<=4000) (hn:1<=L.length/\L.length<=8) {room:Int} (hroom:1<=room/\room<=16) {mA:Option Addr} {m mcap:Nat} (hm:m<=1024) (hmc:m<=mcap/\mcap<=maxLen) (hmem:Sl W mA m (fun _=> .int .u32 0)):
 ∃A cap cds,v= .slice A L.length cap/\(lPg A L.length cap cds mA m mcap room).Ok/\Chk (lPg A L.length cap cds mA m mcap room) 0 0 0/\(lPg A L.length cap cds mA m mcap room).At W/\ ∀t,t<L.length->(cds t).len=(L.getD t []).length/\(cds t).F=fun i=>(L.getD t []).getD i default:=by
 obtain ⟨vals,h1,h2,h3⟩:=h
 have hv: ∀t,t<L.length-> ∃A cap,vals.getD t undef= .slice A (L.getD t []).length cap/\(L.getD t []).length<=cap/\cap<=maxLen/\SlE W A (L.getD t []).length 5 (fun i=>((L.getD t []).getD i default).cells):=fun t ht=>by
  obtain ⟨A,cap,e,hc,hs⟩:=own_sle Ins.cells (fun _=>rfl) default (L.getD t []) (h3 t ht)
  obtain ⟨_,cap',e2,_,hm2⟩:=own_cap (h3 t ht)
  rw [e]at e2
  injection e2 with _ _ e3
  exact ⟨A,cap,e,hc,by rw [e3];exact hm2,hs⟩
 let cds:Nat->Cd:=fun t=>if ht:t<L.length then ⟨(hv t ht).choose,(L.getD t []).length,(hv t ht).choose_spec.choose,fun i=>(L.getD t []).getD i default⟩else cdd
 have hcd: ∀t (ht:t<L.length),(cds t).val=vals.getD t undef/\(cds t).len=(L.getD t []).length/\(cds t).F=(fun i=>(L.getD t []).getD i default)/\(cds t).len<=(cds t).cap/\(cds t).cap<=maxLen/\(cds t).At W:=fun t ht=>by
  have e:cds t=⟨(hv t ht).choose,(L.getD t []).length,(hv t ht).choose_spec.choose,fun i=>(L.getD t []).getD i default⟩:=dif_pos ht
  obtain ⟨q1,q2,q3,q4⟩:=(hv t ht).choose_spec.choose_spec
  rw [e]
  exact ⟨q1.symm,rfl,rfl,q2,q3,q4⟩
 have hmem': ∀t,t<L.length->L.getD t []∈L:=fun t ht=>by rw [List.getD_eq_getElem?_getD,List.getElem?_eq_getElem ht];exact List.getElem_mem ht
 have hget: ∀(l:List Ins) i,i<l.length->l.getD i default∈l:=fun l i hi=>by rw [List.getD_eq_getElem?_getD,List.getElem?_eq_getElem hi];exact List.getElem_mem hi
 obtain ⟨A,cap,rfl,hc,hcm⟩:=own_cap h2
 obtain ⟨A',cap',e',_,hsl⟩:=own_sl (size:=1) h2
 injection e' with e1 _ _
 subst e1
 refine ⟨A,cap,cds,rfl,⟨hc,hcm,hmc.1,hmc.2,fun t ht=>?_,fun _ _=>(by decide:(0:Int)<=0/\(0:Int)<=4294967295),by have :=hroom.1;show _<=room;omega,by have :=hroom.2;show room<=_;omega⟩,.fine hn.1 hn.2 hroom.1 hroom.2 hm (fun t ht=>?_),⟨fun hp=>?_,fun t ht=>(hcd t ht).2.2.2.2.2,hmem⟩,fun t ht=>⟨(hcd t ht).2.1,(hcd t ht).2.2.1⟩⟩
 ·obtain ⟨_,e2,e3,q1,q2,_⟩:=hcd t ht
  refine ⟨q1,q2,fun i hi=>?_⟩
  show ((cds t).F i).Ok
  rw [e3]
  have hi':i<(cds t).len:=hi
  exact hok _ (hmem' t ht) _ (hget _ _ (by rw [<-e2];exact hi'))
 ·obtain ⟨_,e2,e3,_⟩:=hcd t ht
  refine ⟨by show (cds t).len<=4000;rw [e2];exact hlen _ (hmem' t ht),fun i hi=>?_⟩
  show rightB ((cds t).F i) ((cds t).len:Int)=true
  have hi':i<(cds t).len:=hi
  rw [e3,e2]
  exact hright _ (hmem' t ht) _ (hget _ _ (by rw [<-e2];exact hi'))
 ·obtain ⟨b,off,e,hlt,hcell⟩:=hsl (by rw [Nat.mul_one];exact hp)
  refine ⟨b,off,e,hlt,fun i hi=>?_⟩
  have hi:i<L.length:=hi
  rw [hcell i (by rw [Nat.mul_one];exact hi)]
  show some (vals.getD i undef)=some (cds i).val
  rw [(hcd i hi).1]
end
set_option maxHeartbeats 2000000 in
theorem trun2_any (B:MB) (hB:MBok B) (s:Mst) (hr16:B.room<=16) (hs:TOk B s) (A:Option Addr) (n cap:Nat) (F:Nat->Int×Int) (hc:EvC 999999000 (2*n) s) (own:Nat->Prop) (W:World) (hI:MInv tsoL B s own W) (hT:Tab W)
 (hsl:SlE W A n 2 (fun i=>pkc (F i))) (hA:0<n-> ∀b o,A=some ⟨b,o,none⟩-> ¬own b) (hn:n<=1000000000):
 Calls Tryz.prog 17 #[.pointer (some ⟨B.mb,0,none⟩),.slice A n cap] W fun e W'=>(∃u,e= .returned u)/\Moves (MInv tsoL B) (tRun B s ((List.range n).map F)) own W W':=by
 have hlo:=hI.lo
 have HB:=Lib.hid (And.intro hB (And.intro hr16 (And.intro hs (And.intro hc (And.intro hT hlo)))))
 have HS:=Lib.hid (And.intro hsl hA)
 have HI:=Lib.hid hI.stay
 clear hB hr16 hs hc hI hT hsl hA hlo
 go_enter Tryz.func17,Tryz.ntmps17
 go_wp2_with fail
 go_loopw [5,8] (fun q i wr=> ∃k:Nat,k<=n/\i= .int .i64 (k:Int)/\Moves (MInv tsoL B) (tRun B s ((List.range k).map F)) own W wr) (fun _ i _=>n-(intOf i).toNat)
 case atStart=>exact ⟨0,Nat.zero_le _,rfl,HI.out⟩
 case round=>
  obtain ⟨k,hk,rfl,hM⟩:=hrel
  by_cases hkn:k<n
  ·have hk0:(0:Int)<=(k:Int):=by omega
   have hk1:(k:Int)<(n:Int):=by omega
   have hM0:=hM
   obtain ⟨own1,hI1,ho1,hk1'⟩:=hM
   obtain ⟨b,off,rfl,hlt,hcc⟩:=hk1'.sle HS.out.1 HS.out.2 (by omega)
   obtain ⟨x,hx⟩: ∃x,F k=x:=⟨_,rfl⟩
   have k0:=hcc k hkn 0 (.int .i64 (F k).1) rfl
   have k1:=hcc k hkn 1 (.int .i64 (F k).2) rfl
   rw [hx]at k0 k1
   rw [Nat.add_zero]at k0
   have HX:=Lib.hid hx
   have hal:=(Below.refl wr.heap.size wr).alloc (Nat.le_refl _) (.cells #[.int .i64 x.1,.int .i64 x.2] 78)
   have hM1:=hM0.belowM hal
   have hT1:Tab wr:=hk1'.tab HB.out.2.2.2.2.2 HB.out.2.2.2.2.1
   have HM1:=Lib.hid (And.intro hM1 (hT1.step hal))
   have HK:=Lib.hid (And.intro ho1 hk1')
   clear hM0 hI1 ho1 hk1' hcc hx hal hM1 hT1
   go_wp2_with fail
   have hcall:Calls Tryz.prog 36 #[.pointer (some ⟨B.mb,0,none⟩),.agg #[.int .i64 x.1,.int .i64 x.2]] (wr.alloc (.cells #[.int .i64 x.1,.int .i64 x.2] 78)) fun e W'=>(∃u,e= .returned u)/\Moves (MInv tsoL B) (tRun B s ((List.range (k+1)).map F)) own W W':=by
    obtain ⟨own2,hI2,ho2,hk2⟩:=HM1.out.1
    have hcan:mCan B 3 (tRun B s ((List.range k).map F)):=can_of (tRun_ok HB.out.1 _ s HB.out.2.2.1) HB.out.1 (tRun_evc ((List.range k).map F) (HB.out.2.2.2.1.mono (by rw [List.length_map,List.length_range];omega)))
    refine (tpick_any B HB.out.1 HB.out.2.1 _ (tRun_ok HB.out.1 _ s HB.out.2.2.1) hcan own2 _ hI2 HM1.out.2 x).mono fun e W' ⟨he,hm⟩=>⟨he,?_⟩
    rw [List.range_succ,List.map_append,List.map_cons,List.map_nil,HX.out,tRun_snoc]
    exact Moves.after ho2 hk2 hm
   refine hcall.mono ?_
   rintro e W2 ⟨⟨u,rfl⟩,hM2⟩
   clear hcall k0 k1
   go_wp2
   go_roundw
   case rel=>exact ⟨k+1,by omega,by go_num,hM2⟩
   case measure=>simp [intOf];omega
  ·obtain rfl:n=k:=by omega
   have hk1: ¬(n:Int)<(n:Int):=by omega
   go_wp2
   go_end0
   exact ⟨⟨_,rfl⟩,hM⟩
def evB (x:Evt):EvB:=⟨x.kind,x.who,x.pc,x.addr,x.value,x.old,x.k % 4294967296,x.ok,Int.emod_nonneg _ (by decide),by have :=Int.emod_lt_of_pos x.k (by decide:(0:Int)<4294967296);omega⟩
def evF (l:List Evt) (i:Nat):EvB:=evB (l.getD i ev0)
theorem evF_sle {W:World} {A:Option Addr} {l:List Evt} (h:EvK l) (hs:SlE W A l.length 8 (fun i=>(l.getD i ev0).cells)):SlE W A l.length 8 (fun i=>(evF l i).cells):=fun hn=>by
 obtain ⟨b,off,e,hlt,hc⟩:=hs hn
 refine ⟨b,off,e,hlt,fun i hi j u hu=>hc i hi j u ?_⟩
 have hm:l.getD i ev0∈l:=getD_mem hi
 have hk:=h _ hm
 have e2:(l.getD i ev0).k % 4294967296=(l.getD i ev0).k:=Int.emod_eq_of_lt hk.1 (by omega)
 have e3:(evF l i).cells=(l.getD i ev0).cells:=by
  unfold evF evB EvB.cells Evt.cells
  dsimp only
  rw [e2]
 have hu':(evF l i).cells[j]?=some u:=hu
 rw [e3]at hu'
 exact hu'
theorem evF_at {l:List Evt} (h:EvK l) {i:Nat} (hi:i<l.length): ∃x,l[i]?=some x/\(evF l i).kind=x.kind/\(evF l i).who=x.who/\(evF l i).value=x.value/\(evF l i).k=x.k:=by
 refine ⟨l[i],List.getElem?_eq_getElem hi,?_⟩
 have hk:=h _ (List.getElem_mem hi)
 have e:l.getD i ev0=l[i]:=by rw [List.getD_eq_getElem?_getD,List.getElem?_eq_getElem hi];rfl
 unfold evF
 rw [e]
 exact ⟨rfl,rfl,rfl,Int.emod_eq_of_lt hk.1 (by omega)⟩
section
variable {P:Program}
end
end Go.Proofs.YtmhfpjnkjlhbpaaGreatDoor
