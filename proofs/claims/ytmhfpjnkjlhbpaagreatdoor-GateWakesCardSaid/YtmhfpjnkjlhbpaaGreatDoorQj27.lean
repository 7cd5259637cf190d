/- Programs that a law builds: what may stand in a code; rows of codes in memory; picks one behind the other, however many. A code that a law puts together, piece by piece. obj.First: the first words of a barrier. Rows of calls in memory; a code that asks them, one behind the other. -/
import Derived.Test.YtmhfpjnkjlhbpaaGreatDoorQj25
import Derived.Test.YtmhfpjnkjlhbpaaGreatDoorQj26
import Derived.Test.YtmhfpjnkjlhbpaaGreatDoorQj07
namespace Go.Proofs.YtmhfpjnkjlhbpaaGreatDoor
open Go.ChangeShapes Go.WideShapes Go.ChangeAt Go.RowKit Go.Deep
set_option linter.unusedVariables false
set_option maxRecDepth 100000
set_option linter.unusedSimpArgs false
def opOk (size m:Nat):Op->Prop
 | .set a k=>a<8/\0<=k/\k<=4294967295
 | .move a b=>a<8/\b<8
 | .add a b c| .and a b c| .same a b c=>a<8/\b<8/\c<8
 | .jump k=>k<=size
 | .zero a k| .some a k=>a<8/\k<=size
 | .load a x| .store a x| .swap a x| .fetch a x| .wait a x| .wake a x=>a<8/\x<m
 | .cas a c x=>a<8/\c<8/\x<m
 | .out a=>a<8
 | .mark k=>k<=4294967295
theorem kinds_at:kindAt 1=⟨true,false,false,false,false,true⟩/\kindAt 2=⟨true,true,false,false,false,false⟩/\kindAt 3=⟨true,true,false,true,false,false⟩/\kindAt 6=⟨true,true,false,true,false,false⟩/\kindAt 12=⟨true,true,false,true,false,false⟩/\
 kindAt 13=⟨false,false,false,false,true,false⟩/\kindAt 14=⟨true,false,false,false,true,false⟩/\kindAt 15=⟨true,false,false,false,true,false⟩/\kindAt 16=⟨true,false,true,false,false,true⟩/\kindAt 17=⟨true,false,true,false,false,true⟩/\
 kindAt 19=⟨true,false,true,false,false,true⟩/\kindAt 20=⟨true,false,true,false,false,true⟩/\kindAt 21=⟨true,false,true,true,false,true⟩/\kindAt 22=⟨true,false,false,false,false,false⟩/\kindAt 23=⟨true,false,true,false,false,true⟩/\
 kindAt 24=⟨true,false,true,false,false,true⟩/\kindAt 27=⟨true,false,false,false,false,true⟩:=
 ⟨by kernel_rfl,by kernel_rfl,by kernel_rfl,by kernel_rfl,by kernel_rfl,by kernel_rfl,by kernel_rfl,by kernel_rfl,by kernel_rfl,by kernel_rfl,by kernel_rfl,by kernel_rfl,by kernel_rfl,by kernel_rfl,by kernel_rfl,by kernel_rfl,by kernel_rfl⟩
theorem right_of {op a b c k size:Int} {q:Kind} (h0:0<=op/\op<28) (hq:kindAt op.toNat=q) (h:RightP q a b c k size):rightB ⟨op,a,b,c,k⟩ size=true:=by
 unfold rightB
 rw [if_pos h0]
 dsimp only
 rw [hq]
 exact decide_eq_true h
theorem opOk.right {size m:Nat} {o:Op} (h:opOk size m o) (hs:size<=4000) (hm:m<=1024):rightB o.ins (size:Int)=true/\o.ins.Ok/\ ∀x,o.word=some x->x<m:=by
 obtain ⟨k1,k2,k3,k6,k12,k13,k14,k15,k16,k17,k19,k20,k21,k22,k23,k24,k27⟩:=kinds_at
 have nn: ∀{n:Nat},n<8->(0:Int)<=(n:Int)/\(n:Int)<=7:=fun h=>by omega
 have n100: ∀{n:Nat},n<8->(0:Int)<=(n:Int)/\(n:Int)<=100:=fun h=>by omega
 have z:(0:Int)<=0/\(0:Int)<=100:=by decide
 have e8:(0:Int)<=8/\(8:Int)<=8:=by decide
 have e8':(0:Int)<=8/\(8:Int)<=100:=by decide
 cases o with
 |set a k=>exact ⟨right_of (by decide) k1 ⟨nn h.1,rfl,rfl,.inl rfl⟩,insOk ⟨by decide,n100 h.1,z,z,h.2⟩,fun x q=>by cases q⟩
 |move a b=>exact ⟨right_of (by decide) k2 ⟨nn h.1,nn h.2,rfl,.inr rfl⟩,insOk ⟨by decide,n100 h.1,n100 h.2,z,by decide,by decide⟩,fun x q=>by cases q⟩
 |add a b c=>exact ⟨right_of (by decide) k3 ⟨nn h.1,nn h.2.1,nn h.2.2,.inr rfl⟩,insOk ⟨by decide,n100 h.1,n100 h.2.1,n100 h.2.2,by decide,by decide⟩,fun x q=>by cases q⟩
 |and a b c=>exact ⟨right_of (by decide) k6 ⟨nn h.1,nn h.2.1,nn h.2.2,.inr rfl⟩,insOk ⟨by decide,n100 h.1,n100 h.2.1,n100 h.2.2,by decide,by decide⟩,fun x q=>by cases q⟩
 |same a b c=>exact ⟨right_of (by decide) k12 ⟨nn h.1,nn h.2.1,nn h.2.2,.inr rfl⟩,insOk ⟨by decide,n100 h.1,n100 h.2.1,n100 h.2.2,by decide,by decide⟩,fun x q=>by cases q⟩
 |jump k=>
  have h:k<=size:=h
  exact ⟨right_of (by decide) k13 ⟨rfl,rfl,rfl,by show (0:Int)<=size/\(k:Int)<=size;omega⟩,insOk ⟨by decide,z,z,z,by omega,by omega⟩,fun x q=>by cases q⟩
 |zero a k=>
  have h2:k<=size:=h.2
  exact ⟨right_of (by decide) k14 ⟨nn h.1,rfl,rfl,by show (0:Int)<=size/\(k:Int)<=size;omega⟩,insOk ⟨by decide,n100 h.1,z,z,by omega,by omega⟩,fun x q=>by cases q⟩
 |some a k=>
  have h2:k<=size:=h.2
  exact ⟨right_of (by decide) k15 ⟨nn h.1,rfl,rfl,by show (0:Int)<=size/\(k:Int)<=size;omega⟩,insOk ⟨by decide,n100 h.1,z,z,by omega,by omega⟩,fun x q=>by cases q⟩
 |load a x=>
  have h2:x<m:=h.2
  exact ⟨right_of (by decide) k16 ⟨nn h.1,e8,rfl,.inl rfl⟩,insOk ⟨by decide,n100 h.1,e8',z,by omega,by omega⟩,fun y q=>by rw [<-Option.some.inj q];exact h2⟩
 |store a x=>
  have h2:x<m:=h.2
  exact ⟨right_of (by decide) k17 ⟨nn h.1,e8,rfl,.inl rfl⟩,insOk ⟨by decide,n100 h.1,e8',z,by omega,by omega⟩,fun y q=>by rw [<-Option.some.inj q];exact h2⟩
 |swap a x=>
  have h2:x<m:=h.2
  exact ⟨right_of (by decide) k19 ⟨nn h.1,e8,rfl,.inl rfl⟩,insOk ⟨by decide,n100 h.1,e8',z,by omega,by omega⟩,fun y q=>by rw [<-Option.some.inj q];exact h2⟩
 |fetch a x=>
  have h2:x<m:=h.2
  exact ⟨right_of (by decide) k20 ⟨nn h.1,e8,rfl,.inl rfl⟩,insOk ⟨by decide,n100 h.1,e8',z,by omega,by omega⟩,fun y q=>by rw [<-Option.some.inj q];exact h2⟩
 |cas a c x=>
  have h2:x<m:=h.2.2
  exact ⟨right_of (by decide) k21 ⟨nn h.1,e8,nn h.2.1,.inl rfl⟩,insOk ⟨by decide,n100 h.1,e8',n100 h.2.1,by omega,by omega⟩,fun y q=>by rw [<-Option.some.inj q];exact h2⟩
 |out a=>exact ⟨right_of (by decide) k22 ⟨nn h,rfl,rfl,.inr rfl⟩,insOk ⟨by decide,n100 h,z,z,by decide,by decide⟩,fun x q=>by cases q⟩
 |wait a x=>
  have h2:x<m:=h.2
  exact ⟨right_of (by decide) k23 ⟨nn h.1,e8,rfl,.inl rfl⟩,insOk ⟨by decide,n100 h.1,e8',z,by omega,by omega⟩,fun y q=>by rw [<-Option.some.inj q];exact h2⟩
 |wake a x=>
  have h2:x<m:=h.2
  exact ⟨right_of (by decide) k24 ⟨nn h.1,e8,rfl,.inl rfl⟩,insOk ⟨by decide,n100 h.1,e8',z,by omega,by omega⟩,fun y q=>by rw [<-Option.some.inj q];exact h2⟩
 |mark k=>
  have h:k<=4294967295:=h
  exact ⟨right_of (by decide) k27 ⟨by decide,rfl,rfl,.inl rfl⟩,insOk ⟨by decide,by decide,z,z,by omega,by omega⟩,fun x q=>by cases q⟩
def CdRow (W:World) (base:Nat) (v:Value) (L:List (List Ins)):Prop:=
 ∃vals:List Value,vals.length=L.length/\W.ownsRow base 50 1 v L.length vals/\ ∀i,i<L.length->W.ownsRow base 75 5 (vals.getD i undef) (L.getD i []).length ((L.getD i []).flatMap Ins.cells)
theorem CdRow.nil (W:World) (base:Nat):CdRow W base (.slice none 0 0) []:=⟨[],rfl,⟨rfl,.inl ⟨rfl,rfl⟩⟩,fun i hi=>absurd hi (by simp)⟩
section
variable {W W':World} {base:Nat} {v v':Value} {L:List (List Ins)}
theorem CdRow.below (h:CdRow W base v L) (hb:Below W.heap.size W W'):CdRow W' base v L:=by
 obtain ⟨vals,h1,h2,h3⟩:=h
 exact ⟨vals,h1,own_below h2 (Nat.le_refl _) hb,fun i hi=>own_below (h3 i hi) (Nat.le_refl _) hb⟩
theorem own_weak {W:World} {b b' s n:Nat} {e:TypeId} {v:Value} {xs:List Value} (h:W.ownsRow b e s v n xs) (hb:b'<=b):W.ownsRow b' e s v n xs:=by
 refine ⟨h.1,?_⟩
 rcases h.2 with hn|⟨g,cap,cur,rfl,hbg,rest⟩
 ·exact .inl hn
 ·exact .inr ⟨g,cap,cur,rfl,Nat.le_trans hb hbg,rest⟩
theorem CdRow.snoc {vals:List Value} {c:Value} {l:List Ins} (h1:vals.length=L.length) (h2:W.ownsRow base 50 1 v L.length vals) (h3: ∀i,i<L.length->W.ownsRow base 75 5 (vals.getD i undef) (L.getD i []).length ((L.getD i []).flatMap Ins.cells))
 {b2:Nat} (hc:W.ownsRow b2 75 5 c l.length (l.flatMap Ins.cells)) (hb2:base<=b2) (hg:W.grownBy W' v.ownBlock) (hr:W'.ownsRow base 50 1 v' (L.length+1) (vals++[c])):CdRow W' base v' (L++[l]):=by
 have hne:75≠50:=by decide
 refine ⟨vals++[c],by simp [h1],by rw [List.length_append];exact hr,fun i hi=>?_⟩
 rcases getD_snoc L l [] i hi with ⟨hlt,e⟩|⟨rfl,e⟩
 ·have e2:(vals++[c]).getD i undef=vals.getD i undef:=by
   simp only [List.getD_eq_getElem?_getD];rw [List.getElem?_append_left (by omega)]
  rw [e,e2]
  exact own_apart (h3 i hlt) h2 hne hg
 ·have e2:(vals++[c]).getD L.length undef=c:=by
   simp only [List.getD_eq_getElem?_getD];rw [List.getElem?_append_right (by omega),h1];simp
  rw [e,e2]
  exact own_weak (own_apart hc h2 hne hg) hb2
def lPg (A:Option Addr) (n cap:Nat) (cds:Nat->Cd) (mA:Option Addr) (m mcap:Nat) (room:Int):Pg:=⟨A,n,cap,cds,mA,m,mcap,fun _=>0,room⟩
theorem CdRow.prog (h:CdRow W base v L) (hok: ∀l∈L,∀x∈l,x.Ok) (hright: ∀l∈L,∀x∈l,rightB x (l.length:Int)=true) (hlen: ∀l∈L,l.length<=4000) (hn:1<=L.length/\L.length<=8) {room:Int} (hroom:1<=room/\room<=16) {mA:Option Addr} {m mcap:Nat} (hm:m<=1024) (hmc:m<=mcap/\mcap<=maxLen) (hmem:Sl W mA m (fun _=> .int .u32 0)):
 ∃A cap cds,v= .slice A L.length cap/\(lPg A L.length cap cds mA m mcap room).Ok/\Chk (lPg A L.length cap cds mA m mcap room) 0 0 0/\(lPg A L.length cap cds mA m mcap room).At W/\ ∀t,t<L.length->(cds t).len=(L.getD t []).length/\(cds t).F=fun i=>(L.getD t []).getD i default:=by
 obtain ⟨vals,h1,h2,h3⟩:=h
 have hv: ∀t,t<L.length-> ∃A cap,vals.getD t undef= .slice A (L.getD t []).length cap/\(L.getD t []).length<=cap/\cap<=maxLen/\SlE W A (L.getD t []).length 5 (fun i=>((L.getD t []).getD i default).cells):=fun t ht=>by
  obtain ⟨A,cap,e,hc,hs⟩:=own_sle Ins.cells (fun _=>rfl) default (L.getD t []) (h3 t ht)
  obtain ⟨_,cap',e2,_,hm2⟩:=own_cap (h3 t ht)
  rw [e]at e2
  injection e2 with _ _ e3
  exact ⟨A,cap,e,hc,by rw [e3];exact hm2,hs⟩
 let cds:Nat->Cd:=fun t=>if ht:t<L.length then ⟨(hv t ht).choose,(L.getD t []).length,(hv t ht).choose_spec.choose,fun i=>(L.getD t []).getD i default⟩else cdd
 have hcd: ∀t (ht:t<L.length),(cds t).val=vals.getD t undef/\(cds t).len=(L.getD t []).length/\(cds t).F=(fun i=>(L.getD t []).getD i default)/\(cds t).len<=(cds t).cap/\(cds t).cap<=maxLen/\(cds t).At W:=fun t ht=>by
  have e:cds t=⟨(hv t ht).choose,(L.getD t []).length,(hv t ht).choose_spec.choose,fun i=>(L.getD t []).getD i default⟩:=dif_pos ht
  obtain ⟨q1,q2,q3,q4⟩:=(hv t ht).choose_spec.choose_spec
  rw [e]
  exact ⟨q1.symm,rfl,rfl,q2,q3,q4⟩
 have hmem': ∀t,t<L.length->L.getD t []∈L:=fun t ht=>by rw [List.getD_eq_getElem?_getD,List.getElem?_eq_getElem ht];exact List.getElem_mem ht
 have hget: ∀(l:List Ins) i,i<l.length->l.getD i default∈l:=fun l i hi=>by rw [List.getD_eq_getElem?_getD,List.getElem?_eq_getElem hi];exact List.getElem_mem hi
 obtain ⟨A,cap,rfl,hc,hcm⟩:=own_cap h2
 obtain ⟨A',cap',e',_,hsl⟩:=own_sl (size:=1) h2
 injection e' with e1 _ _
 subst e1
 refine ⟨A,cap,cds,rfl,⟨hc,hcm,hmc.1,hmc.2,fun t ht=>?_,fun _ _=>(by decide:(0:Int)<=0/\(0:Int)<=4294967295),by have :=hroom.1;show _<=room;omega,by have :=hroom.2;show room<=_;omega⟩,.fine hn.1 hn.2 hroom.1 hroom.2 hm (fun t ht=>?_),⟨fun hp=>?_,fun t ht=>(hcd t ht).2.2.2.2.2,hmem⟩,fun t ht=>⟨(hcd t ht).2.1,(hcd t ht).2.2.1⟩⟩
 ·obtain ⟨_,e2,e3,q1,q2,_⟩:=hcd t ht
  refine ⟨q1,q2,fun i hi=>?_⟩
  show ((cds t).F i).Ok
  rw [e3]
  have hi':i<(cds t).len:=hi
  exact hok _ (hmem' t ht) _ (hget _ _ (by rw [<-e2];exact hi'))
 ·obtain ⟨_,e2,e3,_⟩:=hcd t ht
  refine ⟨by show (cds t).len<=4000;rw [e2];exact hlen _ (hmem' t ht),fun i hi=>?_⟩
  show rightB ((cds t).F i) ((cds t).len:Int)=true
  have hi':i<(cds t).len:=hi
  rw [e3,e2]
  exact hright _ (hmem' t ht) _ (hget _ _ (by rw [<-e2];exact hi'))
 ·obtain ⟨b,off,e,hlt,hcell⟩:=hsl (by rw [Nat.mul_one];exact hp)
  refine ⟨b,off,e,hlt,fun i hi=>?_⟩
  have hi:i<L.length:=hi
  rw [hcell i (by rw [Nat.mul_one];exact hi)]
  show some (vals.getD i undef)=some (cds i).val
  rw [(hcd i hi).1]
end
set_option maxHeartbeats 2000000 in
theorem trun2_any (B:MB) (hB:MBok B) (s:Mst) (hr16:B.room<=16) (hs:TOk B s) (A:Option Addr) (n cap:Nat) (F:Nat->Int×Int) (hc:EvC 999999000 (2*n) s) (own:Nat->Prop) (W:World) (hI:MInv tsoL B s own W) (hT:Tab W)
 (hsl:SlE W A n 2 (fun i=>pkc (F i))) (hA:0<n-> ∀b o,A=some ⟨b,o,none⟩-> ¬own b) (hn:n<=1000000000):
 Calls Tryz.prog 17 #[.pointer (some ⟨B.mb,0,none⟩),.slice A n cap] W fun e W'=>(∃u,e= .returned u)/\Moves (MInv tsoL B) (tRun B s ((List.range n).map F)) own W W':=by
 have hlo:=hI.lo
 have HB:=Lib.hid (And.intro hB (And.intro hr16 (And.intro hs (And.intro hc (And.intro hT hlo)))))
 have HS:=Lib.hid (And.intro hsl hA)
 have HI:=Lib.hid hI.stay
 clear hB hr16 hs hc hI hT hsl hA hlo
 go_enter Tryz.func17,Tryz.ntmps17
 go_wp2_with fail
 go_loopw [5,8] (fun q i wr=> ∃k:Nat,k<=n/\i= .int .i64 (k:Int)/\Moves (MInv tsoL B) (tRun B s ((List.range k).map F)) own W wr) (fun _ i _=>n-(intOf i).toNat)
 case atStart=>exact ⟨0,Nat.zero_le _,rfl,HI.out⟩
 case round=>
  obtain ⟨k,hk,rfl,hM⟩:=hrel
  by_cases hkn:k<n
  ·have hk0:(0:Int)<=(k:Int):=by omega
   have hk1:(k:Int)<(n:Int):=by omega
   have hM0:=hM
   obtain ⟨own1,hI1,ho1,hk1'⟩:=hM
   obtain ⟨b,off,rfl,hlt,hcc⟩:=hk1'.sle HS.out.1 HS.out.2 (by omega)
   obtain ⟨x,hx⟩: ∃x,F k=x:=⟨_,rfl⟩
   have k0:=hcc k hkn 0 (.int .i64 (F k).1) rfl
   have k1:=hcc k hkn 1 (.int .i64 (F k).2) rfl
   rw [hx]at k0 k1
   rw [Nat.add_zero]at k0
   have HX:=Lib.hid hx
   have hal:=(Below.refl wr.heap.size wr).alloc (Nat.le_refl _) (.cells #[.int .i64 x.1,.int .i64 x.2] 78)
   have hM1:=hM0.belowM hal
   have hT1:Tab wr:=hk1'.tab HB.out.2.2.2.2.2 HB.out.2.2.2.2.1
   have HM1:=Lib.hid (And.intro hM1 (hT1.step hal))
   have HK:=Lib.hid (And.intro ho1 hk1')
   clear hM0 hI1 ho1 hk1' hcc hx hal hM1 hT1
   go_wp2_with fail
   have hcall:Calls Tryz.prog 36 #[.pointer (some ⟨B.mb,0,none⟩),.agg #[.int .i64 x.1,.int .i64 x.2]] (wr.alloc (.cells #[.int .i64 x.1,.int .i64 x.2] 78)) fun e W'=>(∃u,e= .returned u)/\Moves (MInv tsoL B) (tRun B s ((List.range (k+1)).map F)) own W W':=by
    obtain ⟨own2,hI2,ho2,hk2⟩:=HM1.out.1
    have hcan:mCan B 3 (tRun B s ((List.range k).map F)):=can_of (tRun_ok HB.out.1 _ s HB.out.2.2.1) HB.out.1 (tRun_evc ((List.range k).map F) (HB.out.2.2.2.1.mono (by rw [List.length_map,List.length_range];omega)))
    refine (tpick_any B HB.out.1 HB.out.2.1 _ (tRun_ok HB.out.1 _ s HB.out.2.2.1) hcan own2 _ hI2 HM1.out.2 x).mono fun e W' ⟨he,hm⟩=>⟨he,?_⟩
    rw [List.range_succ,List.map_append,List.map_cons,List.map_nil,HX.out,tRun_snoc]
    exact Moves.after ho2 hk2 hm
   refine hcall.mono ?_
   rintro e W2 ⟨⟨u,rfl⟩,hM2⟩
   clear hcall k0 k1
   go_wp2
   go_roundw
   case rel=>exact ⟨k+1,by omega,by go_num,hM2⟩
   case measure=>simp [intOf];omega
  ·obtain rfl:n=k:=by omega
   have hk1: ¬(n:Int)<(n:Int):=by omega
   go_wp2
   go_end0
   exact ⟨⟨_,rfl⟩,hM⟩
structure CW (W0 W:World) (A:Option Addr) (N c:Nat) (L:List Ins):Prop where
 n:N=L.length
 own:W.ownsRow W0.heap.size 75 5 (.slice A N c) N (L.flatMap Ins.cells)
 below:Below W0.heap.size W0 W
section
variable {W0 W W':World} {A:Option Addr} {N c:Nat} {L:List Ins}
theorem CW.start (W0:World):CW W0 W0 none 0 0 []:=⟨rfl,⟨rfl,.inl ⟨rfl,rfl⟩⟩,Below.refl _ _⟩
theorem CW.step (h:CW W0 W A N c L) (hb:Below W.heap.size W W'):CW W0 W' A N c L:=⟨h.n,own_below h.own (Nat.le_refl _) hb,step_below h.below hb⟩
theorem CW.app {ops:Array Oper} {rest:List Oper} {o:Oper} {a:Act} {Q:Exit->Act->World->Prop} (h:CW W0 W A N c L) (hgd:o.guard=none) (s x:Operand)
 (ho:o.op= .call {callee:= .builtin .append,args:= #[s,x],argTypes:= #[50,50]}) (l2:List Ins) (m M cx:Nat) (hm:l2.length=m) (hM:M=N+m) (hs:a.eval s= .slice A N c) {Ax:Option Addr} (hx:a.eval x= .slice Ax m cx)
 (hr:Sl W Ax (m*5) (fun k=>(l2.flatMap Ins.cells).getD k undef)) (hb:M<=1000000)
 (K: ∀A' c' w',CW W0 w' A' M c' (L++l2)->wpList Tryz.prog ops Q rest (a.put o.dst (.slice A' M c')) w'):wpList Tryz.prog ops Q (o::rest) a W:=by
 obtain ⟨hn,hown,hbel⟩:=h
 subst hm hn
 refine wpList_append_ins hgd s x ho W0.heap.size (.slice A L.length c) L l2 hs hown Ax cx hx hr (by omega) hbel.size ?_
 intro A' c' w' h1 h2 h3
 have e:(L++l2).length=M:=by rw [List.length_append];exact hM.symm
 rw [e]at h1⊢
 exact K A' c' w' ⟨e.symm,h1,hbel.trans (h3.mono (Nat.le_refl _))⟩
theorem CW.app1 {ops:Array Oper} {rest:List Oper} {o:Oper} {a:Act} {Q:Exit->Act->World->Prop} (h:CW W0 W A N c L) (i:Ins) (M:Nat) (hM:M=N+1) (hgd:o.guard=none) (s x:Operand)
 (ho:o.op= .call {callee:= .builtin .append,args:= #[s,x],argTypes:= #[50,50]}) (hs:a.eval s= .slice A N c) (hx:a.eval x= .slice (some ⟨W.heap.size,0,none⟩) 1 1) (hb:M<=1000000)
 (K: ∀A' c' w',CW W0 w' A' M c' (L++[i])->wpList Tryz.prog ops Q rest (a.put o.dst (.slice A' M c')) w'):wpList Tryz.prog ops Q (o::rest) a (W.alloc (.cells i.cells.toArray 75)):=
 (h.step ((Below.refl W.heap.size W).alloc (Nat.le_refl _) _)).app hgd s x ho [i] 1 M 1 rfl hM hs hx (sl_one W i) hb K
theorem CW.appM {ops:Array Oper} {rest:List Oper} {o:Oper} {a:Act} {Q:Exit->Act->World->Prop} {g:Nat} {cs:Array Value} {m:Nat} {F:Nat->Ins} (h:CW W0 W A N c L) (hb5:Blk W g 75 cs) (hin: ∀i,i<m->InsAt cs i (F i)) (C:List Ins) (hC:C=(List.range m).map F) (M:Nat) (hM:M=N+m) (hgd:o.guard=none) (s x:Operand)
 (ho:o.op= .call {callee:= .builtin .append,args:= #[s,x],argTypes:= #[50,50]}) (hs:a.eval s= .slice A N c) (hx:a.eval x= .slice (some ⟨g,0,none⟩) m m) (hb:M<=1000000)
 (K: ∀A' c' w',CW W0 w' A' M c' (L++C)->wpList Tryz.prog ops Q rest (a.put o.dst (.slice A' M c')) w'):wpList Tryz.prog ops Q (o::rest) a W:=by
 have hl:C.length=m:=by rw [hC];simp
 have hs5:=sl_ins (l:=C) (cap:=0) hb5 (fun i hi=>by
  have hi':i<m:=by omega
  have e:C.getD i default=F i:=by rw [hC];simp [List.getD_eq_getElem?_getD,List.getElem?_map,List.getElem?_range hi']
  rw [e];exact hin i hi')
 rw [hl]at hs5
 exact h.app hgd s x ho C m M m hl hM hs hx hs5 hb K
end
structure CodeIn (W:World) (v:Value) (C:List Ins) (m:Nat):Prop where
 is_: ∃og cap,v= .slice (some ⟨og,0,none⟩) m cap/\og<W.heap.size/\m<=cap/\cap<=maxLen/\SlE W (some ⟨og,0,none⟩) m 5 (fun i=>(C.getD i default).cells)
 len:C.length=m
theorem CodeIn.step {W W':World} {v:Value} {C:List Ins} {m:Nat} (h:CodeIn W v C m) (hb:Below W.heap.size W W'):CodeIn W' v C m:=by
 obtain ⟨⟨og,cap,e,hog,hcap,hcm,hs⟩,hl⟩:=h
 exact ⟨⟨og,cap,e,Nat.lt_of_lt_of_le hog hb.size,hcap,hcm,SlE.step hs hb⟩,hl⟩
theorem CodeIn.moved {W:World} {v:Value} {C:List Ins} {m:Nat} (h:CodeIn W v C m) (hok: ∀x∈C,x.Ok) (hm:m<=100000) (z:Int) (hz0:0<=z) (hz1:z<=4294967295) (hT:Tab W):
 Calls Tryz.prog 35 #[v,.int .i64 z] W fun e W'=> ∃cs:Array Value,e= .returned (.slice (some ⟨W.heap.size,0,none⟩) m m)/\Blk W' W.heap.size 75 cs/\(∀i,i<m->InsAt cs i (movedI z (C.getD i default)))/\Below W.heap.size W W':=by
 obtain ⟨⟨og,cap,rfl,hog,hcap,hcm,hs⟩,hl⟩:=h
 have hget: ∀i,i<m->C.getD i default∈C:=fun i hi=>by
  have hi':i<C.length:=by omega
  rw [List.getD_eq_getElem?_getD,List.getElem?_eq_getElem hi'];exact List.getElem_mem hi'
 refine (moved_any ⟨some ⟨og,0,none⟩,m,cap,fun i=>C.getD i default⟩ z ⟨hcap,hcm,fun i hi=>hok _ (hget i hi)⟩ hm hz0 hz1 W hT hs).mono ?_
 rintro e W' ⟨cs,h1,h2,_,h3,h4⟩
 exact ⟨cs,h1,h2,h3,h4⟩
theorem grown_below {W0 W W':World} {r:Option Nat} (h:W0.grownBy W r) (hb:Below W.heap.size W W'):W0.grownBy W' r:=
 ⟨hb.os.trans h.os,hb.tape.trans h.tape,hb.output.trans h.output,Nat.le_trans h.size hb.size,fun i hi hn=>(hb.block i (Nat.lt_of_lt_of_le hi h.size)).trans (h.block i hi hn)⟩
theorem grown_row {W0 W W':World} {r q:Option Nat} (h:W0.grownBy W r) (hg:W.grownBy W' q) (hq: ∀g,q=some g->W0.heap.size<=g∨r=some g):W0.grownBy W' r:=
 ⟨hg.os.trans h.os,hg.tape.trans h.tape,hg.output.trans h.output,Nat.le_trans h.size hg.size,fun i hi hn=>(hg.block i (Nat.lt_of_lt_of_le hi h.size) (fun e=>by
  rcases hq i e.symm with q|q
  ·omega
  ·exact hn q.symm)).trans (h.block i hi hn)⟩
theorem CdRow.far {W W':World} {base:Nat} {v:Value} {L:List (List Ins)} {g:Nat} {t:TypeId} {cs:Array Value} (h:CdRow W base v L) (hb:Blk W g t cs) (h1:t≠50) (h2:t≠75) (hg:W.grownBy W' (some g)):CdRow W' base v L:=by
 obtain ⟨vals,q1,q2,q3⟩:=h
 exact ⟨vals,q1,row_grown q2 hg (row_ne hb q2 h1),fun i hi=>row_grown (q3 i hi) hg (row_ne hb (q3 i hi) h2)⟩
theorem CdRow.cap {W:World} {base:Nat} {v:Value} {L:List (List Ins)} (h:CdRow W base v L): ∃A c,v= .slice A L.length c:=by
 obtain ⟨vals,q1,q2,q3⟩:=h
 obtain ⟨A,c,e,_,_⟩:=own_cap q2
 exact ⟨A,c,e⟩
theorem CdRow.app {W0 W:World} {base:Nat} {A AA:Option Addr} {n N c cv:Nat} {L:List (List Ins)} {l:List Ins} {ops:Array Oper} {rest:List Oper} {o:Oper} {a:Act} {Q:Exit->Act->World->Prop} (h:CdRow W base (.slice A n cv) L) (hn:n=L.length) (hc:CW W0 W AA N c l) (hb0:base<=W0.heap.size) (hgd:o.guard=none) (s x:Operand)
 (ho:o.op= .call {callee:= .builtin .append,args:= #[s,x],argTypes:= #[26,26]}) (hs:a.eval s= .slice A n cv) (hx:a.eval x= .slice (some ⟨W.heap.size,0,none⟩) 1 1) (hL:n<=100)
 (K: ∀A' c' w',CdRow w' base (.slice A' (n+1) c') (L++[l])->(∀pb t cs,Blk W pb t cs->t≠50->Blk w' pb t cs)->(∀(W5:World) (r:Option Nat),W5.heap.size=base->W5.grownBy W r->W5.grownBy w' r)->wpList Tryz.prog ops Q rest (a.put o.dst (.slice A' (n+1) c')) w'):wpList Tryz.prog ops Q (o::rest) a (W.alloc (.cells #[.slice AA N c] 50)):=by
 have hal:=(Below.refl W.heap.size W).alloc (Nat.le_refl _) (.cells #[.slice AA N c] 50)
 obtain ⟨vals,q1,q2,q3⟩:=h.below hal
 have hcs:=hc.step hal
 subst hn
 obtain ⟨i0,hi,hy0,hy1,hy2⟩:=info_parts slc_info5
 have hcn:=hcs.n
 have hbW:base<=W.heap.size:=Nat.le_trans hb0 hc.below.size
 refine wpList_append_sl (W.alloc (.cells #[.slice AA N c] 50)) hgd s x 26 ho base 50 i0 _ 1 24 Tryz.underlying26 hi hy0 hy1 hy2 rfl (by omega) (.slice A L.length cv) L.length vals hs q2 (some ⟨W.heap.size,0,none⟩) 1 1 (fun _=> .slice AA N c) hx (fun _=>⟨_,0,rfl,by simp,fun i hi=>?_⟩) (fun _ _=>rfl) (by unfold maxLen;omega) (by omega) (by simp;omega) ?_
 ·obtain rfl:i=0:=by omega
  exact ((Blk.new W 50 #[.slice AA N c]).cell 0).trans rfl
 intro v' w' h1 h2 _
 have e1:(List.range (1*1)).map (fun _=>Value.slice AA N c)=[Value.slice AA N c]:=rfl
 rw [e1]at h1
 obtain ⟨A',c',rfl,_,_⟩:=own_cap h1
 have hown:(W.alloc (.cells #[.slice AA N c] 50)).ownsRow W0.heap.size 75 5 (.slice AA N c) l.length (l.flatMap Ins.cells):=hcn▸hcs.own
 refine K A' c' w' (CdRow.snoc q1 q2 q3 hown hb0 h2 h1) (fun pb t cs hb ht=>?_) (fun W5 r hz hg=>?_)
 ·exact (hb.alloc _).grown h2 (row_ne (hb.alloc _) q2 ht)
 ·exact grown_row (grown_below hg hal) h2 (fun g e=> .inl (by rw [hz];exact (own_in q2 g e).1))
theorem map_range {C:List Ins} {m:Nat} (h:C.length=m) (f:Ins->Ins):C.map f=(List.range m).map fun i=>f (C.getD i default):=by
 subst h
 refine List.ext_getElem? fun i=>?_
 rw [List.getElem?_map,List.getElem?_map]
 rcases Nat.lt_or_ge i C.length with c|c
 ·rw [List.getElem?_range c,List.getElem?_eq_getElem c]
  simp [List.getD_eq_getElem?_getD,List.getElem?_eq_getElem c]
 ·rw [List.getElem?_eq_none c,List.getElem?_eq_none (l:=List.range C.length) (by simpa using c)];rfl
def FirstP (W:World) (m:Nat) (e:Ending) (W':World):Prop:=
 ∃g,e= .returned (.slice (some ⟨g,0,none⟩) m m)/\Blk W' g 42 (List.replicate m (Value.int .u32 0)).toArray/\W.heap.size<=g/\Below W.heap.size W W'
def LRows (W:World) (A:Option Addr) (L:List (List Int)):Prop:=
 ∃F:Nat->Option Addr×Nat,Sl W A L.length (fun t=> .slice (F t).1 (L.getD t []).length (F t).2)/\ ∀t,t<L.length->Sl W (F t).1 (L.getD t []).length (fun j=> .int .i64 ((L.getD t []).getD j 0))
theorem LRows.step {W W':World} {A:Option Addr} {L:List (List Int)} (h:LRows W A L) (hb:Below W.heap.size W W'):LRows W' A L:=by
 obtain ⟨F,h1,h2⟩:=h
 exact ⟨F,h1.step hb,fun t ht=>(h2 t ht).step hb⟩
def LOwn (W:World) (base:Nat) (v:Value) (L:List (List Int)):Prop:=
 ∃vals:List Value,vals.length=L.length/\W.ownsRow base 70 1 v L.length vals/\ ∀t,t<L.length->W.ownsRow base 3 1 (vals.getD t undef) (L.getD t []).length ((L.getD t []).map (Value.int .i64))
theorem LOwn.nil (W:World) (base:Nat):LOwn W base (.slice none 0 0) []:=⟨[],rfl,⟨rfl,.inl ⟨rfl,rfl⟩⟩,fun i hi=>absurd hi (by simp)⟩
theorem LOwn.step {W W':World} {base:Nat} {v:Value} {L:List (List Int)} (h:LOwn W base v L) (hb:Below W.heap.size W W'):LOwn W' base v L:=by
 obtain ⟨vals,h1,h2,h3⟩:=h
 exact ⟨vals,h1,own_below h2 (Nat.le_refl _) hb,fun t ht=>own_below (h3 t ht) (Nat.le_refl _) hb⟩
def slOf (v:Value):Option Addr×Nat:=match v with
 | .slice B _ cc=>(B,cc)
 |_=>(none,0)
theorem LOwn.rows {W:World} {base:Nat} {v:Value} {L:List (List Int)} (h:LOwn W base v L): ∃A c,v= .slice A L.length c/\L.length<=c/\c<=maxLen/\LRows W A L:=by
 obtain ⟨vals,h1,h2,h3⟩:=h
 obtain ⟨A,c,rfl,_,hs⟩:=own_sl h2
 obtain ⟨A',c',e',q1,q2⟩:=own_cap h2
 injection e' with _ _ e'
 subst e'
 rw [Nat.mul_one]at hs
 refine ⟨A,c,rfl,q1,q2,fun t=>slOf (vals.getD t undef),?_,fun t ht=>?_⟩
 ·refine hs.congr (fun t ht=>?_)
  obtain ⟨B,cc,e,_,_⟩:=own_sl (h3 t ht)
  show vals.getD t undef= .slice (slOf (vals.getD t undef)).1 (L.getD t []).length (slOf (vals.getD t undef)).2
  rw [e];rfl
 ·obtain ⟨B,cc,e,_,hq⟩:=own_sl (h3 t ht)
  show Sl W (slOf (vals.getD t undef)).1 _ _
  rw [e]
  show Sl W B _ _
  rw [Nat.mul_one]at hq
  refine hq.congr (fun j hj=>?_)
  obtain ⟨l,hl⟩: ∃l,L.getD t []=l:=⟨_,rfl⟩
  rw [hl]at hj⊢
  simp [List.getD_eq_getElem?_getD,List.getElem?_map,List.getElem?_eq_getElem hj]
theorem ints_info5:(Tryz.prog.info? 70).map (fun i=>(i.zero,i.size,i.bytes))=some (some (.slice none 0 0),1,24):=by kernel_rfl
theorem LOwn.app {W:World} {base:Nat} {A AA:Option Addr} {n N c cv:Nat} {L:List (List Int)} {l:List Int} {ops:Array Oper} {rest:List Oper} {o:Oper} {a:Act} {Q:Exit->Act->World->Prop} (h:LOwn W base (.slice A n cv) L) (hn:n=L.length) (hc:W.ownsRow base 3 1 (.slice AA N c) N (l.map (Value.int .i64))) (hN:N=l.length) (hb0:base<=W.heap.size) (hgd:o.guard=none) (s x:Operand)
 (ho:o.op= .call {callee:= .builtin .append,args:= #[s,x],argTypes:= #[94,94]}) (hs:a.eval s= .slice A n cv) (hx:a.eval x= .slice (some ⟨W.heap.size,0,none⟩) 1 1) (hL:n<=100)
 (K: ∀A' c' w',LOwn w' base (.slice A' (n+1) c') (L++[l])->Below base W w'->wpList Tryz.prog ops Q rest (a.put o.dst (.slice A' (n+1) c')) w'):wpList Tryz.prog ops Q (o::rest) a (W.alloc (.cells #[.slice AA N c] 70)):=by
 have hal:=(Below.refl W.heap.size W).alloc (Nat.le_refl _) (.cells #[.slice AA N c] 70)
 obtain ⟨vals,q1,q2,q3⟩:=h.step hal
 have hcs:=own_below hc (Nat.le_refl _) hal
 subst hn hN
 obtain ⟨i0,hi,hy0,hy1,hy2⟩:=info_parts ints_info5
 refine wpList_append_sl (W.alloc (.cells #[.slice AA l.length c] 70)) hgd s x 94 ho base 70 i0 _ 1 24 Tryz.underlying94 hi hy0 hy1 hy2 rfl (by omega) (.slice A L.length cv) L.length vals hs q2 (some ⟨W.heap.size,0,none⟩) 1 1 (fun _=> .slice AA l.length c) hx (fun _=>⟨_,0,rfl,by simp,fun i hi=>?_⟩) (fun _ _=>rfl) (by unfold maxLen;omega) (by omega) (by simp;omega) ?_
 ·obtain rfl:i=0:=by omega
  exact ((Blk.new W 70 #[.slice AA l.length c]).cell 0).trans rfl
 intro v' w' h1 h2 _
 have e1:(List.range (1*1)).map (fun _=>Value.slice AA l.length c)=[Value.slice AA l.length c]:=rfl
 rw [e1]at h1
 obtain ⟨A',c',rfl,_,_⟩:=own_cap h1
 refine K A' c' w' ⟨vals++[.slice AA l.length c],by rw [List.length_append,List.length_append,q1];rfl,by rw [List.length_append];exact h1,fun t ht=>?_⟩ ?_
 ·have keep: ∀{v:Value} {m:Nat} {xs:List Value},(W.alloc (.cells #[.slice AA l.length c] 70)).ownsRow base 3 1 v m xs->w'.ownsRow base 3 1 v m xs:=fun q=>own_apart q q2 (by decide) h2
  rw [List.length_append,List.length_singleton]at ht
  rcases Nat.lt_or_ge t L.length with z|z
  ·rw [List.getD_eq_getElem?_getD,List.getD_eq_getElem?_getD,List.getElem?_append_left (by omega),List.getElem?_append_left z,<-List.getD_eq_getElem?_getD,<-List.getD_eq_getElem?_getD]
   exact keep (q3 t z)
  ·obtain rfl:t=L.length:=by omega
   have e2:(vals++[Value.slice AA l.length c]).getD L.length undef= .slice AA l.length c:=by rw [<-q1];simp
   have e3:(L++[l]).getD L.length []=l:=by simp
   rw [e2,e3]
   exact keep hcs
 ·exact (hal.mono hb0).trans (below_of_grown (by simp;omega) h2 fun g e=>(own_in q2 g e).1)
section
variable {W0 W W':World} {A:Option Addr} {N c:Nat} {L:List Ins}
theorem CW.app1K {ops:Array Oper} {rest:List Oper} {o:Oper} {a:Act} {Q:Exit->Act->World->Prop} (h:CW W0 W A N c L) (i:Ins) (M:Nat) (hM:M=N+1) (hgd:o.guard=none) (s x:Operand)
 (ho:o.op= .call {callee:= .builtin .append,args:= #[s,x],argTypes:= #[50,50]}) (hs:a.eval s= .slice A N c) (hx:a.eval x= .slice (some ⟨W.heap.size,0,none⟩) 1 1) (hb:M<=1000000)
 (K: ∀A' c' w',CW W0 w' A' M c' (L++[i])->(∀pb t cs,Blk W pb t cs->some pb≠(Value.slice A N c).ownBlock->Blk w' pb t cs)->wpList Tryz.prog ops Q rest (a.put o.dst (.slice A' M c')) w'):wpList Tryz.prog ops Q (o::rest) a (W.alloc (.cells i.cells.toArray 75)):=by
 obtain ⟨hn,hown,hbel⟩:=h.step ((Below.refl W.heap.size W).alloc (Nat.le_refl _) (.cells i.cells.toArray 75))
 subst hM hn
 refine wpList_append_ins hgd s x ho W0.heap.size (.slice A L.length c) L [i] hs hown (some ⟨W.heap.size,0,none⟩) 1 hx (sl_one W i) (by simpa using hb) hbel.size ?_
 intro A' c' w' h1 h2 h3
 have e:(L++[i]).length=L.length+1:=by rw [List.length_append];rfl
 rw [e]at h1⊢
 exact K A' c' w' ⟨e.symm,h1,hbel.trans (h3.mono (Nat.le_refl _))⟩ (fun pb t cs q hne=>(q.alloc _).grown h2 hne)
end
def askL (G:Nat->List Ins) (ks:Nat->Int):Nat->List Ins
 |0=>[]
 |n+1=>askL G ks n++[(⟨27,7,0,0,2*ks n⟩:Ins)]++(G n).map (movedI (((askL G ks n).length:Int)+1))++[⟨27,7,0,0,2*ks n+1⟩]
theorem askL_succ (G:Nat->List Ins) (ks:Nat->Int) (n:Nat):askL G ks (n+1)=askL G ks n++[(⟨27,7,0,0,2*ks n⟩:Ins)]++(G n).map (movedI (((askL G ks n).length:Int)+1))++[⟨27,7,0,0,2*ks n+1⟩]:=rfl
theorem askL_len (G:Nat->List Ins) (ks:Nat->Int) (n:Nat):(askL G ks (n+1)).length=(askL G ks n).length+((G n).length+2):=by
 show (askL G ks n++[(⟨27,7,0,0,2*ks n⟩:Ins)]++(G n).map (movedI (((askL G ks n).length:Int)+1))++[(⟨27,7,0,0,2*ks n+1⟩:Ins)]).length=_
 simp only [List.length_append,List.length_singleton,List.length_map];omega
theorem askL_le {G:Nat->List Ins} {ks:Nat->Int} {g:Nat} (h: ∀i,(G i).length<=g) (n:Nat):(askL G ks n).length<=n*(g+2):=by
 induction n with
 |zero=>exact Nat.zero_le _
 |succ n ih=>rw [askL_len,Nat.succ_mul];have :=h n;omega
end Go.Proofs.YtmhfpjnkjlhbpaaGreatDoor
