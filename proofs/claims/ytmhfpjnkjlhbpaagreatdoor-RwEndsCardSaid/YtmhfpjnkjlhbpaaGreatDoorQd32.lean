/- RwAlone (plain): what a thread alone is told by a lock that many may read, whatever it asks, in whatever order. rw.Code at what may be asked (printed by gen/rwcode.py). -/
import Derived.Test.YtmhfpjnkjlhbpaaGreatDoorQd30
import Derived.Test.YtmhfpjnkjlhbpaaGreatDoorQd31
import Derived.Test.YtmhfpjnkjlhbpaaGreatDoorQd26
import Derived.Test.YtmhfpjnkjlhbpaaGreatDoorQd28
import Derived.Test.YtmhfpjnkjlhbpaaGreatDoorQd29
namespace Go.Proofs.YtmhfpjnkjlhbpaaGreatDoor
open Go.ChangeShapes Go.WideShapes Go.ChangeAt Go.RowKit Go.Deep
set_option linter.unusedVariables false
set_option maxRecDepth 100000
set_option linter.unusedSimpArgs false
theorem right_moved {i:Ins} {n:Int} (z:Nat) {size:Int} (hs:n+(z:Int)<=size) (h32:size<4294967296) (hn:0<=n) (hk:0<=i.k) (h:rightB i n=true):rightB (movedI (z:Int) i) size=true:=by
 obtain ⟨op,a,b,c,k⟩:=i
 unfold rightB at h
 by_cases ho:0<=op/\op<28
 ·rw [if_pos ho]at h
  obtain ⟨h1,h2,h3,h4⟩:=of_decide_eq_true h
  dsimp only at h1 h2 h3 h4 hk
  by_cases hj:jmpB op=true
  ·have e:movedI (z:Int) ⟨op,a,b,c,k⟩=⟨op,a,b,c,aluF 3 k (z:Int)⟩:=if_pos hj
   rw [e]
   unfold rightB
   rw [if_pos ho]
   have hT:(kindAt op.toNat).T=true:=by
    have :=of_decide_eq_true hj
    rcases this with q|q|q<;>rw [q]<;>first|rfl|decide
   refine decide_eq_true ⟨h1,h2,h3,?_⟩
   rw [if_pos hT]at h4⊢
   show 0<=size/\aluF 3 k (z:Int)<=size
   rw [aluF_add,Int.emod_eq_of_lt (by omega) (by omega)]
   omega
  ·have e:movedI (z:Int) ⟨op,a,b,c,k⟩=⟨op,a,b,c,k⟩:=if_neg hj
   rw [e]
   unfold rightB
   rw [if_pos ho]
   refine decide_eq_true ⟨h1,h2,h3,?_⟩
   by_cases hT:(kindAt op.toNat).T=true
   ·rw [if_pos hT]at h4⊢
    dsimp only
    omega
   ·rw [if_neg hT]at h4⊢
    exact h4
 ·rw [if_neg ho]at h
  cases h
theorem cTo_pre (C:Nat->List Ins) (cs:List Nat) (k:Nat): ∀d,k+d<=cs.length-> ∃R,cTo C cs (k+d)=cTo C cs k++R
 |0,_=>⟨[],by simp⟩
 |d+1,h=>by
  obtain ⟨R,e⟩:=cTo_pre C cs k d (by omega)
  refine ⟨R++((C (cs.getD (k+d) 0)).map (movedI ((cTo C cs (k+d)).length:Int))++[⟨22,7,0,0,0⟩]),?_⟩
  rw [show k+(d+1)=(k+d)+1 by omega,cTo_succ C cs (k+d) (by omega)]
  unfold cAdd
  rw [List.append_assoc,<-List.append_assoc (cTo C cs k),<-e]
theorem cAll_at (C:Nat->List Ins) (cs:List Nat) (k:Nat) (hk:k<cs.length) (o:Nat) (ho:o<(C (cs.getD k 0)++[(⟨22,7,0,0,0⟩:Ins)]).length):
 (cTo C cs k).length+o<(cAll C cs).length/\(cAll C cs).getD ((cTo C cs k).length+o) default=movedI ((cTo C cs k).length:Int) ((C (cs.getD k 0)++[(⟨22,7,0,0,0⟩:Ins)]).getD o default):=by
 obtain ⟨R,e⟩:=cTo_pre C cs (k+1) (cs.length-(k+1)) (by omega)
 rw [show k+1+(cs.length-(k+1))=cs.length by omega,cTo_all,cTo_succ C cs k hk]at e
 unfold cAdd at e
 generalize cTo C cs k=P at e⊢
 generalize C (cs.getD k 0)=D at e ho⊢
 have e2:cAll C cs=P++((D++[(⟨22,7,0,0,0⟩:Ins)]).map (movedI (P.length:Int))++R):=by
  rw [e,List.map_append]
  show P++List.map (movedI (P.length:Int)) D++[_]++R=P++(List.map (movedI (P.length:Int)) D++[_]++R)
  simp only [List.append_assoc]
  rfl
 refine ⟨by rw [e2];simp only [List.length_append,List.length_map]at ho⊢;omega,?_⟩
 rw [e2,List.getD_eq_getElem?_getD,List.getElem?_append_right (by omega),Nat.add_sub_cancel_left,List.getElem?_append_left (by rw [List.length_map];exact ho),List.getElem?_map,List.getElem?_eq_getElem ho,List.getD_eq_getElem?_getD,List.getElem?_eq_getElem ho]
 rfl
theorem getD_len {α:Type} (l:List α) (d:α) (o:Nat) (ho:o<l.length):l.getD o d∈l:=by
 rw [List.getD_eq_getElem?_getD,List.getElem?_eq_getElem ho];exact List.getElem_mem ho
theorem cAll_right {C:Nat->List Ins} {cs:List Nat} (h:CGood C cs) (h40:cs.length<=40) (hr: ∀c∈cs,((C c).all fun i=>rightB i ((C c).length:Int))=true):((cAll C cs).all fun i=>rightB i ((cAll C cs).length:Int))=true:=by
 have hA:=(cTo_ok h cs.length (Nat.le_refl _)).2
 rw [cTo_all]at hA
 have key: ∀k,k<=cs.length-> ∀x∈cTo C cs k,rightB x ((cAll C cs).length:Int)=true:=by
  intro k
  induction k with
  |zero=>intro _ x hx;cases hx
  |succ k ih=>
   intro hk x hx
   have hmem:=cs_in cs k (by omega)
   have hg:=h _ hmem
   simp only [Bool.and_eq_true,decide_eq_true_eq,List.all_eq_true]at hg
   have hl:=cAll_at C cs k (by omega) (C (cs.getD k 0)).length (by simp)
   rw [cTo_succ C cs k (by omega)]at hx
   unfold cAdd at hx
   simp only [List.mem_append,List.mem_cons,List.not_mem_nil,or_false,List.mem_map]at hx
   rcases hx with (hx|⟨y,hy,rfl⟩)|rfl
   ·exact ih (by omega) x hx
   ·have hy1:=List.all_eq_true.1 (hr _ hmem) y hy
    have hok:=okB_ok (hg.1 y hy)
    exact right_moved _ (by omega) (by omega) (by omega) hok.k0 hy1
   ·unfold rightB
    rw [if_pos (by decide)]
    refine decide_eq_true ?_
    have :kindAt (22:Int).toNat=⟨true,false,false,false,false,false⟩:=by kernel_rfl
    rw [this]
    exact ⟨by decide,by decide,by decide,by simp⟩
 refine List.all_eq_true.2 fun x hx=>key cs.length (Nat.le_refl _) x ?_
 rw [cTo_all];exact hx
def rwL (t:Int) (c:Nat):List Ins:=if c=1 then (BB.rwrite BB.e 16 (17+t)).out else if c=2 then (BB.rrel BB.e 16 (17+t)).out else (BB.rread BB.e 16 (17+t)).out
def rwSt (md:Nat):Int:=if md=2 then 4294967295 else (md:Int)
def rwV (t:Nat) (md:Nat):List (Nat×Int):=[(16,rwSt md),(17+t,(md:Int))]
def rwNext (md c:Nat):Nat:=if c=2 then 0 else if md=0 then (if c=1 then 2 else 1)else md
def rwAns (md c:Nat):Int:=if c=2 then (if md=0 then 2 else 0)else if md=0 then 0 else 1
def rwN (md c:Nat):Nat:=if c=2 then (if md=0 then 5 else if md=1 then 16 else 14)else if md=0 then (if c=1 then 10 else 17)else 5
theorem rw_eight {t:Nat} (h:t<8):t=0∨t=1∨t=2∨t=3∨t=4∨t=5∨t=6∨t=7:=by omega
def avD (a:Option AV):Option (Nat×List (Nat×Int)×List Int):=a.map fun b=>(b.o,b.V,b.out)
theorem rw_run01 (r:Nat->Int) {t:Nat} (ht:t<8):avD (aSteps (rwL (t:Int) 1++[⟨22,7,0,0,0⟩]) (rwN 0 1) ⟨0,r,rwV t 0,[]⟩)=some ((rwL (t:Int) 1++[(⟨22,7,0,0,0⟩:Ins)]).length,rwV t (rwNext 0 1),[rwAns 0 1]):=by
 rcases rw_eight ht with rfl|rfl|rfl|rfl|rfl|rfl|rfl|rfl<;>kernel_rfl
theorem rw_run02 (r:Nat->Int) {t:Nat} (ht:t<8):avD (aSteps (rwL (t:Int) 2++[⟨22,7,0,0,0⟩]) (rwN 0 2) ⟨0,r,rwV t 0,[]⟩)=some ((rwL (t:Int) 2++[(⟨22,7,0,0,0⟩:Ins)]).length,rwV t (rwNext 0 2),[rwAns 0 2]):=by
 rcases rw_eight ht with rfl|rfl|rfl|rfl|rfl|rfl|rfl|rfl<;>kernel_rfl
theorem rw_run03 (r:Nat->Int) {t:Nat} (ht:t<8):avD (aSteps (rwL (t:Int) 3++[⟨22,7,0,0,0⟩]) (rwN 0 3) ⟨0,r,rwV t 0,[]⟩)=some ((rwL (t:Int) 3++[(⟨22,7,0,0,0⟩:Ins)]).length,rwV t (rwNext 0 3),[rwAns 0 3]):=by
 rcases rw_eight ht with rfl|rfl|rfl|rfl|rfl|rfl|rfl|rfl<;>kernel_rfl
theorem rw_run11 (r:Nat->Int) {t:Nat} (ht:t<8):avD (aSteps (rwL (t:Int) 1++[⟨22,7,0,0,0⟩]) (rwN 1 1) ⟨0,r,rwV t 1,[]⟩)=some ((rwL (t:Int) 1++[(⟨22,7,0,0,0⟩:Ins)]).length,rwV t (rwNext 1 1),[rwAns 1 1]):=by
 rcases rw_eight ht with rfl|rfl|rfl|rfl|rfl|rfl|rfl|rfl<;>kernel_rfl
theorem rw_run12 (r:Nat->Int) {t:Nat} (ht:t<8):avD (aSteps (rwL (t:Int) 2++[⟨22,7,0,0,0⟩]) (rwN 1 2) ⟨0,r,rwV t 1,[]⟩)=some ((rwL (t:Int) 2++[(⟨22,7,0,0,0⟩:Ins)]).length,rwV t (rwNext 1 2),[rwAns 1 2]):=by
 rcases rw_eight ht with rfl|rfl|rfl|rfl|rfl|rfl|rfl|rfl<;>kernel_rfl
theorem rw_run13 (r:Nat->Int) {t:Nat} (ht:t<8):avD (aSteps (rwL (t:Int) 3++[⟨22,7,0,0,0⟩]) (rwN 1 3) ⟨0,r,rwV t 1,[]⟩)=some ((rwL (t:Int) 3++[(⟨22,7,0,0,0⟩:Ins)]).length,rwV t (rwNext 1 3),[rwAns 1 3]):=by
 rcases rw_eight ht with rfl|rfl|rfl|rfl|rfl|rfl|rfl|rfl<;>kernel_rfl
theorem rw_run21 (r:Nat->Int) {t:Nat} (ht:t<8):avD (aSteps (rwL (t:Int) 1++[⟨22,7,0,0,0⟩]) (rwN 2 1) ⟨0,r,rwV t 2,[]⟩)=some ((rwL (t:Int) 1++[(⟨22,7,0,0,0⟩:Ins)]).length,rwV t (rwNext 2 1),[rwAns 2 1]):=by
 rcases rw_eight ht with rfl|rfl|rfl|rfl|rfl|rfl|rfl|rfl<;>kernel_rfl
theorem rw_run22 (r:Nat->Int) {t:Nat} (ht:t<8):avD (aSteps (rwL (t:Int) 2++[⟨22,7,0,0,0⟩]) (rwN 2 2) ⟨0,r,rwV t 2,[]⟩)=some ((rwL (t:Int) 2++[(⟨22,7,0,0,0⟩:Ins)]).length,rwV t (rwNext 2 2),[rwAns 2 2]):=by
 rcases rw_eight ht with rfl|rfl|rfl|rfl|rfl|rfl|rfl|rfl<;>kernel_rfl
theorem rw_run23 (r:Nat->Int) {t:Nat} (ht:t<8):avD (aSteps (rwL (t:Int) 3++[⟨22,7,0,0,0⟩]) (rwN 2 3) ⟨0,r,rwV t 2,[]⟩)=some ((rwL (t:Int) 3++[(⟨22,7,0,0,0⟩:Ins)]).length,rwV t (rwNext 2 3),[rwAns 2 3]):=by
 rcases rw_eight ht with rfl|rfl|rfl|rfl|rfl|rfl|rfl|rfl<;>kernel_rfl
theorem rw_run (r:Nat->Int) {t md c:Nat} (ht:t<8) (hm:md<3) (hc:c=1∨c=2∨c=3):avD (aSteps (rwL (t:Int) c++[⟨22,7,0,0,0⟩]) (rwN md c) ⟨0,r,rwV t md,[]⟩)=some ((rwL (t:Int) c++[(⟨22,7,0,0,0⟩:Ins)]).length,rwV t (rwNext md c),[rwAns md c]):=by
 have h3:md=0∨md=1∨md=2:=by omega
 rcases h3 with rfl|rfl|rfl<;>rcases hc with rfl|rfl|rfl
 ·exact rw_run01 r ht
 ·exact rw_run02 r ht
 ·exact rw_run03 r ht
 ·exact rw_run11 r ht
 ·exact rw_run12 r ht
 ·exact rw_run13 r ht
 ·exact rw_run21 r ht
 ·exact rw_run22 r ht
 ·exact rw_run23 r ht
theorem rw_call (r:Nat->Int) {t md c:Nat} (ht:t<8) (hm:md<3) (hc:c=1∨c=2∨c=3):
 ∃r',aSteps (rwL (t:Int) c++[⟨22,7,0,0,0⟩]) (rwN md c) ⟨0,r,rwV t md,[]⟩=some ⟨(rwL (t:Int) c++[(⟨22,7,0,0,0⟩:Ins)]).length,r',rwV t (rwNext md c),[rwAns md c]⟩:=by
 have h:=rw_run r ht hm hc
 unfold avD at h
 cases e:aSteps (rwL (t:Int) c++[⟨22,7,0,0,0⟩]) (rwN md c) ⟨0,r,rwV t md,[]⟩with
 |none=>rw [e]at h;cases h
 |some b=>
  rw [e]at h
  obtain ⟨o,r',V,out⟩:=b
  simp only [Option.map_some,Option.some.injEq,Prod.mk.injEq]at h
  obtain ⟨rfl,rfl,rfl⟩:=h
  exact ⟨r',rfl⟩
theorem rwN_le (md c:Nat):rwN md c<=17:=by unfold rwN;split<;>split<;>(try split)<;>omega
theorem rwNext_lt {md:Nat} (hm:md<3) (c:Nat):rwNext md c<3:=by unfold rwNext;split;omega;split;(split<;>omega);omega
def isRw (c:Nat):Prop:=c=1∨c=2∨c=3
theorem rw_good {t:Nat} (ht:t<8) {cs:List Nat} (h: ∀c∈cs,isRw c):CGood (rwL (t:Int)) cs:=fun c hc=>by
 rcases h c hc with rfl|rfl|rfl<;>rcases rw_eight ht with rfl|rfl|rfl|rfl|rfl|rfl|rfl|rfl<;>kernel_rfl
theorem rw_right {t:Nat} (ht:t<8) {c:Nat} (h:isRw c):((rwL (t:Int) c).all fun i=>rightB i ((rwL (t:Int) c).length:Int))=true:=by
 rcases h with rfl|rfl|rfl<;>rcases rw_eight ht with rfl|rfl|rfl|rfl|rfl|rfl|rfl|rfl<;>kernel_rfl
def rwMd (cs:List Nat) (k:Nat):Nat:=(cs.take k).foldl rwNext 0
def rwO (cs:List Nat) (k:Nat):List Int:=(List.range k).map fun i=>rwAns (rwMd cs i) (cs.getD i 0)
theorem rwMd_succ (cs:List Nat) (k:Nat) (hk:k<cs.length):rwMd cs (k+1)=rwNext (rwMd cs k) (cs.getD k 0):=by
 unfold rwMd
 rw [List.take_add_one,List.foldl_append,List.getElem?_eq_getElem hk]
 simp [List.getD,List.getElem?_eq_getElem hk]
theorem rwMd_lt (cs:List Nat): ∀k,k<=cs.length->rwMd cs k<3
 |0,_=>by unfold rwMd;simp
 |k+1,h=>by rw [rwMd_succ cs k (by omega)];exact rwNext_lt (rwMd_lt cs k (by omega)) _
theorem rwO_succ (cs:List Nat) (k:Nat):rwO cs (k+1)=rwO cs k++[rwAns (rwMd cs k) (cs.getD k 0)]:=by unfold rwO;rw [List.range_succ,List.map_append];rfl
theorem rw_all {t:Nat} (ht:t<8) {cs:List Nat} (h: ∀c∈cs,isRw c) (h40:cs.length<=40) (r:Nat->Int): ∀k,k<=cs.length->
 ∃n r',n<=17*k/\aSteps (cAll (rwL (t:Int)) cs) n ⟨0,r,rwV t 0,[]⟩=some ⟨(cTo (rwL (t:Int)) cs k).length,r',rwV t (rwMd cs k),rwO cs k⟩
 |0,_=>⟨0,r,Nat.le_refl _,rfl⟩
 |k+1,hk=>by
  obtain ⟨n,r1,hn,e⟩:=rw_all ht h h40 r k (by omega)
  have hmem:=cs_in cs k (by omega)
  have hc:isRw (cs.getD k 0):=h _ hmem
  obtain ⟨r2,e2⟩:=rw_call r1 ht (rwMd_lt cs k (by omega)) hc
  have hg:=rw_good ht h
  have hz:=(cTo_ok hg k (by omega)).2
  have hgc:=hg _ hmem
  simp only [Bool.and_eq_true,decide_eq_true_eq,List.all_eq_true]at hgc
  have hk2: ∀i∈(rwL (t:Int) (cs.getD k 0)++[(⟨22,7,0,0,0⟩:Ins)]),jmpB i.op=true->0<=i.k/\i.k+((cTo (rwL (t:Int)) cs k).length:Int)<4294967296:=fun i hi hj=>by
   rcases List.mem_append.1 hi with hi|hi
   ·have hr1:=List.all_eq_true.1 (rw_right ht hc) i hi
    have hok:=okB_ok (hgc.1 i hi)
    unfold rightB at hr1
    have ho:0<=i.op/\i.op<28:=by have :=of_decide_eq_true hj;omega
    rw [if_pos ho]at hr1
    have h4:=(of_decide_eq_true hr1).2.2.2
    have hT:(kindAt i.op.toNat).T=true:=by
     have :=of_decide_eq_true hj
     rcases this with q|q|q<;>rw [q]<;>first|rfl|decide
    rw [if_pos hT]at h4
    refine ⟨hok.k0,?_⟩
    omega
   ·rw [List.mem_singleton.1 hi]at hj
    cases hj
  have e3:=aSteps_at (cAll (rwL (t:Int)) cs) _ _ (rwO cs k) (fun o ho=>cAll_at (rwL (t:Int)) cs k (by omega) o ho) hk2 _ _ _ e2
  refine ⟨n+rwN (rwMd cs k) (cs.getD k 0),r2,by have :=rwN_le (rwMd cs k) (cs.getD k 0);omega,?_⟩
  rw [aSteps_add _ _ _ _ _ e]
  have e4:(⟨(cTo (rwL (t:Int)) cs k).length,r1,rwV t (rwMd cs k),rwO cs k⟩:AV)=AV.at (cTo (rwL (t:Int)) cs k).length (rwO cs k) ⟨0,r1,rwV t (rwMd cs k),[]⟩:=by
   unfold AV.at;simp
  rw [e4,e3,rwMd_succ cs k (by omega),rwO_succ,cTo_succ _ cs k (by omega)]
  unfold AV.at cAdd
  simp [Nat.add_assoc]
def rwPicks (k:Nat):List (Int×Int):=(List.range k).flatMap fun i=>if i % 3=0 then [(0,0),(1,0)]else [(0,0)]
theorem rwPicks_succ (k:Nat):rwPicks (k+1)=rwPicks k++(if k % 3=0 then [(0,0),(1,0)]else [(0,0)]):=by unfold rwPicks;rw [List.range_succ,List.flatMap_append];simp
def CI (B:MB) (L:List Ins) (N:Nat) (a0 aE:AV) (s:Mst) (cnt:Nat):Prop:=
 (∃j a,j<=N/\aSteps L j a0=some a/\RA B s a/\cnt+bln s<=2*j)∨((thM s 0).st=2/\s.ths.length=1/\outsP s.evs=aE.out)
section
variable {B:MB} {L:List Ins} {N:Nat} {a0 aE:AV} {s:Mst} {cnt:Nat}
theorem CI.len (h:CI B L N a0 aE s cnt):s.ths.length=1:=by
 rcases h with ⟨j,a,_,_,hR,_⟩|⟨_,h,_⟩
 ·rw [hR.ths];rfl
 ·exact h
theorem CI.step (h:CI B L N a0 aE s cnt) (hE:aSteps L N a0=some aE) (hEo:aE.o=L.length) (hroom:1<=B.room) (hl:(B.codes.getD 0 cdd).len=L.length) (hF:(B.codes.getD 0 cdd).F=fun i=>L.getD i default)
 (hr:(L.all fun i=>rightB i (L.length:Int))=true) (hk: ∀i∈L,0<=i.k):CI B L N a0 aE (tStep B s 0) (cnt+1):=by
 rcases h with ⟨j,a,hj,ha,hR,hc⟩|⟨h1,h2,h3⟩
 ·have hth:thM s 0=⟨(a.o:Int),a.r,0⟩:=by unfold thM;rw [hR.ths];rfl
  by_cases c:j<N
  ·obtain ⟨x,y,e1,e2,e3⟩:=aSteps_front L N a0 aE hE j c
   rw [ha]at e1
   obtain rfl:=Option.some.inj e1
   have hlt:a.o<L.length:=by
    unfold aOne at e2
    by_cases q:a.o<L.length
    ·exact q
    ·rw [if_neg q]at e2;cases e2
   unfold aOne at e2
   rw [if_pos hlt]at e2
   have hm:=getD_len L default a.o hlt
   rcases hR.step (i:=L.getD a.o default) hroom (by rw [hl];exact hlt) (by rw [hF]) (by rw [hl];exact List.all_eq_true.1 hr _ hm) e2 (hk _ hm)with ⟨k1,k2⟩|⟨k1,k2⟩
   ·exact .inl ⟨j+1,y,by omega,e3,k1,by omega⟩
   ·exact .inl ⟨j,a,hj,ha,k1,by omega⟩
  ·obtain rfl:j=N:=by omega
   rw [hE]at ha
   obtain rfl:=Option.some.inj ha
   have e:=tStep_end (B:=B) (s:=s) (t:=0) hth rfl (by rw [hl,<-hEo];exact Int.le_refl _)
   rw [e]
   refine .inr ⟨?_,?_,?_⟩
   ·show ((s.ths.set 0 _).getD 0 tha).st=2
    rw [hR.ths];rfl
   ·show (s.ths.set 0 _).length=1
    rw [List.length_set,hR.ths];rfl
   ·show outsP (s.evs++[_])=_
    rw [outs_snoc,hR.out]
    simp
 ·have e:=tStep_not (B:=B) (s:=s) (t:=0) (by rw [h1];decide)
  rw [e]
  exact .inr ⟨h1,h2,h3⟩
theorem CI.flush (h:CI B L N a0 aE s cnt):CI B L N a0 aE (tflush 0 s) cnt:=by
 rcases h with ⟨j,a,hj,ha,hR,hc⟩|⟨h1,h2,h3⟩
 ·obtain ⟨k1,k2,_⟩:=hR.flush
  exact .inl ⟨j,a,hj,ha,k1,by omega⟩
 ·have k:=tflush_same 0 s
  refine .inr ⟨by unfold thM;rw [k.1];exact h1,by rw [k.1];exact h2,?_⟩
  cases e:s.bufs.getD 0 []with
  |nil=>rw [tflush_nil e];exact h3
  |cons x l=>
   rw [tflush_cons e]
   show outsP (s.evs++[_])=_
   rw [outs_snoc,h3]
   simp
end
def rwRun (t n:Nat) (cs:List Nat) (k:Nat):Mst:=tRun (aB (cAll (rwL (t:Int)) cs) 2 (17+n)) (aS (17+n)) (rwPicks k)
theorem rw_ci {t n:Nat} (ht:t<n) (hn:n<=8) {cs:List Nat} (h: ∀c∈cs,isRw c) (h40:cs.length<=40): ∃N aE,N<=17*cs.length/\aE.out=rwO cs cs.length/\
 ∀k,CI (aB (cAll (rwL (t:Int)) cs) 2 (17+n)) (cAll (rwL (t:Int)) cs) N ⟨0,fun _=>0,rwV t 0,[]⟩ aE (rwRun t n cs k) k:=by
 have h8:t<8:=by omega
 obtain ⟨N,r,hN,e⟩:=rw_all h8 h h40 (fun _=>0) cs.length (Nat.le_refl _)
 refine ⟨N,⟨(cTo (rwL (t:Int)) cs cs.length).length,r,rwV t (rwMd cs cs.length),rwO cs cs.length⟩,hN,rfl,fun k=>?_⟩
 have hg:=rw_good h8 h
 have hok:=(cTo_ok hg cs.length (Nat.le_refl _)).1
 rw [cTo_all]at hok
 have hr:=cAll_right hg h40 (fun c hc=>rw_right h8 (h c hc))
 have hs: ∀{s:Mst} {c:Nat},CI (aB (cAll (rwL (t:Int)) cs) 2 (17+n)) (cAll (rwL (t:Int)) cs) N ⟨0,fun _=>0,rwV t 0,[]⟩ ⟨(cTo (rwL (t:Int)) cs cs.length).length,r,rwV t (rwMd cs cs.length),rwO cs cs.length⟩ s c->_:=fun hc=>
  hc.step e (by rw [cTo_all]) (show (1:Int)<=2 by decide) rfl rfl hr (fun i hi=>(hok i hi).k0)
 induction k with
 |zero=>
  refine .inl ⟨0,_,Nat.zero_le _,rfl,⟨rfl,rfl,rfl,by show (List.replicate (17+n) (0:Int)).length=_;rw [List.length_replicate];rfl,fun x v hx=>?_,fun e he=>(by cases he),rfl⟩,Nat.le_refl _⟩
  have hz: ∀x,x<17+n->(List.replicate (17+n) (0:Int)).getD x 0=0:=fun x hx=>by rw [List.getD_eq_getElem?_getD,List.getElem?_replicate,if_pos hx];rfl
  have hx:List.lookup x [(16,(0:Int)),(17+t,(0:Int))]=some v:=hx
  rw [List.lookup_cons,List.lookup_cons]at hx
  show x<17+n/\(List.replicate (17+n) (0:Int)).getD x 0=v
  by_cases c1:x=16
  ·subst c1
   cases hx
   exact ⟨by omega,hz _ (by omega)⟩
  ·rw [show (x==16)=false from by simpa using c1]at hx
   by_cases c2:x=17+t
   ·subst c2
    rw [show (17+t==17+t)=true from by simp]at hx
    cases hx
    exact ⟨by omega,hz _ (by omega)⟩
   ·rw [show (x==17+t)=false from by simpa using c2]at hx
    cases hx
 |succ k ih=>
  have hl:=ih.len
  have h1:=hs ih
  have hl1:=h1.len
  unfold rwRun tRun at ih hl h1 hl1⊢
  rw [rwPicks_succ,List.foldl_append]
  have p1: ∀s:Mst,s.ths.length=1->tPick (aB (cAll (rwL (t:Int)) cs) 2 (17+n)) s (0,0)=tStep (aB (cAll (rwL (t:Int)) cs) 2 (17+n)) s 0:=fun s q=>tPick_in (s:=s) 0 0 (by omega)
  have p2: ∀s:Mst,s.ths.length=1->tPick (aB (cAll (rwL (t:Int)) cs) 2 (17+n)) s (1,0)=tflush 0 s:=fun s q=>tPick_in (s:=s) 1 0 (by omega)
  split
  ·show CI _ _ _ _ _ (tPick _ (tPick _ _ (0,0)) (1,0)) _
   rw [p1 _ hl,p2 _ hl1]
   exact h1.flush
  ·show CI _ _ _ _ _ (tPick _ _ (0,0)) _
   rw [p1 _ hl]
   exact h1
theorem rw_told {t n:Nat} (ht:t<n) (hn:n<=8) {cs:List Nat} (h: ∀c∈cs,isRw c) (h40:cs.length<=40) (k:Nat) (hk:k=40*cs.length∨doneM (rwRun t n cs k)=true):outsP (rwRun t n cs k).evs=rwO cs cs.length:=by
 obtain ⟨N,aE,hN,hout,hc⟩:=rw_ci ht hn h h40
 rw [<-hout]
 rcases hc k with ⟨j,a,hj,ha,hR,hcnt⟩|⟨_,_,h3⟩
 ·rcases hk with rfl|hd
  ·have h0:cs.length=0:=by omega
   have hj0:j=0:=by omega
   subst hj0
   cases ha
   have hcs:cs=[]:=List.length_eq_zero_iff.1 h0
   rw [hR.out,hout]
   subst hcs
   rfl
  ·have h1:(rwRun t n cs k).ths.length=1:=by rw [hR.ths];rfl
   rw [doneM_no (t:=0) (by omega) (by unfold doneT;rw [hR.ths];rfl)]at hd
   cases hd
 ·exact h3
def fnR (v:Value):Option (DataW Unit×List MemPlace):=
 match v with
 | .func (.func n) f c=>if f.size=0/\c.size=0 then some (.lit (.int .i64 (n:Int)),[])else none
 | .nilFunc=>some (.lit (.bool false),[])
 |_=>none
theorem fnR_inv {v : Value} {n : Nat} {ps : List MemPlace} (h : fnR v = some (.lit (.int .i64 (n : Int)), ps)) : v = .func (.func n) #[] #[] := by
 unfold fnR at h
 split at h
 ·rename_i m f c
  by_cases q:f.size=0/\c.size=0
  ·rw [if_pos q]at h
   simp only [Option.some.injEq,Prod.mk.injEq,DataW.lit.injEq,Lit.int.injEq,true_and]at h
   obtain ⟨rfl⟩:=Array.size_eq_zero_iff.1 q.1
   obtain ⟨rfl⟩:=Array.size_eq_zero_iff.1 q.2
   have :m=n:=Int.ofNat_inj.1 h.1
   rw [this]
  ·rw [if_neg q]at h;cases h
 ·simp at h
 ·cases h
theorem BI.freshR {N0:Nat} {W:World} (hN:N0<=W.heap.size):BI N0 (W.alloc (.cells #[.slice none 0 0,.map none,.slice none 0 0,.bool false] 130)) W.heap.size BB.e:=
 ⟨_,_,none,Blk.new _ _ _,hN,⟨rfl,.inl ⟨rfl,rfl⟩⟩,⟨rfl,.inl ⟨rfl,rfl⟩⟩,rfl⟩
theorem BB.e_roomR (n:Nat) (h:n<=1000):BB.e.Room n:=⟨by show 0+n<=_;omega,by show 0+n<=_;omega,by show 0+n<=_;omega⟩
theorem OutI.belowR {W0 W1 W':World} {v:Value} {l:List Ins} (h:OutI W1 v l W') (hs:W0.heap.size<=W1.heap.size):OutI W0 v l W':=by
 obtain ⟨og,cap,cs,h1,h2,h3,h4,h5,h6,h7⟩:=h
 exact ⟨og,cap,cs,h1,h2,h3,h4,h5,Nat.le_trans hs h6,h7⟩
theorem rwkey_law:Maps.Keyed Tryz.prog 3:=Maps.int_keyed Tryz.underlying3
theorem rwkey (k:Int) (hk:0<=k/\k<=1000):keyOf Tryz.prog 3 (.int .i64 k)=some (.int .i64 k):=Maps.keyOf_int_mk Tryz.underlying3 (Go.WalkArith.wf_i64 (by omega))
theorem zero_fnB (w:World):(zeroValue 133).run Tryz.prog w= .ok .nilFunc w:=by kernel_rfl
set_option maxHeartbeats 4000000 in
theorem code_rwrite (threads base t arg:Int) (ht:1<=threads/\threads<=8) (h0:0<=t/\t<threads) (hb:0<=base/\base<=4294960000) (W:World) (hT:Tab W) (hO:ONam W):
 Calls Tryz.prog 24 #[.agg #[.int .i64 14,.int .i64 0,.int .i64 0,.int .i64 0],.int .i64 1,.int .i64 threads,.int .i64 t,.int .u32 base,.int .u32 arg] W fun e W'=>(∃v,e= .returned (.tuple #[v,.bool true])/\OutI W v (BB.rwrite BB.e base (base+1+t)).out W')/\Below W.heap.size W W':=by
 have hq:=Blk.new W 46 #[.int .i64 14,.int .i64 0,.int .i64 0,.int .i64 0]
 have hB:=(Below.refl W.heap.size W).alloc (Nat.le_refl _) (.cells #[.int .i64 14,.int .i64 0,.int .i64 0,.int .i64 0] 46)
 have q0:=(hq.cell 0).trans rfl
 have q1:=(hq.cell 1).trans rfl
 have q2:=(hq.cell 2).trans rfl
 have q3:=(hq.cell 3).trans rfl
 have cMy:=may_nam 14 (by decide) 1 threads t ht h0 (by decide) _ (hO.step hB)
 go_enter Tryz.func24,Tryz.ntmps24
 go_wp2_with fail
 refine cMy.mono ?_
 rintro e V0 ⟨rfl,hB0⟩
 clear cMy
 have hb0:=step_below hB hB0
 clear q0 q1 q2 q3 hB hB0 hq
 have hI:=BI.freshR (N0:=W.heap.size) (W:=V0) hb0.size
 have hal:=(Below.refl V0.heap.size V0).alloc (Nat.le_refl _) (.cells #[.slice none 0 0,.map none,.slice none 0 0,.bool false] 130)
 have hb1:=step_below hb0 hal
 obtain ⟨V1,hV1⟩: ∃V1,V0.alloc (.cells #[.slice none 0 0,.map none,.slice none 0 0,.bool false] 130)=V1:=⟨_,rfl⟩
 rw [hV1]at hI hb1
 have hal2:=(Below.refl V1.heap.size V1).alloc (Nat.le_refl _) (.cells #[.int .u32 base,.int .u32 (base+1+t)] 132)
 have hI2:=hI.below hal2
 have hb2:=step_below hb1 hal2
 have hw2:=Blk.new V1 132 #[.int .u32 base,.int .u32 (base+1+t)]
 obtain ⟨V2,hV2⟩: ∃V2,V1.alloc (.cells #[.int .u32 base,.int .u32 (base+1+t)] 132)=V2:=⟨_,rfl⟩
 rw [hV2]at hI2 hb2 hw2
 clear hal hal2 hI
 have qm:=run_makeMap (P:=Tryz.prog) 135 V2
 have o0:=World.ownsMap_made V2 Tryz.prog 3 fnR
 obtain ⟨X1, u1, o1, g1⟩ := o0.update rwkey_law Tryz.underlying135 (show 0 < maxLen by decide) (rwkey 1 (by decide)) (val := .func (.func 53) #[] #[]) (d := .lit (.int .i64 ((53 : Nat) : Int))) (ps := []) rfl
 obtain ⟨X2, u2, o2, g2⟩ := o1.update rwkey_law Tryz.underlying135 (show 1 < maxLen by decide) (rwkey 3 (by decide)) (val := .func (.func 54) #[] #[]) (d := .lit (.int .i64 ((54 : Nat) : Int))) (ps := []) rfl
 obtain ⟨X3, u3, o3, g3⟩ := o2.update rwkey_law Tryz.underlying135 (show 2 < maxLen by decide) (rwkey 2 (by decide)) (val := .func (.func 55) #[] #[]) (d := .lit (.int .i64 ((55 : Nat) : Int))) (ps := []) rfl
 obtain ⟨v,ps,hl,hv⟩:=o3.lookup rwkey_law Tryz.underlying135 (zero_fnB X3) (z:= .nilFunc) (zd:= .lit (.bool false)) (zp:=[]) rfl (rwkey 1 (by decide))
 obtain rfl : v = .func (.func 53) #[] #[] := fnR_inv (hv.trans rfl)
 have hm0:=(Below.refl V2.heap.size V2).alloc (Nat.le_refl _) (.map #[] 0)
 have hge: ∀g,some V2.heap.size=some g->V2.heap.size<=g:=fun g e=>by cases e;exact Nat.le_refl _
 have hm3:=((hm0.trans (below_of_grown hm0.size g1 hge)).trans (below_of_grown (Nat.le_trans hm0.size g1.size) g2 hge)).trans (below_of_grown (Nat.le_trans (Nat.le_trans hm0.size g1.size) g2.size) g3 hge)
 have hI3:=hI2.below hm3
 have hw3:=hw2.below hm3 hw2.lt
 have hb3:=step_below hb2 hm3
 have c0:=(hw3.cell 0).trans rfl
 have c1:=(hw3.cell 1).trans rfl
 have HZ:=Lib.hid (And.intro hb3 hT)
 clear hb0 hb1 hT hI2 hb2 hw2 hm0 hge hm3 o0 o1 o2 o3 g1 g2 g3 hv hb3 hw3
 have hbt:base+1+t<=4294967295:=by omega
 have hr:=BB.e_roomR 900 (by decide)
 obtain ⟨bb,hbb⟩: ∃bb,V0.heap.size=bb:=⟨_,rfl⟩
 rw [hbb]at hI3
 go_wp2_with fail
 try rw [hbb]
 refine Bls.step (b_rwrite (n:=883) _ _ hI3 hr) ?_
 rintro _ W1 ⟨⟨u0,rfl⟩,h1,b1⟩
 have hbz:=HZ.out.1.trans b1.b
 have hTz:=HZ.out.2.step hbz
 go_wp2_with fail
 refine (bcode_any W.heap.size bb _ W1 h1 hTz (by kernel_rfl) (Nat.le_of_ble_eq_true (by kernel_rfl)) (Nat.le_of_ble_eq_true (by kernel_rfl)) (Nat.le_of_ble_eq_true (by kernel_rfl))).mono ?_
 rintro e V9 ⟨⟨v,rfl,hO9⟩,hB9⟩
 go_wp2
 go_ret2
 exact ⟨⟨_,rfl,hO9.belowR hbz.size⟩,step_below hbz hB9⟩
set_option maxHeartbeats 4000000 in
theorem code_rread (threads base t arg:Int) (ht:1<=threads/\threads<=8) (h0:0<=t/\t<threads) (hb:0<=base/\base<=4294960000) (W:World) (hT:Tab W) (hO:ONam W):
 Calls Tryz.prog 24 #[.agg #[.int .i64 14,.int .i64 0,.int .i64 0,.int .i64 0],.int .i64 3,.int .i64 threads,.int .i64 t,.int .u32 base,.int .u32 arg] W fun e W'=>(∃v,e= .returned (.tuple #[v,.bool true])/\OutI W v (BB.rread BB.e base (base+1+t)).out W')/\Below W.heap.size W W':=by
 have hq:=Blk.new W 46 #[.int .i64 14,.int .i64 0,.int .i64 0,.int .i64 0]
 have hB:=(Below.refl W.heap.size W).alloc (Nat.le_refl _) (.cells #[.int .i64 14,.int .i64 0,.int .i64 0,.int .i64 0] 46)
 have q0:=(hq.cell 0).trans rfl
 have q1:=(hq.cell 1).trans rfl
 have q2:=(hq.cell 2).trans rfl
 have q3:=(hq.cell 3).trans rfl
 have cMy:=may_nam 14 (by decide) 3 threads t ht h0 (by decide) _ (hO.step hB)
 go_enter Tryz.func24,Tryz.ntmps24
 go_wp2_with fail
 refine cMy.mono ?_
 rintro e V0 ⟨rfl,hB0⟩
 clear cMy
 have hb0:=step_below hB hB0
 clear q0 q1 q2 q3 hB hB0 hq
 have hI:=BI.freshR (N0:=W.heap.size) (W:=V0) hb0.size
 have hal:=(Below.refl V0.heap.size V0).alloc (Nat.le_refl _) (.cells #[.slice none 0 0,.map none,.slice none 0 0,.bool false] 130)
 have hb1:=step_below hb0 hal
 obtain ⟨V1,hV1⟩: ∃V1,V0.alloc (.cells #[.slice none 0 0,.map none,.slice none 0 0,.bool false] 130)=V1:=⟨_,rfl⟩
 rw [hV1]at hI hb1
 have hal2:=(Below.refl V1.heap.size V1).alloc (Nat.le_refl _) (.cells #[.int .u32 base,.int .u32 (base+1+t)] 132)
 have hI2:=hI.below hal2
 have hb2:=step_below hb1 hal2
 have hw2:=Blk.new V1 132 #[.int .u32 base,.int .u32 (base+1+t)]
 obtain ⟨V2,hV2⟩: ∃V2,V1.alloc (.cells #[.int .u32 base,.int .u32 (base+1+t)] 132)=V2:=⟨_,rfl⟩
 rw [hV2]at hI2 hb2 hw2
 clear hal hal2 hI
 have qm:=run_makeMap (P:=Tryz.prog) 135 V2
 have o0:=World.ownsMap_made V2 Tryz.prog 3 fnR
 obtain ⟨X1, u1, o1, g1⟩ := o0.update rwkey_law Tryz.underlying135 (show 0 < maxLen by decide) (rwkey 1 (by decide)) (val := .func (.func 53) #[] #[]) (d := .lit (.int .i64 ((53 : Nat) : Int))) (ps := []) rfl
 obtain ⟨X2, u2, o2, g2⟩ := o1.update rwkey_law Tryz.underlying135 (show 1 < maxLen by decide) (rwkey 3 (by decide)) (val := .func (.func 54) #[] #[]) (d := .lit (.int .i64 ((54 : Nat) : Int))) (ps := []) rfl
 obtain ⟨X3, u3, o3, g3⟩ := o2.update rwkey_law Tryz.underlying135 (show 2 < maxLen by decide) (rwkey 2 (by decide)) (val := .func (.func 55) #[] #[]) (d := .lit (.int .i64 ((55 : Nat) : Int))) (ps := []) rfl
 obtain ⟨v,ps,hl,hv⟩:=o3.lookup rwkey_law Tryz.underlying135 (zero_fnB X3) (z:= .nilFunc) (zd:= .lit (.bool false)) (zp:=[]) rfl (rwkey 3 (by decide))
 obtain rfl : v = .func (.func 54) #[] #[] := fnR_inv (hv.trans rfl)
 have hm0:=(Below.refl V2.heap.size V2).alloc (Nat.le_refl _) (.map #[] 0)
 have hge: ∀g,some V2.heap.size=some g->V2.heap.size<=g:=fun g e=>by cases e;exact Nat.le_refl _
 have hm3:=((hm0.trans (below_of_grown hm0.size g1 hge)).trans (below_of_grown (Nat.le_trans hm0.size g1.size) g2 hge)).trans (below_of_grown (Nat.le_trans (Nat.le_trans hm0.size g1.size) g2.size) g3 hge)
 have hI3:=hI2.below hm3
 have hw3:=hw2.below hm3 hw2.lt
 have hb3:=step_below hb2 hm3
 have c0:=(hw3.cell 0).trans rfl
 have c1:=(hw3.cell 1).trans rfl
 have HZ:=Lib.hid (And.intro hb3 hT)
 clear hb0 hb1 hT hI2 hb2 hw2 hm0 hge hm3 o0 o1 o2 o3 g1 g2 g3 hv hb3 hw3
 have hbt:base+1+t<=4294967295:=by omega
 have hr:=BB.e_roomR 900 (by decide)
 obtain ⟨bb,hbb⟩: ∃bb,V0.heap.size=bb:=⟨_,rfl⟩
 rw [hbb]at hI3
 go_wp2_with fail
 try rw [hbb]
 refine Bls.step (b_rread (n:=876) _ _ hI3 hr) ?_
 rintro _ W1 ⟨⟨u0,rfl⟩,h1,b1⟩
 have hbz:=HZ.out.1.trans b1.b
 have hTz:=HZ.out.2.step hbz
 go_wp2_with fail
 refine (bcode_any W.heap.size bb _ W1 h1 hTz (by kernel_rfl) (Nat.le_of_ble_eq_true (by kernel_rfl)) (Nat.le_of_ble_eq_true (by kernel_rfl)) (Nat.le_of_ble_eq_true (by kernel_rfl))).mono ?_
 rintro e V9 ⟨⟨v,rfl,hO9⟩,hB9⟩
 go_wp2
 go_ret2
 exact ⟨⟨_,rfl,hO9.belowR hbz.size⟩,step_below hbz hB9⟩
set_option maxHeartbeats 4000000 in
theorem code_rrel (threads base t arg:Int) (ht:1<=threads/\threads<=8) (h0:0<=t/\t<threads) (hb:0<=base/\base<=4294960000) (W:World) (hT:Tab W) (hO:ONam W):
 Calls Tryz.prog 24 #[.agg #[.int .i64 14,.int .i64 0,.int .i64 0,.int .i64 0],.int .i64 2,.int .i64 threads,.int .i64 t,.int .u32 base,.int .u32 arg] W fun e W'=>(∃v,e= .returned (.tuple #[v,.bool true])/\OutI W v (BB.rrel BB.e base (base+1+t)).out W')/\Below W.heap.size W W':=by
 have hq:=Blk.new W 46 #[.int .i64 14,.int .i64 0,.int .i64 0,.int .i64 0]
 have hB:=(Below.refl W.heap.size W).alloc (Nat.le_refl _) (.cells #[.int .i64 14,.int .i64 0,.int .i64 0,.int .i64 0] 46)
 have q0:=(hq.cell 0).trans rfl
 have q1:=(hq.cell 1).trans rfl
 have q2:=(hq.cell 2).trans rfl
 have q3:=(hq.cell 3).trans rfl
 have cMy:=may_nam 14 (by decide) 2 threads t ht h0 (by decide) _ (hO.step hB)
 go_enter Tryz.func24,Tryz.ntmps24
 go_wp2_with fail
 refine cMy.mono ?_
 rintro e V0 ⟨rfl,hB0⟩
 clear cMy
 have hb0:=step_below hB hB0
 clear q0 q1 q2 q3 hB hB0 hq
 have hI:=BI.freshR (N0:=W.heap.size) (W:=V0) hb0.size
 have hal:=(Below.refl V0.heap.size V0).alloc (Nat.le_refl _) (.cells #[.slice none 0 0,.map none,.slice none 0 0,.bool false] 130)
 have hb1:=step_below hb0 hal
 obtain ⟨V1,hV1⟩: ∃V1,V0.alloc (.cells #[.slice none 0 0,.map none,.slice none 0 0,.bool false] 130)=V1:=⟨_,rfl⟩
 rw [hV1]at hI hb1
 have hal2:=(Below.refl V1.heap.size V1).alloc (Nat.le_refl _) (.cells #[.int .u32 base,.int .u32 (base+1+t)] 132)
 have hI2:=hI.below hal2
 have hb2:=step_below hb1 hal2
 have hw2:=Blk.new V1 132 #[.int .u32 base,.int .u32 (base+1+t)]
 obtain ⟨V2,hV2⟩: ∃V2,V1.alloc (.cells #[.int .u32 base,.int .u32 (base+1+t)] 132)=V2:=⟨_,rfl⟩
 rw [hV2]at hI2 hb2 hw2
 clear hal hal2 hI
 have qm:=run_makeMap (P:=Tryz.prog) 135 V2
 have o0:=World.ownsMap_made V2 Tryz.prog 3 fnR
 obtain ⟨X1, u1, o1, g1⟩ := o0.update rwkey_law Tryz.underlying135 (show 0 < maxLen by decide) (rwkey 1 (by decide)) (val := .func (.func 53) #[] #[]) (d := .lit (.int .i64 ((53 : Nat) : Int))) (ps := []) rfl
 obtain ⟨X2, u2, o2, g2⟩ := o1.update rwkey_law Tryz.underlying135 (show 1 < maxLen by decide) (rwkey 3 (by decide)) (val := .func (.func 54) #[] #[]) (d := .lit (.int .i64 ((54 : Nat) : Int))) (ps := []) rfl
 obtain ⟨X3, u3, o3, g3⟩ := o2.update rwkey_law Tryz.underlying135 (show 2 < maxLen by decide) (rwkey 2 (by decide)) (val := .func (.func 55) #[] #[]) (d := .lit (.int .i64 ((55 : Nat) : Int))) (ps := []) rfl
 obtain ⟨v,ps,hl,hv⟩:=o3.lookup rwkey_law Tryz.underlying135 (zero_fnB X3) (z:= .nilFunc) (zd:= .lit (.bool false)) (zp:=[]) rfl (rwkey 2 (by decide))
 obtain rfl : v = .func (.func 55) #[] #[] := fnR_inv (hv.trans rfl)
 have hm0:=(Below.refl V2.heap.size V2).alloc (Nat.le_refl _) (.map #[] 0)
 have hge: ∀g,some V2.heap.size=some g->V2.heap.size<=g:=fun g e=>by cases e;exact Nat.le_refl _
 have hm3:=((hm0.trans (below_of_grown hm0.size g1 hge)).trans (below_of_grown (Nat.le_trans hm0.size g1.size) g2 hge)).trans (below_of_grown (Nat.le_trans (Nat.le_trans hm0.size g1.size) g2.size) g3 hge)
 have hI3:=hI2.below hm3
 have hw3:=hw2.below hm3 hw2.lt
 have hb3:=step_below hb2 hm3
 have c0:=(hw3.cell 0).trans rfl
 have c1:=(hw3.cell 1).trans rfl
 have HZ:=Lib.hid (And.intro hb3 hT)
 clear hb0 hb1 hT hI2 hb2 hw2 hm0 hge hm3 o0 o1 o2 o3 g1 g2 g3 hv hb3 hw3
 have hbt:base+1+t<=4294967295:=by omega
 have hr:=BB.e_roomR 900 (by decide)
 obtain ⟨bb,hbb⟩: ∃bb,V0.heap.size=bb:=⟨_,rfl⟩
 rw [hbb]at hI3
 go_wp2_with fail
 try rw [hbb]
 refine Bls.step (b_rrel (n:=875) _ _ hI3 hr) ?_
 rintro _ W1 ⟨⟨u0,rfl⟩,h1,b1⟩
 have hbz:=HZ.out.1.trans b1.b
 have hTz:=HZ.out.2.step hbz
 go_wp2_with fail
 refine (bcode_any W.heap.size bb _ W1 h1 hTz (by kernel_rfl) (Nat.le_of_ble_eq_true (by kernel_rfl)) (Nat.le_of_ble_eq_true (by kernel_rfl)) (Nat.le_of_ble_eq_true (by kernel_rfl))).mono ?_
 rintro e V9 ⟨⟨v,rfl,hO9⟩,hB9⟩
 go_wp2
 go_ret2
 exact ⟨⟨_,rfl,hO9.belowR hbz.size⟩,step_below hbz hB9⟩
end Go.Proofs.YtmhfpjnkjlhbpaaGreatDoor
