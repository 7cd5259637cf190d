/- law22: awake. Heaps as functions from places to items: plain facts. Even scripts, as lists: what is picked next; such a script is fair; there is just one. pick.Of. The contracts of pick.Of, pick.Byte and of the anchor 'awake': what each returns, for every argument. The contracts of the reference's Fair and of pick.Fair: each tells whether every window holds each thread's step and flush. An even script is fair. Machines of threads (plain): fair scripts bring to an end what always has somebody to help. Machines of threads (plain): what serves any proof that all come to an end. -/
import Derived.Test.YtmhfpjnkjlhbpaaGreatDoorQd33
import Derived.Test.YtmhfpjnkjlhbpaaGreatDoorQd01
import Derived.Deep.QuietTactic
import Derived.BigQuiet
import Derived.Test.YtmhfpjnkjlhbpaaGreatDoorQd23
import Derived.Test.YtmhfpjnkjlhbpaaGreatDoorQd28
import Derived.Test.YtmhfpjnkjlhbpaaGreatDoorQd24
namespace Go.Proofs.YtmhfpjnkjlhbpaaGreatDoor
open Go.ChangeShapes Go.WideShapes Go.ChangeAt Go.RowKit Go.Deep
set_option linter.unusedVariables false
set_option maxRecDepth 100000
set_option linter.unusedSimpArgs false
theorem u32_cellsR {W:World} {b n:Nat} {v:Value} {xs:List Int} (h:W.ownsRow b 42 1 v n (xs.map (Value.int .u32))) (hn:xs.length=n) (h0:0<n): ∃g o cap,v= .slice (some ⟨g,o,none⟩) n cap/\g<W.heap.size/\ ∀i,i<n->W.cell? ⟨g,o+i,none⟩=some (.int .u32 (xs.getD i 0)):=by
 obtain ⟨A,cap,rfl,_,hs⟩:=own_sl h
 obtain ⟨g,o,rfl,hlt,hc⟩:=hs (by omega)
 refine ⟨g,o,cap,rfl,hlt,fun i hi=>(hc i (by omega)).trans ?_⟩
 have hi2:i<xs.length:=by omega
 simp [List.getD_eq_getElem?_getD,List.getElem?_eq_getElem hi2]
set_option maxHeartbeats 1000000 in
theorem awake22_any (W:World) (hT:Tab W) (hO:ONam W):Calls Tryz.prog 23 #[] W fun e W'=>e= .returned (.bool true)/\Below W.heap.size W W':=by
 have hal:=(Below.refl W.heap.size W).alloc (Nat.le_refl _) (.cells #[.int .i64 3,.int .i64 1,.int .i64 2,.int .i64 2] 3)
 have hb:=Blk.new W 3 #[.int .i64 3,.int .i64 1,.int .i64 2,.int .i64 2]
 have cA:=alone_any 1 0 (by decide) (by decide) [3,1,2,2] (by unfold isRw;decide) (by decide) (some ⟨W.heap.size,0,none⟩) 4 _ (hT.step hal) (hO.step hal) (fun _=>⟨W.heap.size,0,rfl,hb.lt,fun i hi j u hu=>by
  rw [Nat.zero_add,hb.cell]
  have hj:j<1:=(List.getElem?_eq_some_iff.1 hu).1
  obtain rfl:j=0:=by omega
  have hi:i<4:=hi
  rcases (by omega:i=0∨i=1∨i=2∨i=3)with rfl|rfl|rfl|rfl<;>exact hu⟩)
 have HB:=Lib.hid hal
 clear hal hb
 go_enter Tryz.func23,Tryz.ntmps23
 go_wp2_with fail
 refine cA.mono ?_
 rintro e W1 ⟨⟨vo,rfl,hr⟩,hB⟩
 obtain ⟨g,o,cap,rfl,_,hc⟩:=u32_cellsR (xs:=rwO [3,1,2,2] 4) (n:=4) hr rfl (by decide)
 have q0:W1.cell? ⟨g,o,none⟩=some (.int .u32 0):=hc 0 (by decide)
 have q1:W1.cell? ⟨g,o+1,none⟩=some (.int .u32 1):=hc 1 (by decide)
 have q2:W1.cell? ⟨g,o+2,none⟩=some (.int .u32 0):=hc 2 (by decide)
 have q3:W1.cell? ⟨g,o+3,none⟩=some (.int .u32 2):=hc 3 (by decide)
 have HF:=Lib.hid (step_below HB.out hB)
 clear cA hc hr hB
 go_wp2
 go_ret
 exact ⟨rfl,HF.out⟩
end Go.Proofs.YtmhfpjnkjlhbpaaGreatDoor
namespace Go.Proofs.YtmhfpjnkjlhbpaaGreatDoor
set_option linter.unusedVariables false
set_option maxRecDepth 100000
structure Itm where
 kind:Int
 who:Int
 due:Int
instance:Inhabited Itm:=⟨⟨0,0,0⟩⟩
def swp (F:Nat->Itm) (i j:Nat):Nat->Itm:=fun k=>if k=i then F j else if k=j then F i else F k
theorem swp_l (F:Nat->Itm) (i j:Nat):swp F i j i=F j:=by simp [swp]
theorem swp_r (F:Nat->Itm) (i j:Nat):swp F i j j=F i:=by
 unfold swp
 by_cases h:j=i
 ·rw [if_pos h,h]
 ·rw [if_neg h,if_pos rfl]
theorem swp_o (F:Nat->Itm) (i j k:Nat) (h1:k≠i) (h2:k≠j):swp F i j k=F k:=by simp [swp,h1,h2]
inductive Swaps (n:Nat) (F:Nat->Itm):(Nat->Itm)->Prop where
 |refl:Swaps n F F
 |step {G:Nat->Itm} (h:Swaps n F G) (i j:Nat) (hi:i<n) (hj:j<n):Swaps n F (swp G i j)
theorem Swaps.trans {n:Nat} {F G H:Nat->Itm} (h:Swaps n F G) (k:Swaps n G H):Swaps n F H:=by
 induction k with
 |refl=>exact h
 |step k i j hi hj ih=>exact .step ih i j hi hj
def par (k:Nat):Nat:=(k-1)/2
def Heap (n:Nat) (F:Nat->Itm):Prop:= ∀k,0<k->k<n->(F (par k)).due<=(F k).due
theorem Heap.root {n:Nat} {F:Nat->Itm} (h:Heap n F): ∀k,k<n->(F 0).due<=(F k).due:=by
 intro k
 induction k using Nat.strongRecOn with
 |ind k ih=>
  intro hk
  rcases Nat.eq_zero_or_pos k with rfl|hp
  ·exact Int.le_refl _
  ·have h1:=h k hp hk
   have h2:=ih (par k) (by unfold par;omega) (by unfold par;omega)
   omega
structure But (n:Nat) (F:Nat->Itm) (i:Nat):Prop where
 far: ∀k,0<k->k<n->k≠i->par k≠i->(F (par k)).due<=(F k).due
 over: ∀c,c<n->0<i->0<c->par c=i->(F (par i)).due<=(F c).due
structure ButUp (n:Nat) (F:Nat->Itm) (i:Nat):Prop where
 far: ∀k,0<k->k<n->k≠i->(F (par k)).due<=(F k).due
 over: ∀c,c<n->0<i->0<c->par c=i->(F (par i)).due<=(F c).due
theorem Heap.but {n:Nat} {F:Nat->Itm} (h:Heap n F) (i:Nat) (x:Itm):But n (fun k=>if k=i then x else F k) i:=by
 refine ⟨fun k h0 hk h1 h2=>?_,fun c hc hi h0 hp=>?_⟩
 ·rw [if_neg h1,if_neg h2]
  exact h k h0 hk
 ·have h1:par i≠i:=by unfold par;omega
  have h2:c≠i:=by unfold par at hp;omega
  rw [if_neg h1,if_neg h2]
  have a:=h c h0 hc
  have b:=h i hi (by unfold par at hp;omega)
  rw [hp]at a
  omega
theorem ButUp.root {n:Nat} {F:Nat->Itm} (h:ButUp n F 0):Heap n F:=fun k h0 hk=>h.far k h0 hk (by omega)
theorem ButUp.done {n:Nat} {F:Nat->Itm} {i:Nat} (h:ButUp n F i) (hd:(F (par i)).due<=(F i).due):Heap n F:=fun k h0 hk=>by
 by_cases e:k=i
 ·subst e;exact hd
 ·exact h.far k h0 hk e
theorem ButUp.step {n:Nat} {F:Nat->Itm} {j:Nat} (h:ButUp n F j) (h0:0<j) (hj:j<n) (hl:(F j).due<(F (par j)).due):ButUp n (swp F (par j) j) (par j):=by
 have hij:par j≠j:=by unfold par;omega
 have key: ∀k,0<k->k<n->k≠par j->(swp F (par j) j (par k)).due<=(swp F (par j) j k).due:=by
  intro k hk0 hkn hne
  by_cases e1:k=j
  ·subst e1
   rw [swp_l,swp_r]
   omega
  ·rw [swp_o F _ _ k hne e1]
   by_cases e2:par k=par j
   ·rw [e2,swp_l]
    have :=h.far k hk0 hkn e1
    rw [e2]at this
    omega
   ·by_cases e3:par k=j
    ·rw [e3,swp_r]
     exact h.over k hkn h0 hk0 e3
    ·rw [swp_o F _ _ _ e2 e3]
     exact h.far k hk0 hkn e1
 refine ⟨key,fun c hc hi0 hc0 hp=>?_⟩
 have hpp:par (par j)≠par j:=by unfold par at hi0⊢;omega
 have hpj:par (par j)≠j:=by unfold par at hi0⊢;omega
 rw [swp_o F _ _ _ hpp hpj]
 have hup:=h.far (par j) hi0 (by unfold par;omega) hij
 by_cases e1:c=j
 ·subst e1;rw [swp_r];exact hup
 ·have hcp:c≠par j:=by unfold par at hp hi0⊢;omega
  rw [swp_o F _ _ c hcp e1]
  have :=h.far c hc0 hc e1
  rw [hp]at this
  omega
theorem But.step {n:Nat} {F:Nat->Itm} {i j:Nat} (h:But n F i) (hj:j<n) (h0:0<j) (hp:par j=i) (hmin: ∀c,c<n->0<c->par c=i->(F j).due<=(F c).due) (hl:(F j).due<(F i).due):
 But n (swp F i j) j/\(swp F i j (par j)).due<=(swp F i j j).due/\(∀k,0<k->k<n->par k=i->(swp F i j i).due<=(swp F i j k).due)/\(0<i->(swp F i j (par i)).due<=(swp F i j i).due):=by
 have hij:i≠j:=by unfold par at hp;omega
 refine ⟨⟨fun k hk0 hkn h1 h2=>?_,fun c hc hj0 hc0 hcp=>?_⟩,?_,fun k hk0 hkn hk=>?_,fun hi0=>?_⟩
 ·by_cases e1:k=i
  ·subst e1
   rw [swp_l]
   have hpk:par k≠k:=by unfold par;omega
   rw [swp_o F _ _ _ hpk h2]
   exact h.over j hj hk0 h0 hp
  ·rw [swp_o F _ _ k e1 h1]
   by_cases e2:par k=i
   ·rw [e2,swp_l]
    exact hmin k hkn hk0 e2
   ·rw [swp_o F _ _ _ e2 h2]
    exact h.far k hk0 hkn e1 e2
 ·rw [hp,swp_l]
  have hci:c≠i:=by unfold par at hcp hp;omega
  have hcj:c≠j:=by unfold par at hcp;omega
  rw [swp_o F _ _ c hci hcj]
  have :=h.far c hc0 hc hci (by rw [hcp];exact Ne.symm hij)
  rwa [hcp]at this
 ·rw [hp,swp_l,swp_r]
  omega
 ·rw [swp_l]
  by_cases e:k=j
  ·subst e;rw [swp_r];omega
  ·have :k≠i:=by unfold par at hk;omega
   rw [swp_o F _ _ k this e]
   exact hmin k hkn hk0 hk
 ·have hpi:par i≠i:=by unfold par;omega
  have hpj:par i≠j:=by unfold par at hp⊢;omega
  rw [swp_l,swp_o F _ _ _ hpi hpj]
  exact h.over j hj hi0 h0 hp
theorem But.stop {n:Nat} {F:Nat->Itm} {i:Nat} (h:But n F i) (hb: ∀c,c<n->0<c->par c=i->(F i).due<=(F c).due):ButUp n F i:=
 ⟨fun k h0 hk h1=>by
  by_cases e:par k=i
  ·rw [e];exact hb k hk h0 e
  ·exact h.far k h0 hk h1 e,h.over⟩
theorem But.heap {n:Nat} {F:Nat->Itm} {i:Nat} (h:But n F i) (hb: ∀c,c<n->0<c->par c=i->(F i).due<=(F c).due) (hu:0<i->(F (par i)).due<=(F i).due):Heap n F:=fun k h0 hk=>by
 by_cases e:k=i
 ·subst e;exact hu h0
 ·exact (h.stop hb).far k h0 hk e
theorem Heap.push {n:Nat} {F:Nat->Itm} (h:Heap n F) (x:Itm):ButUp (n+1) (fun k=>if k=n then x else F k) n:=by
 refine ⟨fun k h0 hk h1=>?_,fun c hc hi h0 hp=>?_⟩
 ·rw [if_neg h1,if_neg (by unfold par;omega)]
  exact h k h0 (by omega)
 ·unfold par at hp
  omega
end Go.Proofs.YtmhfpjnkjlhbpaaGreatDoor
namespace Go.Proofs.YtmhfpjnkjlhbpaaGreatDoor
open Go.RowKit
set_option linter.unusedVariables false
set_option maxRecDepth 100000
abbrev Pk:=Int×Int
abbrev Du:=Nat->Nat->Int
def du0 (w:Nat):Du:=fun kind who=>(w:Int)-2*(who:Int)-(kind:Int)
def updD (D:Du) (x:Pk) (v:Int):Du:=fun kind who=>if ((kind:Int),(who:Int))=x then v else D kind who
def ndue (n w:Nat):Int:=wrap64 ((n:Int)+1+(w:Int))
def First (t:Nat) (D:Du) (kind who:Nat):Prop:=kind<2/\who<t/\ ∀k' w',k'<2->w'<t->D kind who<=D k' w'
inductive Play (t w nw:Nat) (Wf:Nat->Pk):List Pk->Du->Nat->Prop where
 |nil:Play t w nw Wf [] (du0 w) 0
 |own {L:List Pk} {D:Du} {k:Nat} (h:Play t w nw Wf L D k) (kind who:Nat) (hf:First t D kind who) (hd:wrap64 (D kind who-(L.length:Int))<=2*(t:Int)∨nw=0):
   Play t w nw Wf (L++[((kind:Int),(who:Int))]) (updD D ((kind:Int),(who:Int)) (ndue L.length w)) k
 |wish {L:List Pk} {D:Du} {k:Nat} (h:Play t w nw Wf L D k) (kind who:Nat) (hf:First t D kind who) (hd: ¬wrap64 (D kind who-(L.length:Int))<=2*(t:Int)) (hn:0<nw):
   Play t w nw Wf (L++[Wf (k % nw)]) (updD D (Wf (k % nw)) (ndue L.length w)) (k+1)
theorem Play.len {t w nw:Nat} {Wf:Nat->Pk} {L:List Pk} {D:Du} {k:Nat} (h:Play t w nw Wf L D k):k<=L.length:=by
 induction h with
 |nil=>exact Nat.le_refl _
 |own h _ _ _ _ ih=>simp;omega
 |wish h _ _ _ _ _ ih=>simp;omega
theorem Play.bound {t w nw:Nat} {Wf:Nat->Pk} {L:List Pk} {D:Du} {k:Nat} (ht:t<=8) (hw:4*t<=w) (hw2:w<=1099511627776) (h:Play t w nw Wf L D k) (hl:L.length<=100000):
 ∀kind who,kind<2->who<t-> -100<=D kind who/\D kind who<=(L.length:Int)+(w:Int):=by
 have hv: ∀n:Nat,n<=100000->ndue n w=(n:Int)+1+(w:Int):=fun n hn=>by unfold ndue wrap64;omega
 induction h with
 |nil=>
  intro kind who hk hwho
  unfold du0
  simp
  omega
 |own h kd wh hf hd ih=>
  intro kind who hk hwho
  simp only [List.length_append,List.length_cons,List.length_nil]at hl⊢
  obtain ⟨h1,h2⟩:=ih (by omega) kind who hk hwho
  unfold updD
  split
  ·rw [hv _ (by omega)];omega
  ·omega
 |wish h kd wh hf hd hn ih=>
  intro kind who hk hwho
  simp only [List.length_append,List.length_cons,List.length_nil]at hl⊢
  obtain ⟨h1,h2⟩:=ih (by omega) kind who hk hwho
  unfold updD
  split
  ·rw [hv _ (by omega)];omega
  ·omega
theorem Play.inj {t w nw:Nat} {Wf:Nat->Pk} {L:List Pk} {D:Du} {k:Nat} (ht:t<=8) (hw:4*t<=w) (hw2:w<=1099511627776) (h:Play t w nw Wf L D k) (hl:L.length<=100000):
 ∀k1 w1 k2 w2,k1<2->w1<t->k2<2->w2<t->D k1 w1=D k2 w2->k1=k2/\w1=w2:=by
 have hv: ∀n:Nat,n<=100000->ndue n w=(n:Int)+1+(w:Int):=fun n hn=>by unfold ndue wrap64;omega
 induction h with
 |nil=>
  intro k1 w1 k2 w2 a b c d e
  unfold du0 at e
  omega
 |own h kd wh hf hd ih=>
  intro k1 w1 k2 w2 a b c d e
  simp only [List.length_append,List.length_cons,List.length_nil]at hl
  have hb:=h.bound ht hw hw2 (by omega)
  have b1:=hb k1 w1 a b
  have b2:=hb k2 w2 c d
  unfold updD at e
  rw [hv _ (by omega)]at e
  split at e<;>split at e
  ·rename_i e1 e2
   have :=e1.trans e2.symm
   injection this with q1 q2
   omega
  ·omega
  ·omega
  ·exact ih (by omega) k1 w1 k2 w2 a b c d e
 |wish h kd wh hf hd hn ih=>
  intro k1 w1 k2 w2 a b c d e
  simp only [List.length_append,List.length_cons,List.length_nil]at hl
  have hb:=h.bound ht hw hw2 (by omega)
  have b1:=hb k1 w1 a b
  have b2:=hb k2 w2 c d
  unfold updD at e
  rw [hv _ (by omega)]at e
  split at e<;>split at e
  ·rename_i e1 e2
   have :=e1.trans e2.symm
   injection this with q1 q2
   omega
  ·omega
  ·omega
  ·exact ih (by omega) k1 w1 k2 w2 a b c d e
end Go.Proofs.YtmhfpjnkjlhbpaaGreatDoor
namespace Go.Proofs.YtmhfpjnkjlhbpaaGreatDoor
open Go.ChangeShapes Go.WideShapes Go.ChangeAt Go.RowKit
set_option linter.unusedVariables false
set_option maxRecDepth 100000
theorem of_any (b:Int) (h0:0<=b) (h1:b<=255) (w:World):
 Calls Tryz.prog 46 #[.int .u8 b] w fun e w'=>e= .returned (.agg #[.int .i64 (b/8 % 3),.int .i64 (b % 8)])/\Below w.heap.size w w':=by
 go_enter Tryz.func46,Tryz.ntmps46
 go_wp2
 exact bodyPost_ret (v:= .agg #[.int .i64 (b/8 % 3),.int .i64 (b % 8)]) (by simp [results,Tryz.results46,go_sem]) rfl ⟨rfl,(Below.refl _ _).alloc (Nat.le_refl _) _⟩
end Go.Proofs.YtmhfpjnkjlhbpaaGreatDoor
namespace Go.Proofs.YtmhfpjnkjlhbpaaGreatDoor
open Go.RowKit
set_option linter.unusedVariables false
set_option maxRecDepth 100000
def Has (K V:Nat->Int) (kind who i j:Nat):Prop:= ∃p,i<=p/\p<j/\K p=kind/\V p=who
def itms (t:Nat):List (Nat×Nat):=(List.range t).flatMap fun who=>[(0,who),(1,who)]
theorem itms_len: ∀t,(itms t).length=2*t
 |0=>rfl
 |t+1=>by
  have :=itms_len t
  unfold itms at this⊢
  rw [List.range_succ,List.flatMap_append,List.length_append,this]
  simp
  omega
theorem mem_itms {t:Nat} {q:Nat×Nat}:q∈itms t↔q.1<2/\q.2<t:=by
 unfold itms
 rw [List.mem_flatMap]
 constructor
 ·rintro ⟨who,hw,hq⟩
  have :=List.mem_range.1 hw
  simp only [List.mem_cons,List.not_mem_nil,or_false]at hq
  rcases hq with rfl|rfl<;>simp<;>omega
 ·obtain ⟨a,b⟩:=q
  rintro ⟨h1,h2⟩
  dsimp only at h1 h2
  refine ⟨b,List.mem_range.2 h2,?_⟩
  rcases (by omega:a=0∨a=1)with rfl|rfl<;>simp
theorem itms_nodup: ∀t,(itms t).Nodup
 |0=>List.nodup_nil
 |t+1=>by
  have ih:=itms_nodup t
  have hm: ∀q,q∈itms t->q.2<t:=fun q h=>(mem_itms.1 h).2
  unfold itms at ih hm⊢
  rw [List.range_succ,List.flatMap_append,List.nodup_append]
  refine ⟨ih,by simp,fun a ha b hb=>?_⟩
  have h1:=hm a ha
  simp at hb
  rintro rfl
  rcases hb with rfl|rfl<;>simp at h1
theorem countP_one {α:Type} [DecidableEq α] (P P':α->Bool) (r:α): ∀(l:List α),l.Nodup->r∈l->P r=true->P' r=false->(∀q∈l,q≠r->P' q=P q)->l.countP P=l.countP P'+1
 |[],_,h,_,_,_=>absurd h (by simp)
 |a::l,hn,hr,h1,h2,h3=>by
  rw [List.nodup_cons]at hn
  by_cases e:a=r
  ·subst e
   have hl:l.countP P'=l.countP P:=List.countP_congr fun q hq=>by
    rw [h3 q (List.mem_cons_of_mem _ hq) (fun e=>hn.1 (e▸hq))]
   rw [List.countP_cons_of_pos h1,List.countP_cons_of_neg (by simp [h2]),hl]
  ·have hr':r∈l:=by
    rcases List.mem_cons.1 hr with h|h
    ·exact absurd h.symm e
    ·exact h
   have ih:=countP_one P P' r l hn.2 hr' h1 h2 (fun q hq hne=>h3 q (List.mem_cons_of_mem _ hq) hne)
   have hc:=h3 a List.mem_cons_self e
   by_cases hp:P a=true
   ·rw [List.countP_cons_of_pos hp,List.countP_cons_of_pos (hc.trans hp),ih]
   ·rw [List.countP_cons_of_neg hp,List.countP_cons_of_neg (by rw [hc];exact hp),ih]
def dueBy (D:Du) (n:Int) (q:Nat×Nat):Bool:=decide (D q.1 q.2<=n)
def Cnt (t:Nat) (D:Du) (len:Nat):Prop:= ∀v:Nat,(itms t).countP (dueBy D ((len:Int)+(v:Int)))<=v
def Lst (t w:Nat) (L:List Pk) (D:Du):Prop:= ∀kind who,kind<2->who<t->D kind who<=(w:Int)∨ ∃p:Nat,L[p]?=some ((kind:Int),(who:Int))/\D kind who=(p:Int)+1+(w:Int)
theorem cnt_none {t:Nat} {D:Du} {n:Int} (h: ∀kind who,kind<2->who<t->n<D kind who):(itms t).countP (dueBy D n)=0:=by
 rw [List.countP_eq_zero]
 intro q hq
 obtain ⟨h1,h2⟩:=mem_itms.1 hq
 have :=h q.1 q.2 h1 h2
 unfold dueBy
 simp
 omega
theorem Cnt.pos {t:Nat} {D:Du} {len:Nat} (h:Cnt t D len) {kind who:Nat} (hk:kind<2) (hw:who<t):(len:Int)<D kind who:=by
 have h0:=h 0
 by_cases e:(len:Int)<D kind who
 ·exact e
 ·have :0<(itms t).countP (dueBy D ((len:Int)+((0:Nat):Int))):=List.countP_pos_iff.2 ⟨(kind,who),mem_itms.2 ⟨hk,hw⟩,by unfold dueBy;simp;omega⟩
  omega
theorem cnt_start {t w:Nat} (hw:4*t<=w):Cnt t (du0 w) 0:=fun v=>by
 by_cases hv:2*t<=v
 ·have :=List.countP_le_length (p:=dueBy (du0 w) (((0:Nat):Int)+(v:Int))) (l:=itms t)
  rw [itms_len]at this
  omega
 ·rw [cnt_none]
  ·omega
  ·intro kind who hk hwho
   unfold du0
   omega
theorem cnt_own {t w:Nat} {D:Du} {len kind who:Nat} (ht:1<=t) (hw:4*t<=w) (h:Cnt t D len) (hf:First t D kind who):Cnt t (updD D ((kind:Int),(who:Int)) ((len:Int)+1+(w:Int))) (len+1):=fun v=>by
 by_cases hv:2*t<=v
 ·have :=List.countP_le_length (p:=dueBy (updD D ((kind:Int),(who:Int)) ((len:Int)+1+(w:Int))) (((len+1:Nat):Int)+(v:Int))) (l:=itms t)
  rw [itms_len]at this
  omega
 ·have hnew:dueBy (updD D ((kind:Int),(who:Int)) ((len:Int)+1+(w:Int))) (((len+1:Nat):Int)+(v:Int)) (kind,who)=false:=by
   unfold dueBy updD
   simp
   omega
  have hsame: ∀q:Nat×Nat,q≠(kind,who)->dueBy (updD D ((kind:Int),(who:Int)) ((len:Int)+1+(w:Int))) (((len+1:Nat):Int)+(v:Int)) q=dueBy D ((len:Int)+((v+1:Nat):Int)) q:=fun q hq=>by
   unfold dueBy updD
   rw [if_neg (fun e=>hq (by
    injection e with e1 e2
    obtain ⟨a,b⟩:=q
    dsimp only at e1 e2
    rw [Int.ofNat_inj.1 e1,Int.ofNat_inj.1 e2]))]
   rw [show ((len+1:Nat):Int)+(v:Int)=(len:Int)+((v+1:Nat):Int) by omega]
  by_cases hr:dueBy D ((len:Int)+((v+1:Nat):Int)) (kind,who)=true
  ·have :=countP_one _ _ (kind,who) (itms t) (itms_nodup t) (mem_itms.2 ⟨hf.1,hf.2.1⟩) hr hnew (fun q _ hq=>hsame q hq)
   have h1:=h (v+1)
   omega
  ·rw [List.countP_eq_zero.2]
   ·omega
   ·intro q hq
    by_cases e:q=(kind,who)
    ·rw [e,hnew];simp
    ·rw [hsame q e]
     obtain ⟨h1,h2⟩:=mem_itms.1 hq
     have :=hf.2.2 q.1 q.2 h1 h2
     unfold dueBy at hr⊢
     simp only [decide_eq_true_eq]at hr⊢
     omega
theorem cnt_wish {t w:Nat} {D:Du} {len kind who:Nat} (ht:1<=t) (hw:4*t<=w) (h:Cnt t D len) (hf:First t D kind who) (hd:(len:Int)+2*(t:Int)<D kind who) (x:Pk):Cnt t (updD D x ((len:Int)+1+(w:Int))) (len+1):=fun v=>by
 by_cases hv:2*t<=v
 ·have :=List.countP_le_length (p:=dueBy (updD D x ((len:Int)+1+(w:Int))) (((len+1:Nat):Int)+(v:Int))) (l:=itms t)
  rw [itms_len]at this
  omega
 ·rw [cnt_none]
  ·omega
  ·intro k2 w2 h1 h2
   have :=hf.2.2 k2 w2 h1 h2
   unfold updD
   split<;>omega
theorem lst_step {t w:Nat} {L:List Pk} {D:Du} (h:Lst t w L D) (x:Pk):Lst t w (L++[x]) (updD D x ((L.length:Int)+1+(w:Int))):=fun kind who hk hwho=>by
 unfold updD
 split
 ·rename_i e
  exact .inr ⟨L.length,by rw [List.getElem?_append_right (Nat.le_refl _)];simp [e],rfl⟩
 ·rcases h kind who hk hwho with h|⟨p,h1,h2⟩
  ·exact .inl h
  ·exact .inr ⟨p,by rw [List.getElem?_append_left (List.getElem?_eq_some_iff.1 h1).1];exact h1,h2⟩
def Windows (t w:Nat) (L:List Pk):Prop:= ∀i,i+w<=L.length-> ∀kind who:Nat,kind<2->who<t-> ∃p,i<=p/\p<i+w/\L[p]?=some ((kind:Int),(who:Int))
theorem windows_step {t w:Nat} {L:List Pk} {D:Du} (hL:Windows t w L) (x:Pk) (hc:Cnt t D (L.length+1)) (hl:Lst t w (L++[x]) D):Windows t w (L++[x]):=by
 intro i hi kind who hk hwho
 rw [List.length_append,List.length_singleton]at hi
 by_cases hlast:i+w<=L.length
 ·obtain ⟨p,h1,h2,h3⟩:=hL i hlast kind who hk hwho
  exact ⟨p,h1,h2,by rw [List.getElem?_append_left (by omega)];exact h3⟩
 ·have hp:=hc.pos hk hwho
  rcases hl kind who hk hwho with h|⟨p,h1,h2⟩
  ·omega
  ·have :=(List.getElem?_eq_some_iff.1 h1).1
   rw [List.length_append,List.length_singleton]at this
   exact ⟨p,by omega,by omega,h1⟩
theorem Play.fair {t w nw:Nat} {Wf:Nat->Pk} {L:List Pk} {D:Du} {k:Nat} (ht1:1<=t) (ht:t<=8) (hw:4*t<=w) (hw2:w<=1099511627776) (h:Play t w nw Wf L D k) (hl:L.length<=100000):Cnt t D L.length/\Lst t w L D/\Windows t w L:=by
 have hv: ∀n:Nat,n<=100000->ndue n w=(n:Int)+1+(w:Int):=fun n hn=>by unfold ndue wrap64;omega
 induction h with
 |nil=>exact ⟨cnt_start hw,fun kind who hk hwho=> .inl (by unfold du0;omega),fun i hi=>by simp at hi;omega⟩
 | @own L D k h kd wh hf hd ih=>
   simp only [List.length_append,List.length_cons,List.length_nil]at hl⊢
   obtain ⟨h1,h2,h3⟩:=ih (by omega)
   have c:=cnt_own ht1 hw h1 hf
   rw [hv _ (by omega)]
   have l:=lst_step h2 ((kd:Int),(wh:Int))
   exact ⟨c,l,windows_step h3 _ c l⟩
 | @wish L D k h kd wh hf hd hn ih=>
   simp only [List.length_append,List.length_cons,List.length_nil]at hl⊢
   obtain ⟨h1,h2,h3⟩:=ih (by omega)
   have hb:=h.bound ht hw hw2 (by omega) kd wh hf.1 hf.2.1
   have c:=cnt_wish ht1 hw h1 hf (by unfold wrap64 at hd;omega) (Wf (k % nw))
   rw [hv _ (by omega)]
   have l:=lst_step h2 (Wf (k % nw))
   exact ⟨c,l,windows_step h3 _ c l⟩
def lv (L:List Pk) (i:Nat):Int:=(L.getD i (0,0)).2
end Go.Proofs.YtmhfpjnkjlhbpaaGreatDoor
namespace Go.Proofs.YtmhfpjnkjlhbpaaGreatDoor
open Go.ChangeShapes Go.WideShapes Go.ChangeAt Go.RowKit Go.Deep
set_option linter.unusedVariables false
set_option maxRecDepth 100000
set_option linter.unusedSimpArgs false
theorem pick_cases {B:MB} {s:Mst} {P:Vw->Prop} (hw:Wf B s) (x:Int×Int)
 (hno:(∀t:Nat,t<B.codes.length->x=(0,(t:Int))->(thM s t).st≠0)->(∀t:Nat,t<B.codes.length->x=(1,(t:Int))->(vw s).bf t=[])->P (vw s))
 (hf: ∀t:Nat,t<B.codes.length->x.2=(t:Int)->(vw s).bf t≠[]->P (flushV t (vw s)))
 (hx: ∀t:Nat,t<B.codes.length->x=(0,(t:Int))->(thM s t).st=0->(∃p r op,At B s t p r op/\((op.drains=true->(vw s).bf t=[])->(op.stores=true->(((vw s).bf t).length:Int)<B.room)->P (execV t (vw s) p r op)))∨
   (((B.codes.getD t cdd).len:Int)<=(thM s t).pc/\P ((vw s).mv t ⟨(thM s t).pc,(thM s t).regs,2⟩ ((vw s).bf t) (vw s).mem [⟨12,(t:Int),(thM s t).pc,0,0,0,0,false⟩])))
 (hr: ∀t:Nat,t<B.codes.length->x=(2,(t:Int))->fnd s.slp (t:Int)<s.slp.length->P {(vw s).mv t ⟨(thM s t).pc,(thM s t).regs,0⟩ ((vw s).bf t) (vw s).mem [⟨11,(t:Int),0,0,0,0,0,false⟩]with slp:=s.slp.eraseIdx (fnd s.slp (t:Int))}):
 P (vw (tPick B s x)):=by
 obtain ⟨kd,wh⟩:=x
 unfold tPick
 split
 ·rename_i hout
  have hnt:=hw.ok.ok.nt
  dsimp only at hout
  refine hno (fun t ht e=>?_) (fun t ht e=>?_)
  all_goals (injection e with e1 e2;exfalso;omega)
 rename_i hin
 dsimp only at hin⊢
 have hnt:=hw.ok.ok.nt
 obtain ⟨t,rfl⟩: ∃t:Nat,wh=(t:Int):=⟨wh.toNat,by omega⟩
 have ht:t<B.codes.length:=by omega
 rw [Int.toNat_natCast]
 split
 ·rename_i hk
  subst hk
  by_cases hst:(thM s t).st=0
  ·rcases hx t ht rfl hst with ⟨p,r,op,hA,hk⟩|⟨hl,hk⟩
   ·rcases step_view hA with ⟨hb,e⟩|⟨h1,h2,e⟩
    ·rw [e];exact hf t ht rfl hb
    ·rw [e];exact hk h1 h2
   ·rw [end_view (p:=(thM s t).pc) (r:=(thM s t).regs) (by rw [<-hst]) hl (hw.th ht) (hw.bf ht)]
    exact hk
  ·rw [tStep_not hst]
   refine hno (fun u hu e=>?_) (fun u hu e=>?_)
   ·injection e with e1 e2
    have :t=u:=by omega
    rw [<-this];exact hst
   ·injection e with e1 e2
    exact absurd e1 (by decide)
 rename_i hk0
 split
 ·rename_i hk
  subst hk
  rw [vw_flush t (by rw [hw.m];exact fun b hb e he=>(hw.ok.ok.buf b hb e he).1)]
  cases hb:(vw s).bf t with
  |nil=>
   have e:flushV t (vw s)=vw s:=by unfold flushV;rw [hb]
   rw [e]
   refine hno (fun u hu e=>?_) (fun u hu e=>?_)
   ·injection e with e1 e2
    exact absurd e1 (by decide)
   ·injection e with e1 e2
    have :t=u:=by omega
    rw [<-this];exact hb
  |cons y l=>exact hf t ht rfl (by rw [hb];exact List.cons_ne_nil _ _)
 rename_i hk1
 have hno':P (vw s):=hno (fun u hu e=>by injection e with e1 e2;exact absurd e1 hk0) (fun u hu e=>by injection e with e1 e2;exact absurd e1 hk1)
 split
 ·rename_i hk
  subst hk
  rcases rouse_view (s:=s) (t:=t) (hw.th ht) (hw.bf ht)with e|⟨h1,e⟩
  ·rw [e];exact hno'
  ·rw [e];exact hr t ht rfl h1
 ·exact hno'
structure Helps (B:MB) (nt:Nat) (ok:Int×Int->Prop) (R:Mst->Nat->Int×Int->Prop):Prop where
 who: ∀{s m h},R s m h->0<m-> ∃kind who:Nat,kind<2/\who<nt/\h=((kind:Int),(who:Int))
 step: ∀{s m h x},R s m h->ok x-> ∃m' h',R (tPick B s x) m' h'/\(m'<m∨(m'=m/\(m=0∨(h'=h/\x≠h))))
section
variable {B:MB} {nt:Nat} {ok:Int×Int->Prop} {R:Mst->Nat->Int×Int->Prop}
theorem Helps.list (H:Helps B nt ok R): ∀(l:List (Int×Int)) {s:Mst} {m:Nat} {h:Int×Int},(∀x∈l,ok x)->R s m h-> ∃m' h',R (tRun B s l) m' h'/\(m'<m∨(m'=m/\(m=0∨(h'=h/\h∉l))))
 |[],s,m,h,_,hR=>⟨m,h,hR,.inr ⟨rfl,.inr ⟨rfl,by simp⟩⟩⟩
 |x::l,s,m,h,hl,hR=>by
  obtain ⟨m1,h1,hR1,c⟩:=H.step hR (hl x (by simp))
  obtain ⟨m2,h2,hR2,d⟩:=H.list l (fun y hy=>hl y (by simp [hy])) hR1
  refine ⟨m2,h2,hR2,?_⟩
  rcases c with c|⟨rfl,c⟩
  ·exact .inl (by omega)
  ·rcases d with d|⟨rfl,d⟩
   ·exact .inl d
   ·refine .inr ⟨rfl,?_⟩
    rcases c with c|⟨rfl,c⟩
    ·exact .inl c
    ·rcases d with d|⟨rfl,d⟩
     ·exact .inl d
     ·exact .inr ⟨rfl,fun q=>by
       rcases List.mem_cons.1 q with q|q
       ·exact c q.symm
       ·exact d q⟩
theorem tRun_append (B:MB) (s:Mst) (l m:List (Int×Int)):tRun B s (l++m)=tRun B (tRun B s l) m:=by unfold tRun;rw [List.foldl_append]
theorem Windows.drop {t w:Nat} {L:List (Int×Int)} (h:Windows t w L) (n:Nat):Windows t w (L.drop n):=fun i hi kind who hk hwho=>by
 rw [List.length_drop]at hi
 by_cases hn:n<=L.length
 ·obtain ⟨p,h1,h2,h3⟩:=h (n+i) (by omega) kind who hk hwho
  exact ⟨p-n,by omega,by omega,by rw [List.getElem?_drop,show n+(p-n)=p by omega];exact h3⟩
 ·have hw0:w=0:=by omega
  have hi0:i=0:=by omega
  obtain ⟨p,h1,h2,h3⟩:=h 0 (by omega) kind who hk hwho
  omega
theorem Helps.windows (H:Helps B nt ok R) {w:Nat}: ∀(k:Nat) (l:List (Int×Int)) {s:Mst} {m:Nat} {h:Int×Int},Windows nt w l->(∀x∈l,ok x)->k*w<=l.length->R s m h-> ∃m' h',R (tRun B s l) m' h'/\m'<=m-k
 |0,l,s,m,h,_,hl,_,hR=>by
  obtain ⟨m',h',hR',c⟩:=H.list l hl hR
  exact ⟨m',h',hR',by omega⟩
 |k+1,l,s,m,h,hW,hl,hk,hR=>by
  rw [Nat.succ_mul]at hk
  obtain ⟨m1,h1,hR1,c⟩:=H.list (l.take w) (fun x hx=>hl x (List.mem_of_mem_take hx)) hR
  have hm1:m1<=m-1:=by
   rcases c with c|⟨rfl,c⟩
   ·omega
   ·rcases c with c|⟨rfl,c⟩
    ·omega
    ·rcases Nat.eq_zero_or_pos m1 with z|z
     ·omega
     ·obtain ⟨kind,who,q1,q2,q3⟩:=H.who hR z
      obtain ⟨p,_,p2,p3⟩:=hW 0 (by omega) kind who q1 q2
      exfalso
      refine c (q3▸?_)
      refine List.mem_of_getElem? (i:=p) ?_
      rw [List.getElem?_take_of_lt (by omega)]
      exact p3
  obtain ⟨m2,h2,hR2,d⟩:=H.windows k (l.drop w) (hW.drop w) (fun x hx=>hl x (List.mem_of_mem_drop hx)) (by rw [List.length_drop];omega) hR1
  refine ⟨m2,h2,?_,by omega⟩
  rw [<-tRun_append,List.take_append_drop]at hR2
  exact hR2
end
theorem Play.all {t w nw:Nat} {Wf:Nat->Pk} {L:List Pk} {D:Du} {k:Nat} (h:Play t w nw Wf L D k) {P:Pk->Prop} (h1: ∀kind who:Nat,kind<2->who<t->P ((kind:Int),(who:Int))) (h2: ∀i,i<nw->P (Wf i)): ∀x∈L,P x:=by
 induction h with
 |nil=>intro x hx;cases hx
 |own h kd wh hf hd ih=>
  intro x hx
  rcases List.mem_append.1 hx with hx|hx
  ·exact ih x hx
  ·rw [List.mem_singleton.1 hx];exact h1 kd wh hf.1 hf.2.1
 |wish h kd wh hf hd hn ih=>
  intro x hx
  rcases List.mem_append.1 hx with hx|hx
  ·exact ih x hx
  ·rw [List.mem_singleton.1 hx];exact h2 _ (Nat.mod_lt _ hn)
def Op.sleeps:Op->Bool
 | .wait _ _| .wake _ _=>true
 |_=>false
theorem exec_other {op:Op} (h:op.sleeps=false) (t:Nat) (v:Vw) (p:Nat) (r:Nat->Int):(execV t v p r op).slp=v.slp/\(∀u,u≠t->(execV t v p r op).th u=v.th u/\(execV t v p r op).bf u=v.bf u)/\((execV t v p r op).th t).st=0:=by
 have mv: ∀(x:Th) (b:List Ent) (m:Nat->Int) (l:List Evt),x.st=0->(v.mv t x b m l).slp=v.slp/\(∀u,u≠t->(v.mv t x b m l).th u=v.th u/\(v.mv t x b m l).bf u=v.bf u)/\((v.mv t x b m l).th t).st=0:=fun x b m l hx=>
  ⟨rfl,fun u hu=>⟨upd_ne _ _ _ hu,upd_ne _ _ _ hu⟩,by show (upd v.th t _ t).st=0;rw [upd_same];exact hx⟩
 cases op with
 |wait a x=>exact Bool.noConfusion h
 |wake a x=>exact Bool.noConfusion h
 |cas a c x=>
  by_cases hz:v.mem x=r a
  ·have e:execV t v p r (.cas a c x)=v.mv t ⟨((p+1:Nat):Int),updR r a (v.mem x),0⟩ (v.bf t) (upd v.mem x (r c)) [⟨4,(t:Int),(p:Int),(x:Int),r c,v.mem x,0,true⟩]:=if_pos hz
   rw [e];exact mv _ _ _ _ rfl
  ·have e:execV t v p r (.cas a c x)=v.mv t ⟨((p+1:Nat):Int),updR r a (v.mem x),0⟩ (v.bf t) v.mem [⟨4,(t:Int),(p:Int),(x:Int),v.mem x,v.mem x,0,false⟩]:=if_neg hz
   rw [e];exact mv _ _ _ _ rfl
 |_=>exact mv _ _ _ _ rfl
theorem exec_bf (op:Op) (t:Nat) (v:Vw) (p:Nat) (r:Nat->Int): ∀u,u≠t->(execV t v p r op).bf u=v.bf u:=fun u hu=>by
 cases op with
 |wait a x=>
  by_cases hz:v.mem x=r a
  ·have e:execV t v p r (.wait a x)={v.mv t ⟨((p+1:Nat):Int),updR r a 0,1⟩ (v.bf t) v.mem [⟨8,(t:Int),(p:Int),(x:Int),v.mem x,0,0,true⟩]with slp:=if slpE v.slp (t:Int)=0 then v.slp++[((t:Int),(x:Int))]else v.slp}:=if_pos hz
   rw [e];exact upd_ne _ _ _ hu
  ·have e:execV t v p r (.wait a x)=v.mv t ⟨((p+1:Nat):Int),updR r a 1,0⟩ (v.bf t) v.mem [⟨8,(t:Int),(p:Int),(x:Int),v.mem x,0,0,false⟩]:=if_neg hz
   rw [e];exact upd_ne _ _ _ hu
 |wake a x=>rfl
 |cas a c x=>exact ((exec_other rfl t v p r).2.1 u hu).2
 |_=>exact upd_ne _ _ _ hu
def fstT (nt:Nat) (f:Nat->Nat):Nat:=((List.range nt).find? fun t=>decide (0<f t)).getD 0
theorem fstT_yes {nt:Nat} {f:Nat->Nat} (h:0<sumT nt f):fstT nt f<nt/\0<f (fstT nt f):=by
 unfold fstT
 cases hq:(List.range nt).find? fun t=>decide (0<f t)with
 |none=>
  have h0:sumT nt f=0:=sumT_none (fun t ht=>by
   have :=List.find?_eq_none.1 hq t (List.mem_range.2 ht)
   simpa using this)
  omega
 |some u=>
  have h1:=List.find?_some hq
  have h2:=List.mem_of_find?_eq_some hq
  exact ⟨List.mem_range.1 h2,by simpa using h1⟩
theorem find_congr {α:Type} {p q:α->Bool}: ∀{l:List α},(∀x∈l,p x=q x)->l.find? p=l.find? q
 |[],_=>rfl
 |x::l,h=>by
  rw [List.find?_cons,List.find?_cons,h x (by simp),find_congr (fun y hy=>h y (by simp [hy]))]
theorem fstT_congr {nt:Nat} {f g:Nat->Nat} (h: ∀t,t<nt->f t=g t):fstT nt f=fstT nt g:=by
 unfold fstT
 congr 1
 refine find_congr (fun t ht=>?_)
 rw [h t (List.mem_range.1 ht)]
theorem sumT_pos {nt t:Nat} {f:Nat->Nat} (ht:t<nt) (h:0<f t):0<sumT nt f:=by
 rcases Nat.eq_zero_or_pos (sumT nt f)with c|c
 ·have :=sumT_zero c t ht;omega
 ·exact c
def fstB (nt:Nat) (p:Nat->Bool):Option Nat:=(List.range nt).find? p
theorem fstB_some {nt u:Nat} {p:Nat->Bool} (h:fstB nt p=some u):u<nt/\p u=true:=⟨List.mem_range.1 (List.mem_of_find?_eq_some h),List.find?_some h⟩
theorem fstB_none {nt:Nat} {p:Nat->Bool} (h:fstB nt p=none) {u:Nat} (hu:u<nt):p u=false:=by
 have :=List.find?_eq_none.1 h u (List.mem_range.2 hu)
 simpa using this
theorem fstB_congr {nt:Nat} {p q:Nat->Bool} (h: ∀t,t<nt->p t=q t):fstB nt p=fstB nt q:=find_congr (fun t ht=>h t (List.mem_range.1 ht))
def nd (th:Th):Nat:=if th.st=2 then 0 else 1
def SameM (v v':Vw) (t:Nat):Prop:=v'.bf t=v.bf t/\v'.mem=v.mem
def PlcL (ln:Nat->Nat) (sn n o:Nat):Prop:=(n<sn/\o<ln n)∨(n=sn/\o=0)
section
variable {ln bs:Nat->Nat} {sn:Nat}
theorem pl_le (hx: ∀n,bs (n+1)=bs n+ln n) {n m:Nat} (h:n<=m):bs n<=bs m:=bs_mono (rd:=m) (ln:=ln) (fun n _=>hx n) h (Nat.le_refl _)
theorem pl_uniq (hx: ∀n,bs (n+1)=bs n+ln n) {n o n' o':Nat} (h:PlcL ln sn n o) (h':PlcL ln sn n' o') (e:bs n+o=bs n'+o'):n=n'/\o=o':=by
 have key: ∀{a b c d:Nat},PlcL ln sn a b->PlcL ln sn c d->bs a+b=bs c+d-> ¬a<c:=fun {a b c d} p q e hlt=>by
  have h1:=pl_le hx (show a+1<=c from hlt)
  rw [hx]at h1
  rcases p with p|p
  ·omega
  ·rcases q with q|q<;>omega
 have h1:=key h h' e
 have h2:=key h' h e.symm
 have :n=n':=by omega
 subst this
 exact ⟨rfl,by omega⟩
end
theorem wk_all (a:Int): ∀(l:List Slp) (s:List Slp×List Int) (n:Nat),(∀x∈l,x.2=a)->s.2.length+l.length<=n->(l.foldl (wstep a n) s).1=s.1/\(l.foldl (wstep a n) s).2=s.2++l.map (·.1)
 |[],s,n,_,_=>⟨rfl,by simp⟩
 |x::l,s,n,h,hn=>by
  rw [List.length_cons]at hn
  have e:wstep a n s x=(s.1,s.2++[x.1]):=if_pos ⟨h x (by simp),by omega⟩
  rw [List.foldl_cons,e]
  obtain ⟨q1,q2⟩:=wk_all a l (s.1,s.2++[x.1]) n (fun y hy=>h y (by simp [hy])) (by rw [List.length_append,List.length_singleton];omega)
  exact ⟨q1,by rw [q2];simp⟩
theorem wk_every {a:Int} {l:List Slp} {n:Nat} (h: ∀x∈l,x.2=a) (hn:l.length<=n):(wk a n l).1=[]/\(wk a n l).2=l.map (·.1):=by
 have :=wk_all a l ([],[]) n h (by simpa using hn)
 exact ⟨this.1,by rw [show (wk a n l).2=_ from this.2];rfl⟩
end Go.Proofs.YtmhfpjnkjlhbpaaGreatDoor
