/- law22: awake. Heaps as functions from places to items: plain facts. Even scripts, as lists: what is picked next; such a script is fair; there is just one. pick.Of. The contracts of pick.Of, pick.Byte and of the anchor 'awake': what each returns, for every argument. The contracts of the reference's Fair and of pick.Fair: each tells whether every window holds each thread's step and flush. An even script is fair. Machines of threads (plain): fair scripts bring to an end what always has somebody to help. Machines of threads (plain): what serves any proof that all come to an end. rw (plain): what is left to do at each place; an instruction lowers it, or its thread waits for the word. rw (plain): by fair scripts that rouse nobody all come to an end. -/
import Derived.Test.YtmhfpjnkjlhbpaaGreatDoorQe38
import Derived.Test.YtmhfpjnkjlhbpaaGreatDoorQe01
import Derived.Deep.QuietTactic
import Derived.BigQuiet
import Derived.Test.YtmhfpjnkjlhbpaaGreatDoorQe24
import Derived.Test.YtmhfpjnkjlhbpaaGreatDoorQe32
import Derived.Test.YtmhfpjnkjlhbpaaGreatDoorQe26
namespace Go.Proofs.YtmhfpjnkjlhbpaaGreatDoor
open Go.ChangeShapes Go.WideShapes Go.ChangeAt Go.RowKit Go.Deep
set_option linter.unusedVariables false
set_option maxRecDepth 100000
set_option linter.unusedSimpArgs false
theorem u32_cellsR {W:World} {b n:Nat} {v:Value} {xs:List Int} (h:W.ownsRow b 42 1 v n (xs.map (Value.int .u32))) (hn:xs.length=n) (h0:0<n): ∃g o cap,v= .slice (some ⟨g,o,none⟩) n cap/\g<W.heap.size/\ ∀i,i<n->W.cell? ⟨g,o+i,none⟩=some (.int .u32 (xs.getD i 0)):=by
 obtain ⟨A,cap,rfl,_,hs⟩:=own_sl h
 obtain ⟨g,o,rfl,hlt,hc⟩:=hs (by omega)
 refine ⟨g,o,cap,rfl,hlt,fun i hi=>(hc i (by omega)).trans ?_⟩
 have hi2:i<xs.length:=by omega
 simp [List.getD_eq_getElem?_getD,List.getElem?_eq_getElem hi2]
set_option maxHeartbeats 1000000 in
theorem awake22_any (W:World) (hT:Tab W) (hO:ONam W):Calls Tryz.prog 23 #[] W fun e W'=>e= .returned (.bool true)/\Below W.heap.size W W':=by
 have hal:=(Below.refl W.heap.size W).alloc (Nat.le_refl _) (.cells #[.int .i64 3,.int .i64 1,.int .i64 2,.int .i64 2] 3)
 have hb:=Blk.new W 3 #[.int .i64 3,.int .i64 1,.int .i64 2,.int .i64 2]
 have cA:=alone_any 1 0 (by decide) (by decide) [3,1,2,2] (by unfold isRw;decide) (by decide) (some ⟨W.heap.size,0,none⟩) 4 _ (hT.step hal) (hO.step hal) (fun _=>⟨W.heap.size,0,rfl,hb.lt,fun i hi j u hu=>by
  rw [Nat.zero_add,hb.cell]
  have hj:j<1:=(List.getElem?_eq_some_iff.1 hu).1
  obtain rfl:j=0:=by omega
  have hi:i<4:=hi
  rcases (by omega:i=0∨i=1∨i=2∨i=3)with rfl|rfl|rfl|rfl<;>exact hu⟩)
 have HB:=Lib.hid hal
 clear hal hb
 go_enter Tryz.func23,Tryz.ntmps23
 go_wp2_with fail
 refine cA.mono ?_
 rintro e W1 ⟨⟨vo,rfl,hr⟩,hB⟩
 obtain ⟨g,o,cap,rfl,_,hc⟩:=u32_cellsR (xs:=rwO [3,1,2,2] 4) (n:=4) hr rfl (by decide)
 have q0:W1.cell? ⟨g,o,none⟩=some (.int .u32 0):=hc 0 (by decide)
 have q1:W1.cell? ⟨g,o+1,none⟩=some (.int .u32 1):=hc 1 (by decide)
 have q2:W1.cell? ⟨g,o+2,none⟩=some (.int .u32 0):=hc 2 (by decide)
 have q3:W1.cell? ⟨g,o+3,none⟩=some (.int .u32 2):=hc 3 (by decide)
 have HF:=Lib.hid (step_below HB.out hB)
 clear cA hc hr hB
 go_wp2
 go_ret
 exact ⟨rfl,HF.out⟩
end Go.Proofs.YtmhfpjnkjlhbpaaGreatDoor
namespace Go.Proofs.YtmhfpjnkjlhbpaaGreatDoor
set_option linter.unusedVariables false
set_option maxRecDepth 100000
structure Itm where
 kind:Int
 who:Int
 due:Int
instance:Inhabited Itm:=⟨⟨0,0,0⟩⟩
def par (k:Nat):Nat:=(k-1)/2
def Heap (n:Nat) (F:Nat->Itm):Prop:= ∀k,0<k->k<n->(F (par k)).due<=(F k).due
structure But (n:Nat) (F:Nat->Itm) (i:Nat):Prop where
 far: ∀k,0<k->k<n->k≠i->par k≠i->(F (par k)).due<=(F k).due
 over: ∀c,c<n->0<i->0<c->par c=i->(F (par i)).due<=(F c).due
structure ButUp (n:Nat) (F:Nat->Itm) (i:Nat):Prop where
 far: ∀k,0<k->k<n->k≠i->(F (par k)).due<=(F k).due
 over: ∀c,c<n->0<i->0<c->par c=i->(F (par i)).due<=(F c).due
theorem But.stop {n:Nat} {F:Nat->Itm} {i:Nat} (h:But n F i) (hb: ∀c,c<n->0<c->par c=i->(F i).due<=(F c).due):ButUp n F i:=
 ⟨fun k h0 hk h1=>by
  by_cases e:par k=i
  ·rw [e];exact hb k hk h0 e
  ·exact h.far k h0 hk h1 e,h.over⟩
theorem But.heap {n:Nat} {F:Nat->Itm} {i:Nat} (h:But n F i) (hb: ∀c,c<n->0<c->par c=i->(F i).due<=(F c).due) (hu:0<i->(F (par i)).due<=(F i).due):Heap n F:=fun k h0 hk=>by
 by_cases e:k=i
 ·subst e;exact hu h0
 ·exact (h.stop hb).far k h0 hk e
theorem Heap.push {n:Nat} {F:Nat->Itm} (h:Heap n F) (x:Itm):ButUp (n+1) (fun k=>if k=n then x else F k) n:=by
 refine ⟨fun k h0 hk h1=>?_,fun c hc hi h0 hp=>?_⟩
 ·rw [if_neg h1,if_neg (by unfold par;omega)]
  exact h k h0 (by omega)
 ·unfold par at hp
  omega
end Go.Proofs.YtmhfpjnkjlhbpaaGreatDoor
namespace Go.Proofs.YtmhfpjnkjlhbpaaGreatDoor
open Go.RowKit
set_option linter.unusedVariables false
set_option maxRecDepth 100000
abbrev Pk:=Int×Int
abbrev Du:=Nat->Nat->Int
def du0 (w:Nat):Du:=fun kind who=>(w:Int)-2*(who:Int)-(kind:Int)
def updD (D:Du) (x:Pk) (v:Int):Du:=fun kind who=>if ((kind:Int),(who:Int))=x then v else D kind who
def ndue (n w:Nat):Int:=wrap64 ((n:Int)+1+(w:Int))
def First (t:Nat) (D:Du) (kind who:Nat):Prop:=kind<2/\who<t/\ ∀k' w',k'<2->w'<t->D kind who<=D k' w'
inductive Play (t w nw:Nat) (Wf:Nat->Pk):List Pk->Du->Nat->Prop where
 |nil:Play t w nw Wf [] (du0 w) 0
 |own {L:List Pk} {D:Du} {k:Nat} (h:Play t w nw Wf L D k) (kind who:Nat) (hf:First t D kind who) (hd:wrap64 (D kind who-(L.length:Int))<=2*(t:Int)∨nw=0):
   Play t w nw Wf (L++[((kind:Int),(who:Int))]) (updD D ((kind:Int),(who:Int)) (ndue L.length w)) k
 |wish {L:List Pk} {D:Du} {k:Nat} (h:Play t w nw Wf L D k) (kind who:Nat) (hf:First t D kind who) (hd: ¬wrap64 (D kind who-(L.length:Int))<=2*(t:Int)) (hn:0<nw):
   Play t w nw Wf (L++[Wf (k % nw)]) (updD D (Wf (k % nw)) (ndue L.length w)) (k+1)
theorem Play.bound {t w nw:Nat} {Wf:Nat->Pk} {L:List Pk} {D:Du} {k:Nat} (ht:t<=8) (hw:4*t<=w) (hw2:w<=1099511627776) (h:Play t w nw Wf L D k) (hl:L.length<=100000):
 ∀kind who,kind<2->who<t-> -100<=D kind who/\D kind who<=(L.length:Int)+(w:Int):=by
 have hv: ∀n:Nat,n<=100000->ndue n w=(n:Int)+1+(w:Int):=fun n hn=>by unfold ndue wrap64;omega
 induction h with
 |nil=>
  intro kind who hk hwho
  unfold du0
  simp
  omega
 |own h kd wh hf hd ih=>
  intro kind who hk hwho
  simp only [List.length_append,List.length_cons,List.length_nil]at hl⊢
  obtain ⟨h1,h2⟩:=ih (by omega) kind who hk hwho
  unfold updD
  split
  ·rw [hv _ (by omega)];omega
  ·omega
 |wish h kd wh hf hd hn ih=>
  intro kind who hk hwho
  simp only [List.length_append,List.length_cons,List.length_nil]at hl⊢
  obtain ⟨h1,h2⟩:=ih (by omega) kind who hk hwho
  unfold updD
  split
  ·rw [hv _ (by omega)];omega
  ·omega
theorem Play.inj {t w nw:Nat} {Wf:Nat->Pk} {L:List Pk} {D:Du} {k:Nat} (ht:t<=8) (hw:4*t<=w) (hw2:w<=1099511627776) (h:Play t w nw Wf L D k) (hl:L.length<=100000):
 ∀k1 w1 k2 w2,k1<2->w1<t->k2<2->w2<t->D k1 w1=D k2 w2->k1=k2/\w1=w2:=by
 have hv: ∀n:Nat,n<=100000->ndue n w=(n:Int)+1+(w:Int):=fun n hn=>by unfold ndue wrap64;omega
 induction h with
 |nil=>
  intro k1 w1 k2 w2 a b c d e
  unfold du0 at e
  omega
 |own h kd wh hf hd ih=>
  intro k1 w1 k2 w2 a b c d e
  simp only [List.length_append,List.length_cons,List.length_nil]at hl
  have hb:=h.bound ht hw hw2 (by omega)
  have b1:=hb k1 w1 a b
  have b2:=hb k2 w2 c d
  unfold updD at e
  rw [hv _ (by omega)]at e
  split at e<;>split at e
  ·rename_i e1 e2
   have :=e1.trans e2.symm
   injection this with q1 q2
   omega
  ·omega
  ·omega
  ·exact ih (by omega) k1 w1 k2 w2 a b c d e
 |wish h kd wh hf hd hn ih=>
  intro k1 w1 k2 w2 a b c d e
  simp only [List.length_append,List.length_cons,List.length_nil]at hl
  have hb:=h.bound ht hw hw2 (by omega)
  have b1:=hb k1 w1 a b
  have b2:=hb k2 w2 c d
  unfold updD at e
  rw [hv _ (by omega)]at e
  split at e<;>split at e
  ·rename_i e1 e2
   have :=e1.trans e2.symm
   injection this with q1 q2
   omega
  ·omega
  ·omega
  ·exact ih (by omega) k1 w1 k2 w2 a b c d e
end Go.Proofs.YtmhfpjnkjlhbpaaGreatDoor
namespace Go.Proofs.YtmhfpjnkjlhbpaaGreatDoor
open Go.ChangeShapes Go.WideShapes Go.ChangeAt Go.RowKit
set_option linter.unusedVariables false
set_option maxRecDepth 100000
theorem of_any (b:Int) (h0:0<=b) (h1:b<=255) (w:World):
 Calls Tryz.prog 46 #[.int .u8 b] w fun e w'=>e= .returned (.agg #[.int .i64 (b/8 % 3),.int .i64 (b % 8)])/\Below w.heap.size w w':=by
 go_enter Tryz.func46,Tryz.ntmps46
 go_wp2
 exact bodyPost_ret (v:= .agg #[.int .i64 (b/8 % 3),.int .i64 (b % 8)]) (by simp [results,Tryz.results46,go_sem]) rfl ⟨rfl,(Below.refl _ _).alloc (Nat.le_refl _) _⟩
end Go.Proofs.YtmhfpjnkjlhbpaaGreatDoor
namespace Go.Proofs.YtmhfpjnkjlhbpaaGreatDoor
open Go.RowKit
set_option linter.unusedVariables false
set_option maxRecDepth 100000
def Has (K V:Nat->Int) (kind who i j:Nat):Prop:= ∃p,i<=p/\p<j/\K p=kind/\V p=who
theorem Has.none_ {K V:Nat->Int} {kind who i:Nat}: ¬Has K V kind who i i:=fun ⟨p,h1,h2,_⟩=>by omega
def itms (t:Nat):List (Nat×Nat):=(List.range t).flatMap fun who=>[(0,who),(1,who)]
theorem itms_len: ∀t,(itms t).length=2*t
 |0=>rfl
 |t+1=>by
  have :=itms_len t
  unfold itms at this⊢
  rw [List.range_succ,List.flatMap_append,List.length_append,this]
  simp
  omega
theorem mem_itms {t:Nat} {q:Nat×Nat}:q∈itms t↔q.1<2/\q.2<t:=by
 unfold itms
 rw [List.mem_flatMap]
 constructor
 ·rintro ⟨who,hw,hq⟩
  have :=List.mem_range.1 hw
  simp only [List.mem_cons,List.not_mem_nil,or_false]at hq
  rcases hq with rfl|rfl<;>simp<;>omega
 ·obtain ⟨a,b⟩:=q
  rintro ⟨h1,h2⟩
  dsimp only at h1 h2
  refine ⟨b,List.mem_range.2 h2,?_⟩
  rcases (by omega:a=0∨a=1)with rfl|rfl<;>simp
theorem itms_nodup: ∀t,(itms t).Nodup
 |0=>List.nodup_nil
 |t+1=>by
  have ih:=itms_nodup t
  have hm: ∀q,q∈itms t->q.2<t:=fun q h=>(mem_itms.1 h).2
  unfold itms at ih hm⊢
  rw [List.range_succ,List.flatMap_append,List.nodup_append]
  refine ⟨ih,by simp,fun a ha b hb=>?_⟩
  have h1:=hm a ha
  simp at hb
  rintro rfl
  rcases hb with rfl|rfl<;>simp at h1
theorem countP_one {α:Type} [DecidableEq α] (P P':α->Bool) (r:α): ∀(l:List α),l.Nodup->r∈l->P r=true->P' r=false->(∀q∈l,q≠r->P' q=P q)->l.countP P=l.countP P'+1
 |[],_,h,_,_,_=>absurd h (by simp)
 |a::l,hn,hr,h1,h2,h3=>by
  rw [List.nodup_cons]at hn
  by_cases e:a=r
  ·subst e
   have hl:l.countP P'=l.countP P:=List.countP_congr fun q hq=>by
    rw [h3 q (List.mem_cons_of_mem _ hq) (fun e=>hn.1 (e▸hq))]
   rw [List.countP_cons_of_pos h1,List.countP_cons_of_neg (by simp [h2]),hl]
  ·have hr':r∈l:=by
    rcases List.mem_cons.1 hr with h|h
    ·exact absurd h.symm e
    ·exact h
   have ih:=countP_one P P' r l hn.2 hr' h1 h2 (fun q hq hne=>h3 q (List.mem_cons_of_mem _ hq) hne)
   have hc:=h3 a List.mem_cons_self e
   by_cases hp:P a=true
   ·rw [List.countP_cons_of_pos hp,List.countP_cons_of_pos (hc.trans hp),ih]
   ·rw [List.countP_cons_of_neg hp,List.countP_cons_of_neg (by rw [hc];exact hp),ih]
def dueBy (D:Du) (n:Int) (q:Nat×Nat):Bool:=decide (D q.1 q.2<=n)
def Cnt (t:Nat) (D:Du) (len:Nat):Prop:= ∀v:Nat,(itms t).countP (dueBy D ((len:Int)+(v:Int)))<=v
def Lst (t w:Nat) (L:List Pk) (D:Du):Prop:= ∀kind who,kind<2->who<t->D kind who<=(w:Int)∨ ∃p:Nat,L[p]?=some ((kind:Int),(who:Int))/\D kind who=(p:Int)+1+(w:Int)
theorem cnt_none {t:Nat} {D:Du} {n:Int} (h: ∀kind who,kind<2->who<t->n<D kind who):(itms t).countP (dueBy D n)=0:=by
 rw [List.countP_eq_zero]
 intro q hq
 obtain ⟨h1,h2⟩:=mem_itms.1 hq
 have :=h q.1 q.2 h1 h2
 unfold dueBy
 simp
 omega
theorem Cnt.pos {t:Nat} {D:Du} {len:Nat} (h:Cnt t D len) {kind who:Nat} (hk:kind<2) (hw:who<t):(len:Int)<D kind who:=by
 have h0:=h 0
 by_cases e:(len:Int)<D kind who
 ·exact e
 ·have :0<(itms t).countP (dueBy D ((len:Int)+((0:Nat):Int))):=List.countP_pos_iff.2 ⟨(kind,who),mem_itms.2 ⟨hk,hw⟩,by unfold dueBy;simp;omega⟩
  omega
theorem cnt_start {t w:Nat} (hw:4*t<=w):Cnt t (du0 w) 0:=fun v=>by
 by_cases hv:2*t<=v
 ·have :=List.countP_le_length (p:=dueBy (du0 w) (((0:Nat):Int)+(v:Int))) (l:=itms t)
  rw [itms_len]at this
  omega
 ·rw [cnt_none]
  ·omega
  ·intro kind who hk hwho
   unfold du0
   omega
theorem cnt_own {t w:Nat} {D:Du} {len kind who:Nat} (ht:1<=t) (hw:4*t<=w) (h:Cnt t D len) (hf:First t D kind who):Cnt t (updD D ((kind:Int),(who:Int)) ((len:Int)+1+(w:Int))) (len+1):=fun v=>by
 by_cases hv:2*t<=v
 ·have :=List.countP_le_length (p:=dueBy (updD D ((kind:Int),(who:Int)) ((len:Int)+1+(w:Int))) (((len+1:Nat):Int)+(v:Int))) (l:=itms t)
  rw [itms_len]at this
  omega
 ·have hnew:dueBy (updD D ((kind:Int),(who:Int)) ((len:Int)+1+(w:Int))) (((len+1:Nat):Int)+(v:Int)) (kind,who)=false:=by
   unfold dueBy updD
   simp
   omega
  have hsame: ∀q:Nat×Nat,q≠(kind,who)->dueBy (updD D ((kind:Int),(who:Int)) ((len:Int)+1+(w:Int))) (((len+1:Nat):Int)+(v:Int)) q=dueBy D ((len:Int)+((v+1:Nat):Int)) q:=fun q hq=>by
   unfold dueBy updD
   rw [if_neg (fun e=>hq (by
    injection e with e1 e2
    obtain ⟨a,b⟩:=q
    dsimp only at e1 e2
    rw [Int.ofNat_inj.1 e1,Int.ofNat_inj.1 e2]))]
   rw [show ((len+1:Nat):Int)+(v:Int)=(len:Int)+((v+1:Nat):Int) by omega]
  by_cases hr:dueBy D ((len:Int)+((v+1:Nat):Int)) (kind,who)=true
  ·have :=countP_one _ _ (kind,who) (itms t) (itms_nodup t) (mem_itms.2 ⟨hf.1,hf.2.1⟩) hr hnew (fun q _ hq=>hsame q hq)
   have h1:=h (v+1)
   omega
  ·rw [List.countP_eq_zero.2]
   ·omega
   ·intro q hq
    by_cases e:q=(kind,who)
    ·rw [e,hnew];simp
    ·rw [hsame q e]
     obtain ⟨h1,h2⟩:=mem_itms.1 hq
     have :=hf.2.2 q.1 q.2 h1 h2
     unfold dueBy at hr⊢
     simp only [decide_eq_true_eq]at hr⊢
     omega
theorem cnt_wish {t w:Nat} {D:Du} {len kind who:Nat} (ht:1<=t) (hw:4*t<=w) (h:Cnt t D len) (hf:First t D kind who) (hd:(len:Int)+2*(t:Int)<D kind who) (x:Pk):Cnt t (updD D x ((len:Int)+1+(w:Int))) (len+1):=fun v=>by
 by_cases hv:2*t<=v
 ·have :=List.countP_le_length (p:=dueBy (updD D x ((len:Int)+1+(w:Int))) (((len+1:Nat):Int)+(v:Int))) (l:=itms t)
  rw [itms_len]at this
  omega
 ·rw [cnt_none]
  ·omega
  ·intro k2 w2 h1 h2
   have :=hf.2.2 k2 w2 h1 h2
   unfold updD
   split<;>omega
theorem lst_step {t w:Nat} {L:List Pk} {D:Du} (h:Lst t w L D) (x:Pk):Lst t w (L++[x]) (updD D x ((L.length:Int)+1+(w:Int))):=fun kind who hk hwho=>by
 unfold updD
 split
 ·rename_i e
  exact .inr ⟨L.length,by rw [List.getElem?_append_right (Nat.le_refl _)];simp [e],rfl⟩
 ·rcases h kind who hk hwho with h|⟨p,h1,h2⟩
  ·exact .inl h
  ·exact .inr ⟨p,by rw [List.getElem?_append_left (List.getElem?_eq_some_iff.1 h1).1];exact h1,h2⟩
def Windows (t w:Nat) (L:List Pk):Prop:= ∀i,i+w<=L.length-> ∀kind who:Nat,kind<2->who<t-> ∃p,i<=p/\p<i+w/\L[p]?=some ((kind:Int),(who:Int))
theorem windows_step {t w:Nat} {L:List Pk} {D:Du} (hL:Windows t w L) (x:Pk) (hc:Cnt t D (L.length+1)) (hl:Lst t w (L++[x]) D):Windows t w (L++[x]):=by
 intro i hi kind who hk hwho
 rw [List.length_append,List.length_singleton]at hi
 by_cases hlast:i+w<=L.length
 ·obtain ⟨p,h1,h2,h3⟩:=hL i hlast kind who hk hwho
  exact ⟨p,h1,h2,by rw [List.getElem?_append_left (by omega)];exact h3⟩
 ·have hp:=hc.pos hk hwho
  rcases hl kind who hk hwho with h|⟨p,h1,h2⟩
  ·omega
  ·have :=(List.getElem?_eq_some_iff.1 h1).1
   rw [List.length_append,List.length_singleton]at this
   exact ⟨p,by omega,by omega,h1⟩
theorem Play.fair {t w nw:Nat} {Wf:Nat->Pk} {L:List Pk} {D:Du} {k:Nat} (ht1:1<=t) (ht:t<=8) (hw:4*t<=w) (hw2:w<=1099511627776) (h:Play t w nw Wf L D k) (hl:L.length<=100000):Cnt t D L.length/\Lst t w L D/\Windows t w L:=by
 have hv: ∀n:Nat,n<=100000->ndue n w=(n:Int)+1+(w:Int):=fun n hn=>by unfold ndue wrap64;omega
 induction h with
 |nil=>exact ⟨cnt_start hw,fun kind who hk hwho=> .inl (by unfold du0;omega),fun i hi=>by simp at hi;omega⟩
 | @own L D k h kd wh hf hd ih=>
   simp only [List.length_append,List.length_cons,List.length_nil]at hl⊢
   obtain ⟨h1,h2,h3⟩:=ih (by omega)
   have c:=cnt_own ht1 hw h1 hf
   rw [hv _ (by omega)]
   have l:=lst_step h2 ((kd:Int),(wh:Int))
   exact ⟨c,l,windows_step h3 _ c l⟩
 | @wish L D k h kd wh hf hd hn ih=>
   simp only [List.length_append,List.length_cons,List.length_nil]at hl⊢
   obtain ⟨h1,h2,h3⟩:=ih (by omega)
   have hb:=h.bound ht hw hw2 (by omega) kd wh hf.1 hf.2.1
   have c:=cnt_wish ht1 hw h1 hf (by unfold wrap64 at hd;omega) (Wf (k % nw))
   rw [hv _ (by omega)]
   have l:=lst_step h2 (Wf (k % nw))
   exact ⟨c,l,windows_step h3 _ c l⟩
def lk (L:List Pk) (i:Nat):Int:=(L.getD i (0,0)).1
def lv (L:List Pk) (i:Nat):Int:=(L.getD i (0,0)).2
theorem Windows.has {t w:Nat} {L:List Pk} (h:Windows t w L) {i:Nat} (hi:i+w<=L.length) {kind who:Nat} (hk:kind<2) (hwho:who<t):Has (lk L) (lv L) kind who i (i+w):=by
 obtain ⟨p,h1,h2,h3⟩:=h i hi kind who hk hwho
 refine ⟨p,h1,h2,?_,?_⟩
 ·unfold lk;rw [List.getD_eq_getElem?_getD,h3];rfl
 ·unfold lv;rw [List.getD_eq_getElem?_getD,h3];rfl
end Go.Proofs.YtmhfpjnkjlhbpaaGreatDoor
namespace Go.Proofs.YtmhfpjnkjlhbpaaGreatDoor
open Go.ChangeShapes Go.WideShapes Go.ChangeAt Go.RowKit Go.Deep
set_option linter.unusedVariables false
set_option maxRecDepth 100000
set_option linter.unusedSimpArgs false
structure Helps (B:MB) (nt:Nat) (ok:Int×Int->Prop) (R:Mst->Nat->Int×Int->Prop):Prop where
 who: ∀{s m h},R s m h->0<m-> ∃kind who:Nat,kind<2/\who<nt/\h=((kind:Int),(who:Int))
 step: ∀{s m h x},R s m h->ok x-> ∃m' h',R (tPick B s x) m' h'/\(m'<m∨(m'=m/\(m=0∨(h'=h/\x≠h))))
section
variable {B:MB} {nt:Nat} {ok:Int×Int->Prop} {R:Mst->Nat->Int×Int->Prop}
theorem Helps.list (H:Helps B nt ok R): ∀(l:List (Int×Int)) {s:Mst} {m:Nat} {h:Int×Int},(∀x∈l,ok x)->R s m h-> ∃m' h',R (tRun B s l) m' h'/\(m'<m∨(m'=m/\(m=0∨(h'=h/\h∉l))))
 |[],s,m,h,_,hR=>⟨m,h,hR,.inr ⟨rfl,.inr ⟨rfl,by simp⟩⟩⟩
 |x::l,s,m,h,hl,hR=>by
  obtain ⟨m1,h1,hR1,c⟩:=H.step hR (hl x (by simp))
  obtain ⟨m2,h2,hR2,d⟩:=H.list l (fun y hy=>hl y (by simp [hy])) hR1
  refine ⟨m2,h2,hR2,?_⟩
  rcases c with c|⟨rfl,c⟩
  ·exact .inl (by omega)
  ·rcases d with d|⟨rfl,d⟩
   ·exact .inl d
   ·refine .inr ⟨rfl,?_⟩
    rcases c with c|⟨rfl,c⟩
    ·exact .inl c
    ·rcases d with d|⟨rfl,d⟩
     ·exact .inl d
     ·exact .inr ⟨rfl,fun q=>by
       rcases List.mem_cons.1 q with q|q
       ·exact c q.symm
       ·exact d q⟩
theorem Windows.drop {t w:Nat} {L:List (Int×Int)} (h:Windows t w L) (n:Nat):Windows t w (L.drop n):=fun i hi kind who hk hwho=>by
 rw [List.length_drop]at hi
 by_cases hn:n<=L.length
 ·obtain ⟨p,h1,h2,h3⟩:=h (n+i) (by omega) kind who hk hwho
  exact ⟨p-n,by omega,by omega,by rw [List.getElem?_drop,show n+(p-n)=p by omega];exact h3⟩
 ·have hw0:w=0:=by omega
  have hi0:i=0:=by omega
  obtain ⟨p,h1,h2,h3⟩:=h 0 (by omega) kind who hk hwho
  omega
end
def fstT (nt:Nat) (f:Nat->Nat):Nat:=((List.range nt).find? fun t=>decide (0<f t)).getD 0
def fstB (nt:Nat) (p:Nat->Bool):Option Nat:=(List.range nt).find? p
theorem fstB_none {nt:Nat} {p:Nat->Bool} (h:fstB nt p=none) {u:Nat} (hu:u<nt):p u=false:=by
 have :=List.find?_eq_none.1 h u (List.mem_range.2 hu)
 simpa using this
def nd (th:Th):Nat:=if th.st=2 then 0 else 1
def PlcL (ln:Nat->Nat) (sn n o:Nat):Prop:=(n<sn/\o<ln n)∨(n=sn/\o=0)
section
variable {ln bs:Nat->Nat} {sn:Nat}
theorem pl_le (hx: ∀n,bs (n+1)=bs n+ln n) {n m:Nat} (h:n<=m):bs n<=bs m:=bs_mono (rd:=m) (ln:=ln) (fun n _=>hx n) h (Nat.le_refl _)
theorem pl_uniq (hx: ∀n,bs (n+1)=bs n+ln n) {n o n' o':Nat} (h:PlcL ln sn n o) (h':PlcL ln sn n' o') (e:bs n+o=bs n'+o'):n=n'/\o=o':=by
 have key: ∀{a b c d:Nat},PlcL ln sn a b->PlcL ln sn c d->bs a+b=bs c+d-> ¬a<c:=fun {a b c d} p q e hlt=>by
  have h1:=pl_le hx (show a+1<=c from hlt)
  rw [hx]at h1
  rcases p with p|p
  ·omega
  ·rcases q with q|q<;>omega
 have h1:=key h h' e
 have h2:=key h' h e.symm
 have :n=n':=by omega
 subst this
 exact ⟨rfl,by omega⟩
end
def rwLn (k:Bool):Nat:=if k=true then 41 else 48
def rx (k:Bool) (o:Nat) (r:Nat->Int):Prop:=if k=true then (o=9->r 4≠0)/\(o=38->r 4=4294967295)else (o=8->r 6≠0->r 4=4294967295)/\(o=19->r 4=4294967295)/\(o=42->r 5=1)/\(o=45->r 4=4294967295)
def aw (k:Bool) (o:Nat) (r:Nat->Int):Bool:=match k with
 |true=>o==31||o==37||o==38
 |false=>(o==41&&decide (r 4=1))||(o==42&&decide (r 4=1))||(o==43&&decide (r 6≠0))||o==44||o==45
def spn (k:Bool) (o:Nat) (r:Nat->Int):Bool:=match k with
 |true=>o==5||o==6||o==7||o==9||o==10||(o==8&&decide (r 4≠0))
 |false=>(decide (5<=o)&&decide (o<=12))||o==19||o==20||(o==13&&decide (r 4≠r 6))||(o==14&&decide (r 6=0))
def hld (k:Bool) (o:Nat) (r:Nat->Int):Bool:=match k with
 |true=>(o==8&&decide (r 4=0))||(decide (11<=o)&&decide (o<=30))
 |false=>(o==13&&decide (r 4=r 6))||(o==14&&decide (r 6≠0))||(decide (15<=o)&&decide (o<=18))||(decide (21<=o)&&decide (o<=40))
def dst (k:Bool) (o:Nat) (r:Nat->Int):Nat:=match k,o with
 |true,5=>3|true,6=>2|true,7=>1|true,8=>6|true,9=>5|true,10=>4
 |false,5=>8|false,6=>if r 4=0 then 7 else 17|false,7=>if r 4=0 then 6 else 16|false,8=>if r 4=0 then 5 else 15|false,9=>if r 4=0 then 4 else 14
 |false,10=>if r 4=0 then 3 else 13|false,11=>if r 4=0 then 2 else 12|false,12=>if r 4=0 then 1 else 11|false,13=>10|false,14=>9|false,19=>10|false,20=>9
 |_,_=>0
def rk (k:Bool) (o:Nat):Nat:=match k,o with
 |true,1=>1|true,2=>2|true,5=>3|true,6=>3|true,7=>3|true,8=>4|true,9=>3|true,10=>3|true,11=>5|true,12=>6|true,13=>8|true,14=>9|true,15=>10|true,16=>11|true,17=>12|true,18=>13|true,19=>15|true,20=>16|true,21=>17|true,24=>18|true,25=>19|true,26=>20|true,27=>21|true,28=>23|true,29=>24|true,30=>25|true,31=>26|true,37=>27|true,38=>28|true,39=>29|true,40=>30|false,1=>1|false,2=>2|false,5=>3|false,6=>3|false,7=>3|false,8=>3|false,9=>3|false,10=>3|false,11=>3|false,12=>3|false,13=>4|false,14=>5|false,15=>6|false,16=>7|false,17=>9|false,18=>10|false,19=>3|false,20=>3|false,21=>11|false,22=>12|false,23=>13|false,24=>14|false,25=>15|false,26=>16|false,27=>17|false,28=>18|false,31=>19|false,32=>20|false,33=>21|false,34=>22|false,35=>24|false,39=>25|false,40=>26|false,41=>27|false,42=>28|false,43=>29|false,44=>30|false,45=>31|false,46=>32|false,47=>33
 |_,_=>0
def rkLn (k:Bool):Nat:=if k=true then 31 else 34
def rb (kd:Nat->Bool):Nat->Nat
 |0=>0
 |n+1=>rb kd n+rkLn (kd n)
def pv (k:Bool) (o:Nat) (r:Nat->Int):Nat:=if spn k o r=true then 3 else rk k o
section
variable {nt:Nat} {kd:Nat->Nat->Bool} {rd:Nat->Nat} {bs:Nat->Nat->Nat} {v:Vw} {g:RG} {t:Nat}
end
theorem wA_hld {L:RL} {c t:Nat} {r:Nat->Int} {b:List Ent} {o:Nat} (h:wA L c t r b o):hld true o r=L.wt/\L.rs=false:=by
 unfold wA at h
 split at h
 all_goals first
  |exact h.elim
  |exact ⟨by rw [h.wt];rfl,h.rs⟩
  |exact ⟨by rw [h.1.wt];rfl,h.1.rs⟩
  |(rcases h with q|q
    ·exact ⟨by rw [q.1.wt];simp [hld,q.2],q.1.rs⟩
    ·exact ⟨by rw [q.1.wt];simp [hld,q.2.2.2],q.1.rs⟩)
theorem rA_hld {L:RL} {c t:Nat} {r:Nat->Int} {b:List Ent} {o:Nat} (h:rA L c t r b o):hld false o r=L.rs/\L.wt=false:=by
 unfold rA at h
 split at h
 all_goals first
  |exact h.elim
  |exact ⟨by rw [h.rs];rfl,h.wt⟩
  |exact ⟨by rw [h.1.rs];rfl,h.1.wt⟩
  |(rcases h with q|q
    ·exact ⟨by rw [q.1.rs];simp [hld,q.2],q.1.wt⟩
    ·exact ⟨by rw [q.1.rs];simp [hld,q.2.2],q.1.wt⟩)
section
variable (nt:Nat) (kd:Nat->Nat->Bool) (rd:Nat->Nat) (bs:Nat->Nat->Nat) (v:Vw) (pn po:Nat->Nat)
def awT (t:Nat):Bool:=decide (pn t<rd t)&&aw (kd t (pn t)) (po t) (v.th t).regs
def hldT (t:Nat):Bool:=decide (pn t<rd t)&&hld (kd t (pn t)) (po t) (v.th t).regs
def wkB (t:Nat):Nat:=(rb (kd t) (rd t)-(rb (kd t) (pn t)+pv (kd t (pn t)) (po t) (v.th t).regs))+(v.bf t).length+nd (v.th t)
def fsB:Nat:=fstT nt (wkB kd rd v pn po)
def dB:Nat:=match fstB nt (awT kd rd v pn po)with
 |some _=>0
 |none=>if v.mem 16=0 then dst (kd (fsB nt kd rd v pn po) (pn (fsB nt kd rd v pn po))) (po (fsB nt kd rd v pn po)) (v.th (fsB nt kd rd v pn po)).regs else 0
def muB:Nat:=if 0<sumT nt (wkB kd rd v pn po)then 18*sumT nt (wkB kd rd v pn po)+dB nt kd rd v pn po else 0
def hlpB:Int×Int:=match fstB nt (awT kd rd v pn po)with
 |some u=>(0,(u:Int))
 |none=>if v.mem 16=0 then (0,((fsB nt kd rd v pn po:Nat):Int))else match fstB nt (hldT kd rd v pn po)with
  |some u=>if v.bf u=[]then (0,(u:Int))else (1,(u:Int))
  |none=>(0,0)
structure RwV:Prop where
 slp: ∀x∈v.slp,x.2=16/\ ∃u,u<nt/\x.1=((u:Nat):Int)/\(v.th u).st=1
 st: ∀t,t<nt->(v.th t).st=1->((t:Int),(16:Int))∈v.slp/\pn t<rd t/\(kd t (pn t)=true->po t=10)/\(kd t (pn t)=false->po t=20)
 pos: ∀t,t<nt->(v.th t).pc=((bs t (pn t)+po t:Nat):Int)/\PlcL (fun n=>rwLn (kd t n)) (rd t) (pn t) (po t)
 rx: ∀t,t<nt->pn t<rd t->rx (kd t (pn t)) (po t) (v.th t).regs
 J:v.slp≠[]->v.mem 16≠0∨ ∃u,u<nt/\awT kd rd v pn po u=true
end
section
variable {nt:Nat} {kd:Nat->Nat->Bool} {rd:Nat->Nat} {bs:Nat->Nat->Nat} {v:Vw} {g:RG} {t:Nat} {pn po:Nat->Nat}
theorem RwV.loc (V:RwV nt kd rd bs v pn po) (H:RwI nt kd rd bs v g) (ht:t<nt):(pn t<rd t/\((v.th t).st=0∨(v.th t).st=1)/\((kd t (pn t)=true/\po t<41/\wA (g.at_ v t) (wrs (kd t) (pn t)) t (v.th t).regs (v.bf t) (po t))∨(kd t (pn t)=false/\po t<48/\rA (g.at_ v t) (wrs (kd t) (pn t)) t (v.th t).regs (v.bf t) (po t))))∨
 (pn t=rd t/\po t=0/\((v.th t).st=0∨(v.th t).st=2)/\RFree (g.at_ v t) (wrs (kd t) (pn t)) (v.bf t)):=by
 obtain ⟨h1,h2⟩:=V.pos t ht
 obtain ⟨n,o,hp,h⟩:=H.loc t ht
 have hP:PlcL (fun n=>rwLn (kd t n)) (rd t) n o:=h.imp (fun q=>⟨q.1,by
  rcases q.2.2 with z|z
  ·dsimp only;rw [z.1];exact z.2.1
  ·dsimp only;rw [z.1];exact z.2.1⟩) (fun q=>⟨q.1,q.2.1⟩)
 obtain ⟨e1,e2⟩:=pl_uniq (ln:=fun n=>rwLn (kd t n)) (H.nx t) hP h2 (by rw [hp]at h1;exact Int.ofNat_inj.1 h1)
 subst e1 e2
 exact h
theorem RwV.hold (V:RwV nt kd rd bs v pn po) (H:RwI nt kd rd bs v g) (ht:t<nt):hldT kd rd v pn po t=true↔(g.w=some t∨g.rs t=true):=by
 unfold hldT
 rcases V.loc H ht with ⟨q1,q2,q3⟩|⟨q1,q2,q3,q4⟩
 ·rw [decide_eq_true q1,Bool.true_and]
  rcases q3 with ⟨k1,k2,k3⟩|⟨k1,k2,k3⟩
  ·obtain ⟨h1,h2⟩:=wA_hld k3
   have h2':g.rs t=false:=h2
   have h1':hld true (po t) (v.th t).regs=decide (g.w=some t):=h1
   rw [k1,h1',h2']
   simp
  ·obtain ⟨h1,h2⟩:=rA_hld k3
   have h2':decide (g.w=some t)=false:=h2
   have h1':hld false (po t) (v.th t).regs=g.rs t:=h1
   rw [k1,h1']
   have : ¬g.w=some t:=of_decide_eq_false h2'
   simp [this]
 ·rw [decide_eq_false (by omega),Bool.false_and]
  have h1: ¬g.w=some t:=of_decide_eq_false q4.wt
  have h2:g.rs t=false:=q4.rs
  simp [h1,h2]
theorem RwV.some_ (V:RwV nt kd rd bs v pn po) (H:RwI nt kd rd bs v g) (h:v.mem 16≠0): ∃u,fstB nt (hldT kd rd v pn po)=some u:=by
 cases hf:fstB nt (hldT kd rd v pn po)with
 |some u=>exact ⟨u,rfl⟩
 |none=>
  exfalso
  have hn: ∀u,u<nt-> ¬(g.w=some u∨g.rs u=true):=fun u hu q=>by
   have :=(V.hold H hu).2 q
   rw [fstB_none hf hu]at this
   cases this
  cases hw:g.w with
  |some u=>exact hn u (H.sh1 u hw).2.1 (.inl hw)
  |none=>
   refine h ((H.sh0 hw).1.trans ?_)
   rw [sumT_none (fun u hu=>by
    cases hr:g.rs u with
    |false=>rfl
    |true=>exact absurd (.inr hr) (hn u hu))]
   rfl
theorem awT_yes (h:awT kd rd v pn po t=true):pn t<rd t/\aw (kd t (pn t)) (po t) (v.th t).regs=true:=by
 unfold awT at h
 rw [Bool.and_eq_true,decide_eq_true_eq]at h
 exact h
theorem hldT_yes (h:hldT kd rd v pn po t=true):pn t<rd t/\hld (kd t (pn t)) (po t) (v.th t).regs=true:=by
 unfold hldT at h
 rw [Bool.and_eq_true,decide_eq_true_eq]at h
 exact h
theorem RwV.runs (V:RwV nt kd rd bs v pn po) (H:RwI nt kd rd bs v g) (ht:t<nt) (h:awT kd rd v pn po t=true∨hldT kd rd v pn po t=true):(v.th t).st=0:=by
 have hlt:pn t<rd t:=h.elim (fun q=>(awT_yes q).1) (fun q=>(hldT_yes q).1)
 rcases V.loc H ht with ⟨q1,q2,q3⟩|⟨q1,q2,q3,q4⟩
 ·rcases q2 with q2|q2
  ·exact q2
  ·exfalso
   obtain ⟨_,_,k1,k2⟩:=V.st t ht q2
   cases hk:kd t (pn t)with
   |true=>
    have e:=k1 hk
    rcases h with h|h
    ·have :=(awT_yes h).2;rw [hk,e]at this;cases this
    ·have :=(hldT_yes h).2;rw [hk,e]at this;simp [hld]at this
   |false=>
    have e:=k2 hk
    rcases h with h|h
    ·have :=(awT_yes h).2;rw [hk,e]at this;simp [aw]at this
    ·have :=(hldT_yes h).2;rw [hk,e]at this;simp [hld]at this
 ·omega
section
variable {v':Vw} {n' o' u:Nat}
end
def RwR (nt:Nat) (kd:Nat->Nat->Bool) (rd:Nat->Nat) (bs:Nat->Nat->Nat) (B:MB) (s:Mst) (m:Nat) (h:Int×Int):Prop:=Wf B s/\ ∃g pn po,RwI nt kd rd bs (vw s) g/\RwV nt kd rd bs (vw s) pn po/\muB nt kd rd (vw s) pn po=m/\hlpB nt kd rd (vw s) pn po=h
end
end Go.Proofs.YtmhfpjnkjlhbpaaGreatDoor
