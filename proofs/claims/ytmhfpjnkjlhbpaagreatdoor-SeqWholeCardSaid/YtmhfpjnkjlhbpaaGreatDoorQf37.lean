/- seq (plain): what is read is whole: the words of one writing, none older than the last one that had ended when the reading began. Machines of threads (plain): what serves the laws. pick.Of. The contract of pick.Read: the picks of bytes, in new memory. -/
import Derived.Test.YtmhfpjnkjlhbpaaGreatDoorQf32
import Derived.Test.YtmhfpjnkjlhbpaaGreatDoorQf36
import Derived.Test.YtmhfpjnkjlhbpaaGreatDoorQf24
import Derived.Test.YtmhfpjnkjlhbpaaGreatDoorQf31
import Derived.Test.YtmhfpjnkjlhbpaaGreatDoorQf01
namespace Go.Proofs.YtmhfpjnkjlhbpaaGreatDoor
open Go.ChangeShapes Go.WideShapes Go.ChangeAt Go.RowKit Go.Deep
set_option linter.unusedVariables false
set_option maxRecDepth 100000
set_option linter.unusedSimpArgs false
def sqS (isW:Bool) (s:Nat):Bool:=isW||s==2
theorem sq_chk11t (t:Nat):chkM (sqS true) (codeOf (sqPc 1 t true) (sqSn 1 1 true))=true:=by kernel_rfl
theorem sq_chk11f (t:Nat):chkM (sqS false) (codeOf (sqPc 1 t false) (sqSn 1 1 false))=true:=by kernel_rfl
theorem sq_chk12t (t:Nat):chkM (sqS true) (codeOf (sqPc 1 t true) (sqSn 1 2 true))=true:=by kernel_rfl
theorem sq_chk12f (t:Nat):chkM (sqS false) (codeOf (sqPc 1 t false) (sqSn 1 2 false))=true:=by kernel_rfl
theorem sq_chk13t (t:Nat):chkM (sqS true) (codeOf (sqPc 1 t true) (sqSn 1 3 true))=true:=by kernel_rfl
theorem sq_chk13f (t:Nat):chkM (sqS false) (codeOf (sqPc 1 t false) (sqSn 1 3 false))=true:=by kernel_rfl
theorem sq_chk21t (t:Nat):chkM (sqS true) (codeOf (sqPc 2 t true) (sqSn 2 1 true))=true:=by kernel_rfl
theorem sq_chk21f (t:Nat):chkM (sqS false) (codeOf (sqPc 2 t false) (sqSn 2 1 false))=true:=by kernel_rfl
theorem sq_chk22t (t:Nat):chkM (sqS true) (codeOf (sqPc 2 t true) (sqSn 2 2 true))=true:=by kernel_rfl
theorem sq_chk22f (t:Nat):chkM (sqS false) (codeOf (sqPc 2 t false) (sqSn 2 2 false))=true:=by kernel_rfl
theorem sq_chk23t (t:Nat):chkM (sqS true) (codeOf (sqPc 2 t true) (sqSn 2 3 true))=true:=by kernel_rfl
theorem sq_chk23f (t:Nat):chkM (sqS false) (codeOf (sqPc 2 t false) (sqSn 2 3 false))=true:=by kernel_rfl
theorem sq_chk31t (t:Nat):chkM (sqS true) (codeOf (sqPc 3 t true) (sqSn 3 1 true))=true:=by kernel_rfl
theorem sq_chk31f (t:Nat):chkM (sqS false) (codeOf (sqPc 3 t false) (sqSn 3 1 false))=true:=by kernel_rfl
theorem sq_chk32t (t:Nat):chkM (sqS true) (codeOf (sqPc 3 t true) (sqSn 3 2 true))=true:=by kernel_rfl
theorem sq_chk32f (t:Nat):chkM (sqS false) (codeOf (sqPc 3 t false) (sqSn 3 2 false))=true:=by kernel_rfl
theorem sq_chk33t (t:Nat):chkM (sqS true) (codeOf (sqPc 3 t true) (sqSn 3 3 true))=true:=by kernel_rfl
theorem sq_chk33f (t:Nat):chkM (sqS false) (codeOf (sqPc 3 t false) (sqSn 3 3 false))=true:=by kernel_rfl
theorem sq_chk {N rd:Nat} (t:Nat) (isW:Bool) (h1:1<=N) (h3:N<=3) (hr:1<=rd) (hr3:rd<=3):chkM (sqS isW) (codeOf (sqPc N t isW) (sqSn N rd isW))=true:=by
 obtain rfl|rfl|rfl:N=1∨N=2∨N=3:=by omega
 ·obtain rfl|rfl|rfl:rd=1∨rd=2∨rd=3:=by omega
  ·cases isW;exact sq_chk11f t;exact sq_chk11t t
  ·cases isW;exact sq_chk12f t;exact sq_chk12t t
  ·cases isW;exact sq_chk13f t;exact sq_chk13t t
 ·obtain rfl|rfl|rfl:rd=1∨rd=2∨rd=3:=by omega
  ·cases isW;exact sq_chk21f t;exact sq_chk21t t
  ·cases isW;exact sq_chk22f t;exact sq_chk22t t
  ·cases isW;exact sq_chk23f t;exact sq_chk23t t
 ·obtain rfl|rfl|rfl:rd=1∨rd=2∨rd=3:=by omega
  ·cases isW;exact sq_chk31f t;exact sq_chk31t t
  ·cases isW;exact sq_chk32f t;exact sq_chk32t t
  ·cases isW;exact sq_chk33f t;exact sq_chk33t t
theorem SqI.reads {C:SqC} {v:Vw} {g:SG} {t:Nat} (H:SqI C v g) (ht:t<C.nt) (hw:C.isW t=false) (hn: ∀n,n<C.sn t->C.kd t n≠ .wh/\(∀i,C.kd t n≠ .wp i)/\C.kd t n≠ .wt):
 ∃(m i:Nat) (z:Int),i<C.N/\SRd C.N (g.at_ v t) (v.bf t) m (List.replicate i z):=by
 have n1:=H.ok.N1
 obtain ⟨n,o,hp,h|h⟩:=H.loc t ht
 ·obtain ⟨h1,h2,h3,hA⟩:=h
  have hk:=hn n h1
  cases hkd:C.kd t n with
  |wh=>exact absurd hkd hk.1
  |wp i=>exact absurd hkd (hk.2.1 i)
  |wt=>exact absurd hkd hk.2.2
  |rh=>
   rw [hkd]at hA h3
   have h3:o<5:=h3
   obtain rfl|rfl|rfl|rfl|rfl:o=0∨o=1∨o=2∨o=3∨o=4:=by omega
   all_goals exact ⟨_,0,0,n1,hA.1⟩
  |rl i=>
   rw [hkd]at hA h3
   have h3:o<1:=h3
   obtain rfl:o=0:=by omega
   exact ⟨_,0,0,n1,hA.1⟩
  |rt=>
   rw [hkd]at hA h3
   have h3:o<5:=h3
   obtain rfl|rfl|rfl|rfl|rfl:o=0∨o=1∨o=2∨o=3∨o=4:=by omega
   all_goals exact ⟨_,0,0,n1,hA.1⟩
  |ro i=>
   have hi:=((H.ok.k t ht).ro n i h1 hkd).1
   rw [hkd]at hA h3
   have h3:o<1:=h3
   obtain rfl:o=0:=by omega
   obtain ⟨z,q1,q2⟩:=hA
   exact ⟨_,i,z,hi,q1⟩
 ·have q:=h.2.2.2
  rw [hw,if_neg (by decide)]at q
  exact ⟨_,0,0,n1,q.1⟩
theorem sgR_not (N n:Nat):sgR N n≠ .wh/\(∀i,sgR N n≠ .wp i)/\sgR N n≠ .wt:=by
 unfold sgR
 refine ⟨?_,fun i=>?_,?_⟩
 all_goals (split;(intro e;cases e);split;(intro e;cases e);split<;>(intro e;cases e))
theorem outQ_len (N:Nat) (vs:List Nat):(outQ N vs).length=vs.length*N:=by
 induction vs with
 |nil=>simp [outQ]
 |cons a vs ih=>
  have e:outQ N (a::vs)=List.replicate N (a:Int)++outQ N vs:=rfl
  rw [e,List.length_append,List.length_replicate,ih,List.length_cons,Nat.succ_mul];omega
theorem outQ_at (N:Nat) (i:Nat) (hi:i<N): ∀(vs:List Nat) (n:Nat),n<vs.length->(outQ N vs)[n*N+i]?=some ((vs.getD n 0:Nat):Int)
 |[],n,h=>absurd h (by simp)
 |a::vs,n,h=>by
  have e:outQ N (a::vs)=List.replicate N (a:Int)++outQ N vs:=rfl
  rw [e]
  cases n with
  |zero=>
   rw [Nat.zero_mul,Nat.zero_add,List.getElem?_append_left (by rw [List.length_replicate];exact hi),List.getElem?_replicate,if_pos hi];rfl
  |succ n=>
   rw [List.getElem?_append_right (by rw [List.length_replicate,Nat.succ_mul];omega),List.length_replicate,show (n+1)*N+i-N=n*N+i by rw [Nat.succ_mul];omega,outQ_at N i hi vs n (by simpa using h)]
   rfl
def f3 (l:List Evt) (e:Nat):Bool:=(l.getD e ev0).kind==7&&(l.getD e ev0).k==3
def f4 (t:Nat) (l:List Evt) (e:Nat):Bool:=(l.getD e ev0).kind==7&&((l.getD e ev0).k==4&&(l.getD e ev0).who==(t:Int))
theorem begF_take (t:Nat) (l:List Evt): ∀n,n<=l.length->(begF t (l.take n)).1=cF (f3 l) n/\(begF t (l.take n)).2.length=cF (f4 t l) n/\ ∀a,a<n->f4 t l a=true->(begF t (l.take n)).2.getD (cF (f4 t l) a) 0=cF (f3 l) a:=by
 intro n
 induction n with
 |zero=>intro _;rw [List.take_zero];exact ⟨rfl,rfl,fun a ha=>absurd ha (by omega)⟩
 |succ n ih=>
  intro hn
  obtain ⟨i1,i2,i3⟩:=ih (by omega)
  rw [take_getD (by omega),begF_snoc,cF_succ,cF_succ]
  unfold begQ
  by_cases c3:(l.getD n ev0).kind=7/\(l.getD n ev0).k=3
  ·have b3:f3 l n=true:=by unfold f3;rw [c3.1,c3.2];rfl
   have b4: ¬f4 t l n=true:=by unfold f4;rw [c3.1,c3.2];simp
   rw [if_pos c3,if_pos b3,if_neg b4]
   refine ⟨by dsimp only;rw [i1],by dsimp only;rw [i2];rfl,fun a ha q=>?_⟩
   have :a≠n:=fun e=>b4 (e▸q)
   exact i3 a (by omega) q
  ·have b3: ¬f3 l n=true:=fun q=>c3 (by unfold f3 at q;rw [Bool.and_eq_true,beq_iff_eq,beq_iff_eq]at q;exact q)
   rw [if_neg c3,if_neg b3]
   by_cases c4:(l.getD n ev0).kind=7/\(l.getD n ev0).k=4/\(l.getD n ev0).who=(t:Int)
   ·have b4:f4 t l n=true:=by unfold f4;rw [c4.1,c4.2.1,c4.2.2];simp
    rw [if_pos c4,if_pos b4]
    refine ⟨by dsimp only;rw [i1];rfl,by dsimp only;rw [List.length_append,i2];rfl,fun a ha q=>?_⟩
    dsimp only
    rw [List.getD_eq_getElem?_getD]
    by_cases c:a=n
    ·subst c
     rw [List.getElem?_append_right (by omega),i2,Nat.sub_self,<-i1];rfl
    ·have h1:cF (f4 t l) (a+1)<=cF (f4 t l) n:=cF_mono _ (by omega)
     rw [cF_succ,if_pos q]at h1
     rw [List.getElem?_append_left (by omega),<-List.getD_eq_getElem?_getD]
     exact i3 a (by omega) q
   ·have b4: ¬f4 t l n=true:=fun q=>c4 (by unfold f4 at q;rw [Bool.and_eq_true,Bool.and_eq_true,beq_iff_eq,beq_iff_eq,beq_iff_eq]at q;exact q)
    rw [if_neg c4,if_neg b4]
    refine ⟨by rw [i1];rfl,by rw [i2];rfl,fun a ha q=>?_⟩
    have :a≠n:=fun e=>b4 (e▸q)
    exact i3 a (by omega) q
def endN (C:List Cl) (b:Int):Nat:=(C.filter fun c=>c.site==1&&(decide (0<=c.ended)&&decide (c.ended<b))).length
def rdN (t:Int) (C:List Cl):Nat:=(C.filter fun c=>c.who==t&&decide (0<=c.ended)).length
theorem filter_le_one {α:Type} {P:α->Bool} {R:α->α->Prop} {L:List α} (h:L.Pairwise R) (hR: ∀x∈L,∀y∈L,P x=true->P y=true->R x y->False):(L.filter P).length<=1:=by
 induction L with
 |nil=>exact Nat.zero_le _
 |cons a L ih=>
  have h2:=List.pairwise_cons.1 h
  have i:=ih h2.2 (fun x hx y hy=>hR x (by simp [hx]) y (by simp [hy]))
  by_cases c:P a=true
  ·rw [List.filter_cons_of_pos c]
   have e:L.filter P=[]:=List.filter_eq_nil_iff.2 (fun y hy q=>hR a (by simp) y (by simp [hy]) c q (h2.1 y hy))
   rw [e];exact Nat.le_refl _
  ·rw [List.filter_cons_of_neg c];exact i
theorem filter_split {α:Type} {P Q S:α->Bool} (L:List α) (h: ∀x,(if P x=true then 1 else 0)=(if Q x=true then 1 else 0)+(if S x=true then 1 else 0)):(L.filter P).length=(L.filter Q).length+(L.filter S).length:=by
 have e: ∀(P:α->Bool) (a:α) (L:List α),((a::L).filter P).length=(L.filter P).length+(if P a=true then 1 else 0):=fun P a L=>by
  by_cases c:P a=true
  ·rw [List.filter_cons_of_pos c,if_pos c];rfl
  ·rw [List.filter_cons_of_neg c,if_neg c];rfl
 induction L with
 |nil=>rfl
 |cons a L ih=>rw [e,e,e,ih,h a];omega
theorem endN_le {l:List Evt} (hk:EvK l): ∀b:Nat,b<=l.length->endN (allC (evF l) l.length) (b:Int)<=cF (f3 l) b:=by
 intro b
 induction b with
 |zero=>
  intro _
  have e:(allC (evF l) l.length).filter (fun c=>c.site==1&&(decide (0<=c.ended)&&decide (c.ended<((0:Nat):Int))))=[]:=List.filter_eq_nil_iff.2 (fun c _ q=>by
   simp only [Bool.and_eq_true,decide_eq_true_eq]at q
   omega)
  unfold endN
  rw [e];exact Nat.zero_le _
 |succ b ih=>
  intro hb
  have hs:=filter_split (P:=fun c:Cl=>c.site==1&&(decide (0<=c.ended)&&decide (c.ended<((b+1:Nat):Int)))) (Q:=fun c:Cl=>c.site==1&&(decide (0<=c.ended)&&decide (c.ended<(b:Int)))) (S:=fun c:Cl=>c.site==1&&c.ended==(b:Int)) (allC (evF l) l.length) (fun c=>by
   by_cases h1:c.site=1
   ·rw [h1]
    simp only [beq_self_eq_true,Bool.true_and,Bool.and_eq_true,decide_eq_true_eq,beq_iff_eq]
    by_cases q1:0<=c.ended/\c.ended<(b:Int)
    ·rw [if_pos (by omega),if_pos q1,if_neg (by omega)]
    ·by_cases q2:c.ended=(b:Int)
     ·rw [if_pos (by omega),if_neg q1,if_pos q2]
     ·rw [if_neg (by omega),if_neg q1,if_neg q2]
   ·have e:(c.site==1)=false:=beq_eq_false_iff_ne.2 h1
    simp only [e,Bool.false_and];rfl)
  unfold endN
  rw [hs,cF_succ]
  have i:endN (allC (evF l) l.length) (b:Int)<=cF (f3 l) b:=ih (by omega)
  unfold endN at i
  have one:((allC (evF l) l.length).filter fun c:Cl=>c.site==1&&c.ended==(b:Int)).length<=(if f3 l b=true then 1 else 0):=by
   by_cases c3:f3 l b=true
   ·rw [if_pos c3]
    refine filter_le_one (allC_sorted (evF l) l.length) (fun x hx y hy px py hlt=>?_)
    simp only [Bool.and_eq_true,beq_iff_eq]at px py
    obtain ⟨i1,a1,a2,a3,a4,a5,a6,a7,a8,a9⟩:=call_at hx
    obtain ⟨i2,b1,b2,b3,b4,b5,b6,b7,b8,b9⟩:=call_at hy
    rcases a9 with q|⟨m1,q1⟩
    ·omega
    rcases b9 with q|⟨m2,q2⟩
    ·omega
    have e1:m1=b:=by have :=q1.2.2.1;omega
    have e2:m2=b:=by have :=q2.2.2.1;omega
    subst e1
    subst e2
    rw [a2]at q1
    rw [b2]at q2
    have e:=ends_apart a1 b1 a3 a4 b3 b4 q1 q2
    subst e
    omega
   ·rw [if_neg c3]
    refine Nat.le_of_eq ?_
    rw [List.length_eq_zero_iff]
    refine List.filter_eq_nil_iff.2 (fun x hx q=>c3 ?_)
    simp only [Bool.and_eq_true,beq_iff_eq]at q
    obtain ⟨i1,a1,a2,a3,a4,a5,a6,a7,a8,a9⟩:=call_at hx
    rcases a9 with q'|⟨m1,q1⟩
    ·omega
    have e1:m1=b:=by have :=q1.2.2.1;omega
    subst e1
    obtain ⟨h1,h2,h3,h4,h5,h6,h7,h8⟩:=q1
    obtain ⟨y,y1,y2,y3,y4,y5⟩:=evF_at hk h2
    have e:l.getD m1 ev0=y:=by rw [List.getD_eq_getElem?_getD,y1];rfl
    unfold f3
    rw [e,<-y2,h4,<-y5]
    have :(evF l m1).k=3:=by omega
    rw [this];rfl
  omega
def pB (E:Nat->EvB) (i:Nat):Bool:=begBB E i&&(decide (0<=(E i).who)&&decide ((E i).who<8))
theorem allC_kth (E:Nat->EvB) (len k:Nat) (hk:k<(allC E len).length): ∃e,e<len/\pB E e=true/\(allC E len).getD k default=(oneS E len e).1/\(allC E len).take k=((List.range e).filter (pB E)).map fun i=>(oneS E len i).1:=by
 have hC:allC E len=((List.range len).filter (pB E)).map fun i=>(oneS E len i).1:=rfl
 have hlen:(allC E len).length=((List.range len).filter (pB E)).length:=by rw [hC,List.length_map]
 obtain ⟨e,h1,h2,h3,h4⟩:=take_filter (pB E) len k (by rw [<-hlen];exact hk)
 refine ⟨e,h1,h2,?_,?_⟩
 ·rw [hC,List.getD_eq_getElem?_getD,List.getElem?_map,h3];rfl
 ·rw [hC,<-List.map_take,h4]
theorem read_calls {l:List Evt} (hk:EvK l) {t:Nat} (ht:t<8) (hm:mkF (sqS false) t l≠none) {k:Nat} (hkl:k<(allC (evF l) l.length).length) (hw:((allC (evF l) l.length).getD k default).who=(t:Int)):
 endN (allC (evF l) l.length) ((allC (evF l) l.length).getD k default).began<=(begF t l).2.getD (rdN (t:Int) ((allC (evF l) l.length).take k)) 0:=by
 obtain ⟨e,h1,h2,h3,h4⟩:=allC_kth (evF l) l.length k hkl
 have hwe:(evF l e).who=(t:Int):=by rw [<-hw,h3,(oneS_whoB _ _ _).1]
 have at_: ∀i,i<l.length->(evF l i).kind=(l.getD i ev0).kind/\(evF l i).who=(l.getD i ev0).who/\(evF l i).k=(l.getD i ev0).k:=fun i hi=>by
  obtain ⟨x,h1,h2,h3,h4,h5⟩:=evF_at hk hi
  have :l.getD i ev0=x:=by rw [List.getD_eq_getElem?_getD,h1];rfl
  rw [this];exact ⟨h2,h3,h5⟩
 have four: ∀i,i<l.length->(pB (evF l) i=true/\(evF l i).who=(t:Int)↔f4 t l i=true):=fun i hi=>by
  obtain ⟨a1,a2,a3⟩:=at_ i hi
  have hn:0<=(l.getD i ev0).k:=(hk _ (getD_mem hi)).1
  unfold pB begBB f4
  simp only [Bool.and_eq_true,beq_iff_eq,decide_eq_true_eq,a1,a2,a3]
  constructor
  ·rintro ⟨⟨⟨q1,q2⟩,q3⟩,q4⟩
   have :=site_of hm hi q1 q4 (by omega)
   unfold sqS at this
   rw [Bool.false_or,beq_iff_eq]at this
   exact ⟨q1,by omega,q4⟩
  ·rintro ⟨q1,q2,q3⟩
   exact ⟨⟨⟨q1,by rw [q2];rfl⟩,by omega⟩,q3⟩
 have fe:f4 t l e=true:=(four e h1).1 ⟨h2,hwe⟩
 obtain ⟨_,_,b3⟩:=begF_take t l l.length (Nat.le_refl _)
 rw [List.take_length]at b3
 have b:=b3 e h1 fe
 have hr:rdN (t:Int) ((allC (evF l) l.length).take k)=cF (f4 t l) e:=by
  unfold rdN
  rw [h4,List.filter_map,List.length_map,cF_and]
  refine cF_congr (fun i hi=>Bool.eq_iff_iff.2 ?_)
  rw [<-four i (by omega),Bool.and_eq_true]
  simp only [Function.comp,Bool.and_eq_true,beq_iff_eq,decide_eq_true_eq,(oneS_whoB _ _ _).1]
  constructor
  ·rintro ⟨q1,q2,q3⟩;exact ⟨q1,q2⟩
  ·rintro ⟨q1,q2⟩
   refine ⟨q1,q2,?_⟩
   have p1:(evF l i).kind=7/\(evF l i).k % 2=0:=by unfold pB begBB at q1;simp only [Bool.and_eq_true,beq_iff_eq]at q1;exact q1.1
   have p2:(evF l e).kind=7/\(evF l e).k % 2=0:=by unfold pB begBB at h2;simp only [Bool.and_eq_true,beq_iff_eq]at h2;exact h2.1
   exact ended_of hk hm hi h1 p1.1 p1.2 q2 p2.1 p2.2 hwe
 rw [hr,b,h3,(oneS_whoB _ _ _).2.1]
 exact endN_le hk e (by omega)
structure Whole (N t:Nat) (l:List Evt) (vs:List Nat):Prop where
 lo:vs.length*N<=(outE t l).length
 hi:(outE t l).length<vs.length*N+N
 at_: ∀n i,n<vs.length->i<N->(outE t l).getD (n*N+i) 0=((vs.getD n 0:Nat):Int)
 srt: ∀j,j+1<vs.length->vs.getD j 0<=vs.getD (j+1) 0
 big: ∀j,j<vs.length->vs.getD j 0<=24
 call: ∀k,k<(allC (evF l) l.length).length->((allC (evF l) l.length).getD k default).who=(t:Int)->rdN (t:Int) ((allC (evF l) l.length).take k)<vs.length->
  endN (allC (evF l) l.length) ((allC (evF l) l.length).getD k default).began<=vs.getD (rdN (t:Int) ((allC (evF l) l.length).take k)) 0
theorem seq_whole {p:Pg} {B:MB} (hp:p.Ok) (hN:NewM p B) (hroom:B.room=p.room) (hr:1<=p.room/\p.room<=16) {N W R rd:Nat} (h1:1<=N) (h3:N<=3) (hrd:1<=rd) (hrd3:rd<=3) (hW:W<=2) (hR:R<=2)
 (hm:p.m=18+N) (hZ: ∀i,p.Z i=0) (hn:p.n=W+R) (hcd: ∀t,t<p.n->(p.cd t).len=(sqT N rd t (decide (t<W))).length/\(p.cd t).F=fun i=>(sqT N rd t (decide (t<W))).getD i default)
 (l:List (Int×Int)) (hl:l.length<=100000):let S:=tRun B (t0 p) l
 (∀c∈allC (evF S.evs) S.evs.length,0<=c.ended->c.result=0)/\ ∀t,W<=t->t<W+R-> ∃vs,Whole N t S.evs vs:=by
 intro S
 obtain ⟨hk,_,⟨g,H⟩,_⟩:=seq_ends hp hN hroom hr h1 h3 hrd hrd3 hW hR hm hZ hn hcd l hl
 have hk:EvK S.evs:=hk
 have H:SqI (sqC N W R rd) (vw S) g:=H
 have hB:=newM_ok hN (by omega) (by omega)
 have hw:Wf B (t0 p):=⟨t0_ok hp hN,by show ((List.range p.m).map p.Z).length=B.m;rw [List.length_map,List.length_range,hN.m],by rw [hroom];exact hr.1⟩
 have hnc:B.codes.length=p.n:=hN.n
 have hth: ∀t,(vw (t0 p)).th t=tha:=fun t=>by
  show (List.replicate p.n tha).getD t tha=tha
  rw [List.getD_eq_getElem?_getD,List.getElem?_replicate];split<;>rfl
 have hL: ∀t,t<B.codes.length->Flat B t (codeOf (sqPc N t (decide (t<W))) (sqSn N rd (decide (t<W))))/\MkOk (sqS (decide (t<W))) (codeOf (sqPc N t (decide (t<W))) (sqSn N rd (decide (t<W)))):=fun t ht=>by
  refine ⟨?_,chkM_ok (sq_chk t _ h1 h3 hrd hrd3)⟩
  have h1':=hN.cd t (by omega)
  have h2:=hcd t (by omega)
  refine Coded.flat (bs:=bsQ (if decide (t<W)=true then sgW N else sgR N)) (coded_of rfl (fun n _=>sqPc_len N t _ n) (by rw [h1'.1,h2.1];rfl) (by rw [h1'.2.1,h2.2];rfl) (fun n hn' op hop=>?_) ?_ (by rw [hN.m,hm];omega)) rfl
  ·rw [hN.m,hm]
   exact sqPc_ok (by omega) h1 h3 hrd hn' op hop
  ·have :=bsQ_le (if decide (t<W)=true then sgW N else sgR N) (sqSn N rd (decide (t<W)));have :=sqSn_le (N:=N) h3 hrd3 (decide (t<W));omega
 have HM:MkI B.codes.length (fun t=>sqS (decide (t<W))) (fun t=>codeOf (sqPc N t (decide (t<W))) (sqSn N rd (decide (t<W)))) (vw S):=mk_run hB hL l hw (mk_start hth rfl)
 refine ⟨fun c hc he=>?_,fun t hWt htn=>?_⟩
 ·obtain ⟨i,_,_,_,_,_,_,_,_,q⟩:=call_at hc
  rcases q with q|⟨j,q1,q2,q3,q4,q5,q6,q7,q8⟩
  ·omega
  obtain ⟨x,x1,x2,x3,x4,x5⟩:=evF_at hk q2
  have hn:0<=(evF S.evs j).k:=(evF S.evs j).k0
  rw [q8,x4]
  refine H.fine x (List.mem_of_getElem? x1) (by rw [<-x2];exact q4) ?_
  rw [<-x5];omega
 ·have hkd:(sqC N W R rd).kd t=sgR N:=if_neg (by omega)
  have hiw:(sqC N W R rd).isW t=false:=decide_eq_false (by omega)
  obtain ⟨m,i,z,hi,hr⟩:=H.reads (t:=t) htn hiw (fun n _=>by rw [hkd];exact sgR_not N n)
  have hi:i<N:=hi
  have hO:outE t S.evs=outQ N (g.vs t)++List.replicate i z:=hr.O
  have hf:mkF (sqS (decide (t<W))) t S.evs≠none:=HM.fine (fun t ht=>(hL t ht).2) (t:=t) (by omega)
  rw [show decide (t<W)=false from hiw]at hf
  have h49:=H.s49.2
  refine ⟨g.vs t,?_,?_,fun n j hn' hj=>?_,hr.srt,fun j hj=>?_,fun k hkl hw' hlt=>?_⟩
  ·rw [hO,List.length_append,outQ_len];omega
  ·rw [hO,List.length_append,outQ_len,List.length_replicate];omega
  ·rw [hO,List.getD_eq_getElem?_getD]
   have h5:=outQ_at N j hj (g.vs t) n hn'
   rw [List.getElem?_append_left (List.getElem?_eq_some_iff.1 h5).1,h5];rfl
  ·have h5:2*(((g.vs t).getD j 0:Nat):Int)<=(vw S).mem 16:=hr.le j hj
   omega
  ·exact Nat.le_trans (read_calls hk (by omega) hf hkl hw') (hr.beg _ hlt)
theorem tRun_mem {B:MB}: ∀(l:List (Int×Int)) (s:Mst),(tRun B s l).mem.length=s.mem.length
 |[],s=>rfl
 |x::l,s=>(tRun_mem l (tPick B s x)).trans (tPick_mem x)
end Go.Proofs.YtmhfpjnkjlhbpaaGreatDoor
namespace Go.Proofs.YtmhfpjnkjlhbpaaGreatDoor
open Go.ChangeShapes Go.WideShapes Go.ChangeAt Go.RowKit
set_option linter.unusedVariables false
set_option maxRecDepth 100000
theorem of_any (b:Int) (h0:0<=b) (h1:b<=255) (w:World):
 Calls Tryz.prog 46 #[.int .u8 b] w fun e w'=>e= .returned (.agg #[.int .i64 (b/8 % 3),.int .i64 (b % 8)])/\Below w.heap.size w w':=by
 go_enter Tryz.func46,Tryz.ntmps46
 go_wp2
 exact bodyPost_ret (v:= .agg #[.int .i64 (b/8 % 3),.int .i64 (b % 8)]) (by simp [results,Tryz.results46,go_sem]) rfl ⟨rfl,(Below.refl _ _).alloc (Nat.le_refl _) _⟩
end Go.Proofs.YtmhfpjnkjlhbpaaGreatDoor
namespace Go.Proofs.YtmhfpjnkjlhbpaaGreatDoor
open Go.RowKit
set_option linter.unusedVariables false
set_option maxRecDepth 100000
theorem pick_info:(Tryz.prog.info? 78).map (fun i=>(i.zero,i.size,i.bytes))=some (some (.agg #[.int .i64 0,.int .i64 0]),2,16):=by kernel_rfl
theorem run_make_rowN {P:Program} (t e:TypeId) (i:TypeInfo) (z:Value) (ht:P.underlying t=some (.slice e)) (hi:P.info? e=some i) (hz:i.zero=some z)
 (kl kc:IntKind) (n c:Nat) (hnc:n<=c) (hbytes:i.bytes*c<=281474976710656) (h63:c<=9223372036854775807) (w:World):
 (Instr.makeSlice t (.int kl (n:Int)) (.int kc (c:Int))).run P w= .ok (.slice (some ⟨w.heap.size,0,none⟩) n c) (w.alloc (.cells (madeCells z.cells (c*i.size)) e)):=by
 have hb:(i.bytes:Int)*(c:Int)<=281474976710656:=by
  have h:((i.bytes*c:Nat):Int)<=281474976710656:=by omega
  rwa [Int.natCast_mul]at h
 have hr:=run_make (P:=P) w t e i z ht hi hz kl kc n c (by omega) (by omega) hb (by omega)
 simp only [Int.toNat_natCast]at hr
 exact hr
theorem run_make_picks (n:Nat) (hn:n<=1000000): ∀w:World,(Instr.makeSlice 37 (.int .i64 (n:Int)) (.int .i64 (n:Int))).run Tryz.prog w=
 .ok (.slice (some ⟨w.heap.size,0,none⟩) n n) (w.alloc (.cells (madeCells #[.int .i64 0,.int .i64 0] (n*2)) 78)):=fun w=>by
 obtain ⟨i,hi,hz,hs,hb⟩:=info_parts pick_info
 have :=run_make_rowN (P:=Tryz.prog) 37 78 i _ Tryz.underlying37 hi hz .i64 .i64 n n (Nat.le_refl _) (by rw [hb];omega) (by omega) w
 rw [hs]at this
 exact this
set_option maxHeartbeats 400000 in
theorem pickRead_any (A:Option Addr) (len cap:Nat) (Z:Nat->Int) (w:World) (hl:len<=100000) (hsl:Sl w A len (fun i=> .int .u8 (Z i))) (hz: ∀i,i<len->0<=Z i/\Z i<=255):
 Calls Tryz.prog 18 #[.slice A len cap] w fun e w'=> ∃cs:Array Value,e= .returned (.slice (some ⟨w.heap.size,0,none⟩) len len)/\Blk w' w.heap.size 78 cs/\cs.size=len*2/\
  (∀i,i<len->cs[i*2]?=some (.int .i64 (Z i/8 % 3))/\cs[i*2+1]?=some (.int .i64 (Z i % 8)))/\Below w.heap.size w w':=by
 have hmk:=run_make_picks len (by omega)
 go_enter Tryz.func18,Tryz.ntmps18
 go_wp2
 clear hmk
 go_loopw [11] (fun v wr=> ∃k:Nat,k<=len/\v= .int .i64 k/\ ∃cs:Array Value,Blk wr w.heap.size 78 cs/\cs.size=len*2/\(∀i,i<k->cs[i*2]?=some (.int .i64 (Z i/8 % 3))/\cs[i*2+1]?=some (.int .i64 (Z i % 8)))/\Below w.heap.size w wr)
  (fun v _=>len-(intOf v).toNat)
 case atStart=>
  exact ⟨0,Nat.zero_le _,rfl,_,Blk.new _ _ _,by simp [size_madeCells],fun i hi=>absurd hi (by omega),(Below.refl _ _).alloc (Nat.le_refl _) _⟩
 case round=>
  obtain ⟨k,hk,rfl,cs,hblk,hcs,hdone,hB⟩:=hrel
  by_cases hlt:k<len
  ·obtain ⟨b,off,rfl,hbW,hcW⟩:=(hsl.below (Nat.le_refl _) hB) (by omega)
   have hc0:=hcW k hlt
   have hz0:=hz k hlt
   have hblk1: ∀{w1:World},Below wr.heap.size wr w1->Blk w1 w.heap.size 78 cs:=fun hb=>hblk.below hb hblk.lt
   have hlg:=hblk.lt
   have hx0: ∃v0,cs[k*2]?=some v0:=⟨_,Array.getElem?_eq_getElem (by omega)⟩
   have hx1: ∃v1,cs[k*2+1]?=some v1:=⟨_,Array.getElem?_eq_getElem (by omega)⟩
   obtain ⟨v0,hv0⟩:=hx0
   obtain ⟨v1,hv1⟩:=hx1
   have HS:=Lib.hid hcs
   clear hcs hcW hsl
   go_wp2_with (first|(go_at_call 46;refine (of_any _ hz0.1 hz0.2 _).mono ?_;rintro e w1 ⟨rfl,hb1⟩;have q:=hblk1 hb1;have q0:=(q.cell (k*2)).trans hv0;have q1:=(q.cell (k*2+1)).trans hv1;have f0:=q.frozen (k*2);have f1:=q.frozen (k*2+1)))
   go_roundw
   case rel=>
    refine ⟨k+1,by omega,by go_num,_,(q.set_ (k*2) _).set_ (k*2+1) _,by simp [HS.out],fun i hi=>?_,?_⟩
    ·by_cases hik:i=k
     ·subst hik
      have :=HS.out
      constructor
      ·rw [Array.getElem?_setIfInBounds_ne (by omega),Array.getElem?_setIfInBounds_self_of_lt (by omega)]
      ·rw [Array.getElem?_setIfInBounds_self_of_lt (by simp;omega)]
     ·have :=hdone i (by omega)
      rw [Array.getElem?_setIfInBounds_ne (by omega),Array.getElem?_setIfInBounds_ne (by omega),Array.getElem?_setIfInBounds_ne (by omega),Array.getElem?_setIfInBounds_ne (by omega)]
      exact this
    ·exact ((step_below hB hb1).setCell (Nat.le_refl _) _).setCell (Nat.le_refl _) _
   case measure=>simp [intOf];omega
  ·obtain rfl:k=len:=by omega
   go_wp2
   go_ret
   exact ⟨cs,rfl,hblk,hcs,hdone,hB⟩
end Go.Proofs.YtmhfpjnkjlhbpaaGreatDoor
