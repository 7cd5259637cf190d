/- Machines of threads (plain): fair scripts bring to an end what always has somebody to help. Machines of threads (plain): what serves any proof that all come to an end. barrier (plain): by fair scripts all who enter come to an end: what is left to do, who is helped. condition (plain): who draws a ticket and sleeps, and who broadcasts: what holds whatever the turns; what is left to do. Marks (plain): who begins a call ends it before it begins another one. Machines of threads (plain): what serves the laws. -/
import Derived.Test.YtmhfpjnkjlhbpaaGreatDoorQj26
import Derived.Test.YtmhfpjnkjlhbpaaGreatDoorQj31
import Derived.Test.YtmhfpjnkjlhbpaaGreatDoorQj30
namespace Go.Proofs.YtmhfpjnkjlhbpaaGreatDoor
open Go.ChangeShapes Go.WideShapes Go.ChangeAt Go.RowKit Go.Deep
set_option linter.unusedVariables false
set_option maxRecDepth 100000
set_option linter.unusedSimpArgs false
theorem pick_cases {B:MB} {s:Mst} {P:Vw->Prop} (hw:Wf B s) (x:Int×Int)
 (hno:(∀t:Nat,t<B.codes.length->x=(0,(t:Int))->(thM s t).st≠0)->(∀t:Nat,t<B.codes.length->x=(1,(t:Int))->(vw s).bf t=[])->P (vw s))
 (hf: ∀t:Nat,t<B.codes.length->x.2=(t:Int)->(vw s).bf t≠[]->P (flushV t (vw s)))
 (hx: ∀t:Nat,t<B.codes.length->x=(0,(t:Int))->(thM s t).st=0->(∃p r op,At B s t p r op/\((op.drains=true->(vw s).bf t=[])->(op.stores=true->(((vw s).bf t).length:Int)<B.room)->P (execV t (vw s) p r op)))∨
   (((B.codes.getD t cdd).len:Int)<=(thM s t).pc/\P ((vw s).mv t ⟨(thM s t).pc,(thM s t).regs,2⟩ ((vw s).bf t) (vw s).mem [⟨12,(t:Int),(thM s t).pc,0,0,0,0,false⟩])))
 (hr: ∀t:Nat,t<B.codes.length->x=(2,(t:Int))->fnd s.slp (t:Int)<s.slp.length->P {(vw s).mv t ⟨(thM s t).pc,(thM s t).regs,0⟩ ((vw s).bf t) (vw s).mem [⟨11,(t:Int),0,0,0,0,0,false⟩]with slp:=s.slp.eraseIdx (fnd s.slp (t:Int))}):
 P (vw (tPick B s x)):=by
 obtain ⟨kd,wh⟩:=x
 unfold tPick
 split
 ·rename_i hout
  have hnt:=hw.ok.ok.nt
  dsimp only at hout
  refine hno (fun t ht e=>?_) (fun t ht e=>?_)
  all_goals (injection e with e1 e2;exfalso;omega)
 rename_i hin
 dsimp only at hin⊢
 have hnt:=hw.ok.ok.nt
 obtain ⟨t,rfl⟩: ∃t:Nat,wh=(t:Int):=⟨wh.toNat,by omega⟩
 have ht:t<B.codes.length:=by omega
 rw [Int.toNat_natCast]
 split
 ·rename_i hk
  subst hk
  by_cases hst:(thM s t).st=0
  ·rcases hx t ht rfl hst with ⟨p,r,op,hA,hk⟩|⟨hl,hk⟩
   ·rcases step_view hA with ⟨hb,e⟩|⟨h1,h2,e⟩
    ·rw [e];exact hf t ht rfl hb
    ·rw [e];exact hk h1 h2
   ·rw [end_view (p:=(thM s t).pc) (r:=(thM s t).regs) (by rw [<-hst]) hl (hw.th ht) (hw.bf ht)]
    exact hk
  ·rw [tStep_not hst]
   refine hno (fun u hu e=>?_) (fun u hu e=>?_)
   ·injection e with e1 e2
    have :t=u:=by omega
    rw [<-this];exact hst
   ·injection e with e1 e2
    exact absurd e1 (by decide)
 rename_i hk0
 split
 ·rename_i hk
  subst hk
  rw [vw_flush t (by rw [hw.m];exact fun b hb e he=>(hw.ok.ok.buf b hb e he).1)]
  cases hb:(vw s).bf t with
  |nil=>
   have e:flushV t (vw s)=vw s:=by unfold flushV;rw [hb]
   rw [e]
   refine hno (fun u hu e=>?_) (fun u hu e=>?_)
   ·injection e with e1 e2
    exact absurd e1 (by decide)
   ·injection e with e1 e2
    have :t=u:=by omega
    rw [<-this];exact hb
  |cons y l=>exact hf t ht rfl (by rw [hb];exact List.cons_ne_nil _ _)
 rename_i hk1
 have hno':P (vw s):=hno (fun u hu e=>by injection e with e1 e2;exact absurd e1 hk0) (fun u hu e=>by injection e with e1 e2;exact absurd e1 hk1)
 split
 ·rename_i hk
  subst hk
  rcases rouse_view (s:=s) (t:=t) (hw.th ht) (hw.bf ht)with e|⟨h1,e⟩
  ·rw [e];exact hno'
  ·rw [e];exact hr t ht rfl h1
 ·exact hno'
structure Helps (B:MB) (nt:Nat) (ok:Int×Int->Prop) (R:Mst->Nat->Int×Int->Prop):Prop where
 who: ∀{s m h},R s m h->0<m-> ∃kind who:Nat,kind<2/\who<nt/\h=((kind:Int),(who:Int))
 step: ∀{s m h x},R s m h->ok x-> ∃m' h',R (tPick B s x) m' h'/\(m'<m∨(m'=m/\(m=0∨(h'=h/\x≠h))))
section
variable {B:MB} {nt:Nat} {ok:Int×Int->Prop} {R:Mst->Nat->Int×Int->Prop}
theorem Helps.list (H:Helps B nt ok R): ∀(l:List (Int×Int)) {s:Mst} {m:Nat} {h:Int×Int},(∀x∈l,ok x)->R s m h-> ∃m' h',R (tRun B s l) m' h'/\(m'<m∨(m'=m/\(m=0∨(h'=h/\h∉l))))
 |[],s,m,h,_,hR=>⟨m,h,hR,.inr ⟨rfl,.inr ⟨rfl,by simp⟩⟩⟩
 |x::l,s,m,h,hl,hR=>by
  obtain ⟨m1,h1,hR1,c⟩:=H.step hR (hl x (by simp))
  obtain ⟨m2,h2,hR2,d⟩:=H.list l (fun y hy=>hl y (by simp [hy])) hR1
  refine ⟨m2,h2,hR2,?_⟩
  rcases c with c|⟨rfl,c⟩
  ·exact .inl (by omega)
  ·rcases d with d|⟨rfl,d⟩
   ·exact .inl d
   ·refine .inr ⟨rfl,?_⟩
    rcases c with c|⟨rfl,c⟩
    ·exact .inl c
    ·rcases d with d|⟨rfl,d⟩
     ·exact .inl d
     ·exact .inr ⟨rfl,fun q=>by
       rcases List.mem_cons.1 q with q|q
       ·exact c q.symm
       ·exact d q⟩
theorem tRun_append (B:MB) (s:Mst) (l m:List (Int×Int)):tRun B s (l++m)=tRun B (tRun B s l) m:=by unfold tRun;rw [List.foldl_append]
theorem Windows.drop {t w:Nat} {L:List (Int×Int)} (h:Windows t w L) (n:Nat):Windows t w (L.drop n):=fun i hi kind who hk hwho=>by
 rw [List.length_drop]at hi
 by_cases hn:n<=L.length
 ·obtain ⟨p,h1,h2,h3⟩:=h (n+i) (by omega) kind who hk hwho
  exact ⟨p-n,by omega,by omega,by rw [List.getElem?_drop,show n+(p-n)=p by omega];exact h3⟩
 ·have hw0:w=0:=by omega
  have hi0:i=0:=by omega
  obtain ⟨p,h1,h2,h3⟩:=h 0 (by omega) kind who hk hwho
  omega
theorem Helps.windows (H:Helps B nt ok R) {w:Nat}: ∀(k:Nat) (l:List (Int×Int)) {s:Mst} {m:Nat} {h:Int×Int},Windows nt w l->(∀x∈l,ok x)->k*w<=l.length->R s m h-> ∃m' h',R (tRun B s l) m' h'/\m'<=m-k
 |0,l,s,m,h,_,hl,_,hR=>by
  obtain ⟨m',h',hR',c⟩:=H.list l hl hR
  exact ⟨m',h',hR',by omega⟩
 |k+1,l,s,m,h,hW,hl,hk,hR=>by
  rw [Nat.succ_mul]at hk
  obtain ⟨m1,h1,hR1,c⟩:=H.list (l.take w) (fun x hx=>hl x (List.mem_of_mem_take hx)) hR
  have hm1:m1<=m-1:=by
   rcases c with c|⟨rfl,c⟩
   ·omega
   ·rcases c with c|⟨rfl,c⟩
    ·omega
    ·rcases Nat.eq_zero_or_pos m1 with z|z
     ·omega
     ·obtain ⟨kind,who,q1,q2,q3⟩:=H.who hR z
      obtain ⟨p,_,p2,p3⟩:=hW 0 (by omega) kind who q1 q2
      exfalso
      refine c (q3▸?_)
      refine List.mem_of_getElem? (i:=p) ?_
      rw [List.getElem?_take_of_lt (by omega)]
      exact p3
  obtain ⟨m2,h2,hR2,d⟩:=H.windows k (l.drop w) (hW.drop w) (fun x hx=>hl x (List.mem_of_mem_drop hx)) (by rw [List.length_drop];omega) hR1
  refine ⟨m2,h2,?_,by omega⟩
  rw [<-tRun_append,List.take_append_drop]at hR2
  exact hR2
end
theorem Play.all {t w nw:Nat} {Wf:Nat->Pk} {L:List Pk} {D:Du} {k:Nat} (h:Play t w nw Wf L D k) {P:Pk->Prop} (h1: ∀kind who:Nat,kind<2->who<t->P ((kind:Int),(who:Int))) (h2: ∀i,i<nw->P (Wf i)): ∀x∈L,P x:=by
 induction h with
 |nil=>intro x hx;cases hx
 |own h kd wh hf hd ih=>
  intro x hx
  rcases List.mem_append.1 hx with hx|hx
  ·exact ih x hx
  ·rw [List.mem_singleton.1 hx];exact h1 kd wh hf.1 hf.2.1
 |wish h kd wh hf hd hn ih=>
  intro x hx
  rcases List.mem_append.1 hx with hx|hx
  ·exact ih x hx
  ·rw [List.mem_singleton.1 hx];exact h2 _ (Nat.mod_lt _ hn)
def fstB (nt:Nat) (p:Nat->Bool):Option Nat:=(List.range nt).find? p
theorem fstB_some {nt u:Nat} {p:Nat->Bool} (h:fstB nt p=some u):u<nt/\p u=true:=⟨List.mem_range.1 (List.mem_of_find?_eq_some h),List.find?_some h⟩
theorem fstB_none {nt:Nat} {p:Nat->Bool} (h:fstB nt p=none) {u:Nat} (hu:u<nt):p u=false:=by
 have :=List.find?_eq_none.1 h u (List.mem_range.2 hu)
 simpa using this
def nd (th:Th):Nat:=if th.st=2 then 0 else 1
section
variable {ln bs:Nat->Nat} {sn:Nat}
end
theorem wk_all (a:Int): ∀(l:List Slp) (s:List Slp×List Int) (n:Nat),(∀x∈l,x.2=a)->s.2.length+l.length<=n->(l.foldl (wstep a n) s).1=s.1/\(l.foldl (wstep a n) s).2=s.2++l.map (·.1)
 |[],s,n,_,_=>⟨rfl,by simp⟩
 |x::l,s,n,h,hn=>by
  rw [List.length_cons]at hn
  have e:wstep a n s x=(s.1,s.2++[x.1]):=if_pos ⟨h x (by simp),by omega⟩
  rw [List.foldl_cons,e]
  obtain ⟨q1,q2⟩:=wk_all a l (s.1,s.2++[x.1]) n (fun y hy=>h y (by simp [hy])) (by rw [List.length_append,List.length_singleton];omega)
  exact ⟨q1,by rw [q2];simp⟩
theorem wk_every {a:Int} {l:List Slp} {n:Nat} (h: ∀x∈l,x.2=a) (hn:l.length<=n):(wk a n l).1=[]/\(wk a n l).2=l.map (·.1):=by
 have :=wk_all a l ([],[]) n h (by simpa using hn)
 exact ⟨this.1,by rw [show (wk a n l).2=_ from this.2];rfl⟩
def awk (v:Vw) (t:Nat):Bool:=decide ((v.th t).st=0)
def hlpM (nt:Nat) (v:Vw):Int×Int:=(0,(((fstB nt (awk v)).getD 0:Nat):Int))
section
variable {nt N rd P P' t k o:Nat} {la la':Option Nat} {v v':Vw}
end
def condL (t:Nat):List Op:=[.mark 10,.load 4 16,.store 4 (17+t),.set 7 0,.mark 11,.mark 12,.load 4 (17+t),.wait 4 16,.set 7 0,.mark 13]
def bcL:List Op:=[.mark 16,.set 4 1,.fetch 4 16,.set 4 4294967295,.wake 4 16,.set 7 0,.mark 17]
def SlA (t:Nat) (th:Th) (b:List Ent):Prop:= ∃o:Nat,th.pc=(o:Int)/\o<=10/\(b=[]∨(3<=o/\o<=7/\b=[(((17+t:Nat):Int),0)]))/\(th.st=0∨(o=8/\th.st=1)∨(o=10/\th.st=2))/\(o=2->th.regs 4=0)/\(o=7->th.regs 4=0)
def BrA (th:Th) (b:List Ent):Prop:= ∃o:Nat,th.pc=(o:Int)/\o<=7/\b=[]/\(th.st=0∨(o=7/\th.st=2))/\(o=2->th.regs 4=1)/\(o=4->th.regs 4=4294967295)
def isEvn (t:Nat) (x:Evt):Bool:=x.kind==7&&(x.k % 2==0&&x.who==(t:Int))
def begS (th:Th):Nat:=(if 1<=th.pc then 1 else 0)+(if 6<=th.pc then 1 else 0)
structure ConI (n:Nat) (v:Vw):Prop where
 n3:1<=n/\n<=7
 sl: ∀t,t<n->SlA t (v.th t) (v.bf t)
 br:BrA (v.th n) (v.bf n)
 m16:v.mem 16=if (v.th n).pc<=2 then 0 else 1
 own: ∀t,t<n->v.mem (17+t)=0
 slp: ∀x∈v.slp,x.2=16/\ ∃u,u<n/\x.1=(u:Int)/\(v.th u).st=1
 in_: ∀u,u<n->(v.th u).st=1->((u:Int),(16:Int))∈v.slp
 G:(v.th n).pc=0∨ ∀t,t<n->2<=(v.th t).pc
 aw: ∀t,t<n->(v.th t).st=1->(v.th n).pc<=4
 evw: ∀x∈v.evs,x.kind=7->0<=x.who/\x.who<=(n:Int)
 evc: ∀t,t<n->cntE (isEvn t) v.evs=begS (v.th t)
 evo: ∀t,t<n-> ∀x∈v.evs,x.kind=7->x.who=(t:Int)->x.k % 2=1->5<=(v.th t).pc
 evb:cntE (isEvn n) v.evs=if 1<=(v.th n).pc then 1 else 0
def wkC (n:Nat) (v:Vw) (t:Nat):Nat:=if t<n then (10-(v.th t).pc.toNat)+(if (v.th t).pc<=2 then 1 else 0)+nd (v.th t)+(v.bf t).length else (7-(v.th t).pc.toNat)+nd (v.th t)
structure ConN (n:Nat) (v v':Vw) (t:Nat):Prop where
 I:ConI n v'
 oth: ∀u,u≠t->(v'.th u).pc=(v.th u).pc/\wkC n v' u=wkC n v u/\((v.th u).st=2->(v'.th u).st=2)
 mono:(v.th t).pc<=(v'.th t).pc
 less:wkC n v' t<wkC n v t
section
variable {n t:Nat} {v v':Vw}
theorem cntE_no {f:Evt->Bool} {l m:List Evt} (h: ∀x∈m,f x=false):cntE f (l++m)=cntE f l:=by
 have e:m.filter f=[]:=List.filter_eq_nil_iff.2 (fun x hx=>by rw [h x hx];decide)
 unfold cntE
 rw [List.filter_append,e,List.append_nil]
theorem evn_other {u:Nat} {x:Evt} (h:x.who=(t:Int)) (hu:u≠t):isEvn u x=false:=by
 unfold isEvn
 rw [h]
 have :((t:Int)==(u:Int))=false:=by simp;omega
 rw [this,Bool.and_false,Bool.and_false]
theorem ConI.mv (H:ConI n v) (ht:t<n) {l:List Evt} (hoth: ∀u,u≠t->v'.th u=v.th u/\v'.bf u=v.bf u) (hm: ∀a,v'.mem a=v.mem a) (hslp:v'.slp=v.slp) (hst:(v.th t).st=0) (hst':(v'.th t).st≠1) (hS:SlA t (v'.th t) (v'.bf t)) (hmono:(v.th t).pc<=(v'.th t).pc)
 (hev:v'.evs=v.evs++l) (hw: ∀x∈l,x.who=(t:Int)) (hc:cntE (isEvn t) (v.evs++l)=begS (v'.th t)) (ho: ∀x∈l,x.kind=7->x.k % 2=1->5<=(v'.th t).pc) (hl:wkC n v' t<wkC n v t):ConN n v v' t:=by
 have hn:n≠t:=by omega
 have e:=(hoth n hn).1
 have ne1: ∀u,(v'.th u).st=1->u≠t:=fun u q z=>hst' (z▸q)
 refine ⟨⟨H.n3,fun u hu=>?_,by rw [e,(hoth n hn).2];exact H.br,by rw [hm,e];exact H.m16,fun u hu=>by rw [hm];exact H.own u hu,fun x hx=>?_,fun u hu q=>?_,?_,fun u hu q=>?_,fun x hx=>?_,fun u hu=>?_,fun u hu x hx=>?_,?_⟩,fun u hu=>⟨by rw [(hoth u hu).1],by unfold wkC;rw [(hoth u hu).1,(hoth u hu).2],by rw [(hoth u hu).1];exact id⟩,hmono,hl⟩
 ·by_cases c:u=t
  ·rw [c];exact hS
  ·rw [(hoth u c).1,(hoth u c).2];exact H.sl u hu
 ·rw [hslp]at hx
  obtain ⟨h1,u,h2,h3,h4⟩:=H.slp x hx
  have hne:u≠t:=fun z=>by rw [z,hst]at h4;exact absurd h4 (by decide)
  exact ⟨h1,u,h2,h3,by rw [(hoth u hne).1];exact h4⟩
 ·rw [hslp]
  rw [(hoth u (ne1 u q)).1]at q
  exact H.in_ u hu q
 ·rw [e]
  refine H.G.imp id (fun h u hu=>?_)
  by_cases c:u=t
  ·rw [c];have :=h t ht;omega
  ·rw [(hoth u c).1];exact h u hu
 ·rw [e]
  rw [(hoth u (ne1 u q)).1]at q
  exact H.aw u hu q
 ·rw [hev]at hx
  rcases List.mem_append.1 hx with z|z
  ·exact H.evw x z
  ·intro _;rw [hw x z];omega
 ·rw [hev]
  by_cases c:u=t
  ·rw [c];exact hc
  ·rw [cntE_no (fun x hx=>evn_other (hw x hx) c),(hoth u c).1];exact H.evc u hu
 ·rw [hev]at hx
  intro h7 hwho hodd
  rcases List.mem_append.1 hx with z|z
  ·have :=H.evo u hu x z h7 hwho hodd
   by_cases c:u=t
   ·rw [c]at this⊢;omega
   ·rw [(hoth u c).1];exact this
  ·have :u=t:=by rw [hw x z]at hwho;omega
   rw [this];exact ho x z h7 hodd
 ·rw [hev,cntE_no (fun x hx=>evn_other (hw x hx) hn),e];exact H.evb
theorem ConI.mb (H:ConI n v) {l:List Evt} (hoth: ∀u,u≠n->v'.th u=v.th u/\v'.bf u=v.bf u) (hm: ∀a,a≠16->v'.mem a=v.mem a) (hm16:v'.mem 16=if (v'.th n).pc<=2 then 0 else 1) (hslp:v'.slp=v.slp) (hB:BrA (v'.th n) (v'.bf n)) (hmono:(v.th n).pc<=(v'.th n).pc)
 (hG: ∀t,t<n->2<=(v.th t).pc) (haw:(v'.th n).pc<=4∨v.slp=[]) (hev:v'.evs=v.evs++l) (hw: ∀x∈l,x.who=(n:Int)) (hc:cntE (isEvn n) (v.evs++l)=if 1<=(v'.th n).pc then 1 else 0) (hl:wkC n v' n<wkC n v n):ConN n v v' n:=by
 have ne: ∀u,u<n->u≠n:=fun u hu=>by omega
 refine ⟨⟨H.n3,fun u hu=>by rw [(hoth u (ne u hu)).1,(hoth u (ne u hu)).2];exact H.sl u hu,hB,hm16,fun u hu=>by rw [hm _ (by omega)];exact H.own u hu,fun x hx=>?_,fun u hu q=>?_,.inr (fun u hu=>by rw [(hoth u (ne u hu)).1];exact hG u hu),fun u hu q=>?_,fun x hx=>?_,fun u hu=>?_,fun u hu x hx=>?_,by rw [hev];exact hc⟩,fun u hu=>⟨by rw [(hoth u hu).1],by unfold wkC;rw [(hoth u hu).1,(hoth u hu).2],by rw [(hoth u hu).1];exact id⟩,hmono,hl⟩
 ·rw [hslp]at hx
  obtain ⟨h1,u,h2,h3,h4⟩:=H.slp x hx
  exact ⟨h1,u,h2,h3,by rw [(hoth u (ne u h2)).1];exact h4⟩
 ·rw [hslp]
  rw [(hoth u (ne u hu)).1]at q
  exact H.in_ u hu q
 ·rw [(hoth u (ne u hu)).1]at q
  rcases haw with z|z
  ·exact z
  ·have :=H.in_ u hu q
   rw [z]at this
   cases this
 ·rw [hev]at hx
  rcases List.mem_append.1 hx with z|z
  ·exact H.evw x z
  ·intro _;rw [hw x z];omega
 ·rw [hev,cntE_no (fun x hx=>evn_other (hw x hx) (ne u hu)),(hoth u (ne u hu)).1];exact H.evc u hu
 ·rw [hev]at hx
  intro h7 hwho hodd
  rw [(hoth u (ne u hu)).1]
  rcases List.mem_append.1 hx with z|z
  ·exact H.evo u hu x z h7 hwho hodd
  ·rw [hw x z]at hwho;omega
theorem begS_at {th:Th} {o:Nat} (h:th.pc=(o:Int)):begS th=(if 1<=o then 1 else 0)+(if 6<=o then 1 else 0):=by
 unfold begS
 rw [h]
 congr 1
 ·by_cases c:1<=o
  ·rw [if_pos c,if_pos (by omega)]
  ·rw [if_neg c,if_neg (by omega)]
 ·by_cases c:6<=o
  ·rw [if_pos c,if_pos (by omega)]
  ·rw [if_neg c,if_neg (by omega)]
theorem wkC_at {o:Nat} (ht:t<n) (h:(v.th t).pc=(o:Int)):wkC n v t=(10-o)+(if o<=2 then 1 else 0)+nd (v.th t)+(v.bf t).length:=by
 unfold wkC
 rw [if_pos ht,h,Int.toNat_natCast]
 congr 3
 by_cases c:o<=2
 ·rw [if_pos c,if_pos (by omega)]
 ·rw [if_neg c,if_neg (by omega)]
theorem wkC_b {o:Nat} (h:(v.th n).pc=(o:Int)):wkC n v n=(7-o)+nd (v.th n):=by
 unfold wkC
 rw [if_neg (by omega),h,Int.toNat_natCast]
theorem con_mv (H:ConI n v) (ht:t<n) {o:Nat} {r r':Nat->Int} {b':List Ent} {l:List Evt} (hp:v.th t=⟨(o:Int),r,0⟩) (ho:o<10) (hS:SlA t ⟨((o+1:Nat):Int),r',0⟩ b') (hw: ∀x∈l,x.who=(t:Int)) (hb:b'.length<=(v.bf t).length+(if o=2 then 1 else 0))
 (hl:(o≠0/\o≠5/\(∀x∈l,isEvn t x=false)/\(∀x∈l,x.kind=7->x.k % 2=1->4<=o))∨((o=0∨o=5)/\ ∃x,l=[x]/\isEvn t x=true/\x.k % 2=0)):ConN n v (v.mv t ⟨((o+1:Nat):Int),r',0⟩ b' v.mem l) t:=by
 have e1:(v.mv t ⟨((o+1:Nat):Int),r',0⟩ b' v.mem l).th t=⟨((o+1:Nat):Int),r',0⟩:=upd_same _ _ _
 have e2:(v.mv t ⟨((o+1:Nat):Int),r',0⟩ b' v.mem l).bf t=b':=upd_same _ _ _
 refine H.mv ht (fun u hu=>⟨upd_ne _ _ _ hu,upd_ne _ _ _ hu⟩) (fun _=>rfl) rfl (by rw [hp]) (by rw [e1];show (0:Int)≠1;decide) (by rw [e1,e2];exact hS) (by rw [e1,hp];show (o:Int)<=((o+1:Nat):Int);omega) rfl hw ?_ (fun x hx h7 hk=>?_) ?_
 ·rw [e1,begS_at (th:=⟨((o+1:Nat):Int),r',0⟩) rfl]
  have hc:=H.evc t ht
  rw [begS_at (show (v.th t).pc=(o:Int) by rw [hp])]at hc
  rcases hl with ⟨h0,h5,hx,_⟩|⟨h0,x,rfl,hx,_⟩
  ·rw [cntE_no hx,hc]
   congr 1
   ·by_cases c:1<=o
    ·rw [if_pos c,if_pos (by omega)]
    ·omega
   ·by_cases c:6<=o
    ·rw [if_pos c,if_pos (by omega)]
    ·rw [if_neg c,if_neg (by omega)]
  ·rw [cntE_snoc,hc,if_pos hx]
   rcases h0 with rfl|rfl<;>rfl
 ·rw [e1]
  show (5:Int)<=((o+1:Nat):Int)
  rcases hl with ⟨_,_,_,h4⟩|⟨h0,y,rfl,_,hy⟩
  ·have :=h4 x hx h7 hk;omega
  ·rw [List.mem_singleton.1 hx]at hk;omega
 ·rw [wkC_at ht (o:=o+1) (by rw [e1]),wkC_at ht (o:=o) (by rw [hp]),e1,e2,hp]
  have n1:nd ⟨((o+1:Nat):Int),r',0⟩=1:=rfl
  have n2:nd ⟨(o:Int),r,0⟩=1:=rfl
  rw [n1,n2]
  by_cases c:o=2
  ·subst c
   rw [if_pos rfl]at hb
   rw [if_neg (by decide),if_pos (by decide)]
   omega
  ·rw [if_neg c]at hb
   by_cases d:o<=2
   ·rw [if_pos (show o+1<=2 by omega),if_pos d];omega
   ·rw [if_neg (show¬o+1<=2 by omega),if_neg d];omega
theorem con_mb (H:ConI n v) {o:Nat} {r r':Nat->Int} {mem:Nat->Int} {l:List Evt} (hp:v.th n=⟨(o:Int),r,0⟩) (hbf:v.bf n=[]) (ho:o<7) (hB:BrA ⟨((o+1:Nat):Int),r',0⟩ []) (hm: ∀a,a≠16->mem a=v.mem a) (hm16:mem 16=if ((o+1:Nat):Int)<=2 then 0 else 1) (hG: ∀t,t<n->2<=(v.th t).pc) (haw:o<4∨v.slp=[]) (hw: ∀x∈l,x.who=(n:Int))
 (hl:(o≠0/\ ∀x∈l,isEvn n x=false)∨(o=0/\ ∃x,l=[x]/\isEvn n x=true)):ConN n v (v.mv n ⟨((o+1:Nat):Int),r',0⟩ (v.bf n) mem l) n:=by
 have e1:(v.mv n ⟨((o+1:Nat):Int),r',0⟩ (v.bf n) mem l).th n=⟨((o+1:Nat):Int),r',0⟩:=upd_same _ _ _
 have e2:(v.mv n ⟨((o+1:Nat):Int),r',0⟩ (v.bf n) mem l).bf n=v.bf n:=upd_same _ _ _
 refine H.mb (fun u hu=>⟨upd_ne _ _ _ hu,upd_ne _ _ _ hu⟩) hm (by rw [e1];exact hm16) rfl (by rw [e1,e2,hbf];exact hB) (by rw [e1,hp];show (o:Int)<=((o+1:Nat):Int);omega) hG (by rw [e1];exact haw.imp (fun q=>by show ((o+1:Nat):Int)<=4;omega) id) rfl hw ?_ ?_
 ·rw [e1]
  have hc:=H.evb
  rw [hp]at hc
  rw [if_pos (show (1:Int)<=((o+1:Nat):Int) by omega)]
  rcases hl with ⟨h0,hx⟩|⟨rfl,x,rfl,hx⟩
  ·rw [cntE_no hx,hc,if_pos (show (1:Int)<=(o:Int) by omega)]
  ·rw [cntE_snoc,hc,if_pos hx];rfl
 ·rw [wkC_b (o:=o+1) (by rw [e1]),wkC_b (o:=o) (by rw [hp]),e1,hp]
  have n1:nd ⟨((o+1:Nat):Int),r',0⟩=1:=rfl
  have n2:nd ⟨(o:Int),r,0⟩=1:=rfl
  rw [n1,n2];omega
theorem seeV_one {a x:Nat} {w:Int} {m:Nat->Int}:seeV [((a:Int),w)] m x=if a=x then w else m x:=by
 unfold seeV fnB
 by_cases c:a=x
 ·subst c;simp [fnB]
 ·have : ¬((a:Int)=(x:Int)):=by omega
  simp [fnB,c,this]
theorem con_sl (H:ConI n v) (ht:t<n) {o:Nat} {r:Nat->Int} (ho:o<10) (hp:v.th t=⟨(o:Int),r,0⟩): ∃op,(condL t)[o]?=some op/\((op.drains=true->v.bf t=[])->ConN n v (execV t v o r op) t):=by
 obtain ⟨o1,p1,p2,p3,p4,p5,p6⟩:=H.sl t ht
 have :o1=o:=by rw [hp]at p1;have p1':(o:Int)=(o1:Int):=p1;omega
 subst this
 rw [hp]at p5 p6
 have n0: ∀x∈([]:List Evt),x.who=(t:Int):=fun x hx=>by cases hx
 have n1: ∀{y:Evt},y.who=(t:Int)-> ∀x∈[y],x.who=(t:Int):=fun h x hx=>by rw [List.mem_singleton.1 hx];exact h
 have z0: ∀x∈([]:List Evt),isEvn t x=false:=fun x hx=>by cases hx
 have z1: ∀{y:Evt},isEvn t y=false-> ∀x∈[y],isEvn t x=false:=fun h x hx=>by rw [List.mem_singleton.1 hx];exact h
 have y0: ∀x∈([]:List Evt),x.kind=7->x.k % 2=1->4<=o1:=fun x hx=>by cases hx
 have y1: ∀y:Evt,y.kind≠7-> ∀x∈[y],x.kind=7->x.k % 2=1->4<=o1:=fun y h x hx h7=>by rw [List.mem_singleton.1 hx]at h7;exact absurd h7 h
 have buf:3<=o1->o1<=6->(v.bf t=[]∨(3<=o1+1/\o1+1<=7/\v.bf t=[(((17+t:Nat):Int),0)])):=fun h3 h7=>p3.imp id (fun q=>⟨by omega,by omega,q.2.2⟩)
 match o1,ho,hp,p3,p5,p6,buf,y0,y1 with
 |0,_,hp,p3,p5,p6,buf,y0,y1=>
  have hb:v.bf t=[]:=p3.resolve_right (fun q=>by omega)
  refine ⟨_,rfl,fun _=>con_mv H ht hp (by decide) ⟨1,rfl,by decide,.inl hb,.inl rfl,fun q=>absurd q (by decide),fun q=>absurd q (by decide)⟩ (n1 rfl) (by omega) (.inr ⟨.inl rfl,_,rfl,?_,by show ((10:Nat):Int)% 2=0;decide⟩)⟩
  unfold isEvn;simp
 |1,_,hp,p3,p5,p6,buf,y0,y1=>
  have hb:v.bf t=[]:=p3.resolve_right (fun q=>by omega)
  have hn0:(v.th n).pc=0:=by
   rcases H.G with q|q
   ·exact q
   ·have h2:=q t ht;rw [hp]at h2;have h3:(2:Int)<=((1:Nat):Int):=h2;omega
  have h16:v.mem 16=0:=by rw [H.m16,hn0];rfl
  exact ⟨_,rfl,fun _=>con_mv H ht hp (by decide) ⟨2,rfl,by decide,.inl hb,.inl rfl,fun _=>by show updR r 4 _ 4=0;rw [updR_at,hb,seeV_nil];exact h16,fun q=>absurd q (by decide)⟩ (n1 rfl) (by omega) (.inl ⟨by decide,by decide,z1 (by unfold isEvn;rfl),y1 _ (by show (1:Int)≠7;decide)⟩)⟩
 |2,_,hp,p3,p5,p6,buf,y0,y1=>
  have hb:v.bf t=[]:=p3.resolve_right (fun q=>by omega)
  have h4:r 4=0:=p5 rfl
  exact ⟨_,rfl,fun _=>con_mv H ht hp (by decide) ⟨3,rfl,by decide,.inr ⟨by decide,by decide,by rw [hb,h4];rfl⟩,.inl rfl,fun q=>absurd q (by decide),fun q=>absurd q (by decide)⟩ (n1 rfl) (by rw [List.length_append];show _+1<=_+1;omega) (.inl ⟨by decide,by decide,z1 (by unfold isEvn;rfl),y1 _ (by show (2:Int)≠7;decide)⟩)⟩
 |3,_,hp,p3,p5,p6,buf,y0,y1=>
  exact ⟨_,rfl,fun _=>con_mv H ht hp (by decide) ⟨4,rfl,by decide,buf (by decide) (by decide),.inl rfl,fun q=>absurd q (by decide),fun q=>absurd q (by decide)⟩ n0 (by omega) (.inl ⟨by decide,by decide,z0,y0⟩)⟩
 |4,_,hp,p3,p5,p6,buf,y0,y1=>
  exact ⟨_,rfl,fun _=>con_mv H ht hp (by decide) ⟨5,rfl,by decide,buf (by decide) (by decide),.inl rfl,fun q=>absurd q (by decide),fun q=>absurd q (by decide)⟩ (n1 rfl) (by omega) (.inl ⟨by decide,by decide,z1 (by unfold isEvn;rfl),fun x hx _ _=>by decide⟩)⟩
 |5,_,hp,p3,p5,p6,buf,y0,y1=>
  refine ⟨_,rfl,fun _=>con_mv H ht hp (by decide) ⟨6,rfl,by decide,buf (by decide) (by decide),.inl rfl,fun q=>absurd q (by decide),fun q=>absurd q (by decide)⟩ (n1 rfl) (by omega) (.inr ⟨.inr rfl,_,rfl,?_,by show ((12:Nat):Int)% 2=0;decide⟩)⟩
  unfold isEvn;simp
 |6,_,hp,p3,p5,p6,buf,y0,y1=>
  refine ⟨_,rfl,fun _=>con_mv H ht hp (by decide) ⟨7,rfl,by decide,buf (by decide) (by decide),.inl rfl,fun q=>absurd q (by decide),fun _=>?_⟩ (n1 rfl) (by omega) (.inl ⟨by decide,by decide,z1 (by unfold isEvn;rfl),y1 _ (by show (1:Int)≠7;decide)⟩)⟩
  have hs:seeV (v.bf t) v.mem (17+t)=0:=by
   rcases p3 with q|⟨_,_,q⟩
   ·rw [q,seeV_nil];exact H.own t ht
   ·rw [q,seeV_one,if_pos rfl]
  show updR r 4 (seeV (v.bf t) v.mem (17+t)) 4=0
  rw [hs];exact updR_at _ _ _
 |7,_,hp,p3,p5,p6,buf,y0,y1=>
  refine ⟨_,rfl,fun hd=>?_⟩
  have hb:=hd rfl
  have h4:r 4=0:=p6 rfl
  by_cases c:v.mem 16=r 4
  ·have hn2:(v.th n).pc<=2:=by
    rcases Int.lt_or_le 2 (v.th n).pc with q|q
    ·have :=H.m16;rw [c,h4,if_neg (by omega)]at this;omega
    ·exact q
   have e:execV t v 7 r (.wait 4 16)={v.mv t ⟨((8:Nat):Int),updR r 4 0,1⟩ (v.bf t) v.mem [⟨8,(t:Int),((7:Nat):Int),((16:Nat):Int),v.mem 16,0,0,true⟩]with slp:=if slpE v.slp (t:Int)=0 then v.slp++[((t:Int),((16:Nat):Int))]else v.slp}:=if_pos c
   have hE:slpE v.slp (t:Int)=0:=by
    have hN8:=H.n3.2
    unfold slpE
    rw [if_neg (by omega),if_neg (fun q=>?_)]
    obtain ⟨i,hi⟩: ∃i,fnd v.slp (t:Int)=i:=⟨_,rfl⟩
    rw [hi]at q
    have hfi:(v.slp[i].1==(t:Int))=true:=by
     unfold fnd at hi
     have :=List.findIdx_getElem (p:=fun x:Slp=>x.1==(t:Int)) (xs:=v.slp) (w:=by rw [hi];exact q)
     simpa [hi]using this
    obtain ⟨_,u,u1,u2,u3⟩:=H.slp _ (List.getElem_mem q)
    have :u=t:=by rw [u2]at hfi;simp at hfi;omega
    rw [this,hp]at u3
    exact absurd u3 (by show¬(0:Int)=1;decide)
   rw [if_pos hE]at e
   obtain ⟨w,hwe⟩: ∃w,execV t v 7 r (.wait 4 16)=w:=⟨_,rfl⟩
   have e1:w.th t=⟨((8:Nat):Int),updR r 4 0,1⟩:=by rw [<-hwe,e];exact upd_same _ _ _
   have e2: ∀u,u≠t->w.th u=v.th u/\w.bf u=v.bf u:=fun u hu=>by rw [<-hwe,e];exact ⟨upd_ne _ _ _ hu,upd_ne _ _ _ hu⟩
   have e3:w.bf t=v.bf t:=by rw [<-hwe,e];exact upd_same _ _ _
   have e4:w.slp=v.slp++[((t:Int),(16:Int))]:=by rw [<-hwe,e];rfl
   have e5:w.mem=v.mem:=by rw [<-hwe,e];rfl
   have e6:w.evs=v.evs++[⟨8,(t:Int),((7:Nat):Int),((16:Nat):Int),v.mem 16,0,0,true⟩]:=by rw [<-hwe,e];rfl
   rw [hwe]
   have hn:n≠t:=by omega
   have en:=(e2 n hn).1
   refine ⟨⟨H.n3,fun u hu=>?_,by rw [en,(e2 n hn).2];exact H.br,by rw [e5,en];exact H.m16,fun u hu=>by rw [e5];exact H.own u hu,fun x hx=>?_,fun u hu q=>?_,?_,fun u hu q=>by rw [en];omega,fun x hx=>?_,fun u hu=>?_,fun u hu x hx=>?_,?_⟩,fun u hu=>⟨by rw [(e2 u hu).1],by unfold wkC;rw [(e2 u hu).1,(e2 u hu).2],by rw [(e2 u hu).1];exact id⟩,by rw [e1,hp];show ((7:Nat):Int)<=((8:Nat):Int);decide,?_⟩
   ·by_cases c:u=t
    ·subst c
     rw [e1,e3,hb]
     exact ⟨8,rfl,by decide,.inl rfl,.inr (.inl ⟨rfl,rfl⟩),fun q=>absurd q (by decide),fun q=>absurd q (by decide)⟩
    ·rw [(e2 u c).1,(e2 u c).2];exact H.sl u hu
   ·rw [e4]at hx
    rcases List.mem_append.1 hx with hx|hx
    ·obtain ⟨h1,u,h2,h3,h6⟩:=H.slp x hx
     have hne:u≠t:=fun z=>by rw [z,hp]at h6;exact absurd h6 (by show¬(0:Int)=1;decide)
     exact ⟨h1,u,h2,h3,by rw [(e2 u hne).1];exact h6⟩
    ·rw [List.mem_singleton.1 hx]
     exact ⟨rfl,t,ht,rfl,by rw [e1]⟩
   ·rw [e4]
    by_cases z:u=t
    ·subst z;simp
    ·rw [(e2 u z).1]at q
     exact List.mem_append_left _ (H.in_ u hu q)
   ·rw [en]
    refine H.G.imp id (fun h u hu=>?_)
    by_cases c:u=t
    ·rw [c,e1];show (2:Int)<=((8:Nat):Int);decide
    ·rw [(e2 u c).1];exact h u hu
   ·rw [e6]at hx
    rcases List.mem_append.1 hx with z|z
    ·exact H.evw x z
    ·intro h7;rw [List.mem_singleton.1 z]at h7;exact absurd h7 (by show (8:Int)≠7;decide)
   ·rw [e6,cntE_no (fun x hx=>by rw [List.mem_singleton.1 hx];unfold isEvn;rfl)]
    by_cases c:u=t
    ·subst c
     rw [e1,H.evc u hu,begS_at (show (v.th u).pc=((7:Nat):Int) by rw [hp]),begS_at (th:=⟨((8:Nat):Int),updR r 4 0,1⟩) rfl];rfl
    ·rw [(e2 u c).1];exact H.evc u hu
   ·rw [e6]at hx
    intro h7 hwho hodd
    rcases List.mem_append.1 hx with z|z
    ·have :=H.evo u hu x z h7 hwho hodd
     by_cases c:u=t
     ·rw [c,e1];show (5:Int)<=((8:Nat):Int);decide
     ·rw [(e2 u c).1];exact this
    ·rw [List.mem_singleton.1 z]at h7;exact absurd h7 (by show (8:Int)≠7;decide)
   ·rw [e6,cntE_no (fun x hx=>by rw [List.mem_singleton.1 hx];unfold isEvn;rfl),en];exact H.evb
   ·rw [wkC_at ht (o:=8) (by rw [e1]),wkC_at ht (o:=7) (by rw [hp]),e1,e3,hp]
    show (10-8)+0+1+_<(10-7)+0+1+_
    omega
  ·have e:execV t v 7 r (.wait 4 16)=v.mv t ⟨((7+1:Nat):Int),updR r 4 1,0⟩ (v.bf t) v.mem [⟨8,(t:Int),((7:Nat):Int),((16:Nat):Int),v.mem 16,0,0,false⟩]:=if_neg c
   rw [e]
   exact con_mv H ht hp (by decide) ⟨8,rfl,by decide,.inl hb,.inl rfl,fun q=>absurd q (by decide),fun q=>absurd q (by decide)⟩ (n1 rfl) (by omega) (.inl ⟨by decide,by decide,z1 (by unfold isEvn;rfl),y1 _ (by show (8:Int)≠7;decide)⟩)
 |8,_,hp,p3,p5,p6,buf,y0,y1=>
  have hb:v.bf t=[]:=p3.resolve_right (fun q=>by omega)
  exact ⟨_,rfl,fun _=>con_mv H ht hp (by decide) ⟨9,rfl,by decide,.inl hb,.inl rfl,fun q=>absurd q (by decide),fun q=>absurd q (by decide)⟩ n0 (by omega) (.inl ⟨by decide,by decide,z0,y0⟩)⟩
 |9,_,hp,p3,p5,p6,buf,y0,y1=>
  have hb:v.bf t=[]:=p3.resolve_right (fun q=>by omega)
  exact ⟨_,rfl,fun _=>con_mv H ht hp (by decide) ⟨10,rfl,by decide,.inl hb,.inl rfl,fun q=>absurd q (by decide),fun q=>absurd q (by decide)⟩ (n1 rfl) (by omega) (.inl ⟨by decide,by decide,z1 (by unfold isEvn;rfl),fun x hx _ _=>by decide⟩)⟩
 |o+10,ho,_,_,_,_,_,_,_=>exact absurd ho (by omega)
end
def mkK (S:Nat->Bool) (c:Option Nat) (k:Nat):Option Nat:=match c with
 |none=>none
 |some 0=>if k % 2=0/\S (k/2)=true then some (k/2+1)else none
 |some (s+1)=>if k=2*s+1 then some 0 else none
def opK (S:Nat->Bool) (c:Option Nat):Op->Option Nat
 | .mark k=>mkK S c k
 |_=>c
def icA (S:Nat->Bool) (l:List Op):Option Nat:=l.foldl (opK S) (some 0)
def ic (S:Nat->Bool) (l:List Op) (p:Nat):Option Nat:=icA S (l.take p)
structure Flat (B:MB) (t:Nat) (l:List Op):Prop where
 len:(B.codes.getD t cdd).len=l.length
 F: ∀(p:Nat) (op:Op),l[p]?=some op->(B.codes.getD t cdd).F p=op.ins
 ok: ∀op∈l,rightB op.ins (B.codes.getD t cdd).len=true/\ ∀x,op.word=some x->x<B.m
theorem Flat.at_ {B:MB} {s:Mst} {t:Nat} {l:List Op} (h:Flat B t l) (hw:Wf B s) (ht:t<B.codes.length) {p:Nat} {r:Nat->Int} {op:Op} (hop:l[p]?=some op) (hth:thM s t=⟨((p:Nat):Int),r,0⟩):At B s t p r op:=by
 obtain ⟨h1,h2⟩:=List.getElem?_eq_some_iff.1 hop
 have hm:op∈l:=by rw [<-h2];exact List.getElem_mem h1
 exact ⟨hth,by rw [h.len];exact h1,h.F p op hop,(h.ok op hm).1,hw.th ht,hw.bf ht,hw.m,(h.ok op hm).2,hw.room,fun b hb e he=>(hw.ok.ok.buf b hb e he).1,fun x hx=>hw.ok.ok.slp.lo x hx⟩
section
variable {B:MB} {s:Mst} {n:Nat} {S:Nat->Nat->Bool} {L:Nat->List Op} {v v':Vw}
end
theorem doneM_of {s:Mst} (h: ∀t,t<s.ths.length->(thM s t).st=2/\bufM s t=[]):doneM s=true:=doneM_yes fun t ht=>by
 obtain ⟨h1,h2⟩:=h t ht
 have h1':(s.ths.getD t tha).st=2:=h1
 have h2':s.bufs.getD t []=[]:=h2
 unfold doneT
 rw [h1',h2']
 rfl
end Go.Proofs.YtmhfpjnkjlhbpaaGreatDoor
