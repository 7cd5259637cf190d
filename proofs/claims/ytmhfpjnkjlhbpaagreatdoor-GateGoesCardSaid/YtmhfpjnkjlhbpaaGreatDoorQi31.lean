/- barrier (plain): the code of a thread that enters; what holds whatever the turns. -/
import Derived.Test.YtmhfpjnkjlhbpaaGreatDoorQi30
namespace Go.Proofs.YtmhfpjnkjlhbpaaGreatDoor
open Go.ChangeShapes Go.WideShapes Go.ChangeAt Go.RowKit Go.Deep
set_option linter.unusedVariables false
set_option maxRecDepth 100000
set_option linter.unusedSimpArgs false
def sumT (W:Nat) (f:Nat->Nat):Nat:=((List.range W).map f).sum
theorem sumT_succ (W:Nat) (f:Nat->Nat):sumT (W+1) f=sumT W f+f W:=by unfold sumT;rw [List.range_succ,List.map_append,List.sum_append];simp
theorem sumT_congr {W:Nat} {f g:Nat->Nat} (h: ∀t,t<W->f t=g t):sumT W f=sumT W g:=by
 induction W with
 |zero=>rfl
 |succ W ih=>rw [sumT_succ,sumT_succ,ih (fun t ht=>h t (by omega)),h W (by omega)]
theorem sumT_upd {W t:Nat} {f g:Nat->Nat} (ht:t<W) (h: ∀u,u<W->u≠t->g u=f u):sumT W g+f t=sumT W f+g t:=by
 induction W with
 |zero=>omega
 |succ W ih=>
  rw [sumT_succ,sumT_succ]
  by_cases c:t=W
  ·subst c
   have :sumT t g=sumT t f:=sumT_congr (fun u hu=>h u (by omega) (by omega))
   omega
  ·have :=ih (by omega) (fun u hu=>h u (by omega))
   have :=h W (by omega) (fun e=>c e.symm)
   omega
theorem sumT_le {W:Nat} {f:Nat->Nat} {k:Nat} (h: ∀t,t<W->f t<=k):sumT W f<=W*k:=by
 induction W with
 |zero=>simp [sumT]
 |succ W ih=>
  rw [sumT_succ,Nat.add_mul]
  have :=ih (fun t ht=>h t (by omega))
  have :=h W (by omega)
  omega
theorem sumT_full {W:Nat} {f:Nat->Nat} (h: ∀t,t<W->f t<=1) (hs:sumT W f=W): ∀t,t<W->f t=1:=by
 induction W with
 |zero=>exact fun t ht=>absurd ht (by omega)
 |succ W ih=>
  rw [sumT_succ]at hs
  have h1:=sumT_le (W:=W) (f:=f) (k:=1) (fun t ht=>h t (by omega))
  have h2:=h W (by omega)
  intro t ht
  rcases Nat.lt_or_ge t W with c|c
  ·exact ih (fun t ht=>h t (by omega)) (by omega) t c
  ·have :t=W:=by omega
   subst this;omega
def barL (N:Nat) (q:Nat):List Op:=[.mark 18,.load 5 17,.set 4 1,.fetch 4 16,.set 6 ((N:Int)-1),.same 6 4 6,.zero 6 (q+14),.set 4 0,.store 4 16,.set 4 1,.fetch 4 17,.set 4 4294967295,.wake 4 17,.jump (q+20),.load 4 17,.same 6 4 5,.zero 6 (q+20),.move 4 5,.wait 4 17,.jump (q+14),.set 7 0,.mark 19]
theorem barL_len (N q:Nat):(barL N q).length=22:=rfl
def bA (N P:Nat) (la:Option Nat) (m:Int) (t k:Nat) (r:Nat->Int) (b:List Ent):Nat->Prop
 |0=>la≠some t/\b=[]/\P=k
 |1=>la≠some t/\b=[]/\P=k
 |2=>la≠some t/\b=[]/\P=k/\r 5=(k:Int)
 |3=>la≠some t/\b=[]/\P=k/\r 5=(k:Int)/\r 4=1
 |4=>(la≠some t/\b=[]/\(P=k∨P=k+1)/\r 5=(k:Int)/\r 4≠((N:Int)-1))∨(la=some t/\b=[]/\P=k/\m=(N:Int)/\r 4=((N:Int)-1))
 |5=>(la≠some t/\b=[]/\(P=k∨P=k+1)/\r 5=(k:Int)/\r 4≠((N:Int)-1)/\r 6=((N:Int)-1))∨(la=some t/\b=[]/\P=k/\m=(N:Int)/\r 4=((N:Int)-1)/\r 6=((N:Int)-1))
 |6=>(la≠some t/\b=[]/\(P=k∨P=k+1)/\r 5=(k:Int)/\r 6=0)∨(la=some t/\b=[]/\P=k/\m=(N:Int)/\r 6=1)
 |7=>la=some t/\b=[]/\P=k/\m=(N:Int)
 |8=>la=some t/\b=[]/\P=k/\m=(N:Int)/\r 4=0
 |9=>la=some t/\((b=[(16,0)]/\m=(N:Int))∨(b=[]/\m=0))/\P=k
 |10=>la=some t/\((b=[(16,0)]/\m=(N:Int))∨(b=[]/\m=0))/\P=k/\r 4=1
 |11=>la≠some t/\b=[]/\P=k+1
 |12=>la≠some t/\b=[]/\P=k+1
 |13=>la≠some t/\b=[]/\P=k+1
 |14=>la≠some t/\b=[]/\(P=k∨P=k+1)/\r 5=(k:Int)
 |15=>la≠some t/\b=[]/\(P=k∨P=k+1)/\r 5=(k:Int)/\(r 4≠(k:Int)->P=k+1)
 |16=>la≠some t/\b=[]/\(P=k∨P=k+1)/\r 5=(k:Int)/\(r 6=0->P=k+1)
 |17=>la≠some t/\b=[]/\(P=k∨P=k+1)/\r 5=(k:Int)
 |18=>la≠some t/\b=[]/\(P=k∨P=k+1)/\r 5=(k:Int)/\r 4=(k:Int)
 |19=>la≠some t/\b=[]/\(P=k∨P=k+1)/\r 5=(k:Int)
 |20=>la≠some t/\b=[]/\P=k+1
 |21=>la≠some t/\b=[]/\P=k+1/\r 7=0
 |_=>False
def BLoc (N rd P:Nat) (la:Option Nat) (m:Int) (t:Nat) (th:Th) (b:List Ent):Prop:=
 ∃k o,th.pc=((k*22+o:Nat):Int)/\((k<rd/\o<22/\(th.st=0∨th.st=1)/\bA N P la m t k th.regs b o)∨(k=rd/\o=0/\(th.st=0∨th.st=2)/\P=k/\la≠some t/\b=[]))
def arr (P:Nat) (th:Th):Nat:=if ((P*22+4:Nat):Int)<=th.pc/\th.pc<((P*22+22:Nat):Int)then 1 else 0
theorem arr_le (P:Nat) (th:Th):arr P th<=1:=by unfold arr;split<;>omega
theorem arrP_at {P k o:Nat} {th:Th} (h:th.pc=((k*22+o:Nat):Int)) (ho:o<22):arr P th=if k=P/\4<=o then 1 else 0:=by
 unfold arr
 rw [h]
 by_cases c:k=P/\4<=o
 ·rw [if_pos c,if_pos (by obtain ⟨rfl,h4⟩:=c;omega)]
 ·rw [if_neg c,if_neg (fun q=>c (by omega))]
def isMW (k:Int) (t:Nat) (x:Evt):Bool:=x.kind==7&&x.k==k&&x.who==(t:Int)
def knocks (th:Th):Nat:=(th.pc.toNat+21)/22
theorem knocks_at {k o:Nat} {th:Th} (h:th.pc=((k*22+o:Nat):Int)) (ho:o<22):knocks th=k+(if 1<=o then 1 else 0):=by
 unfold knocks
 rw [h,Int.toNat_natCast]
 split<;>omega
def okBr (N:Nat) (l:List Evt):Prop:= ∀(i:Nat) (x:Evt),l[i]?=some x->x.kind=7->0<=x.who/\x.who<(N:Int)/\(x.k=18∨x.k=19)/\(x.k=19->x.value=0/\ ∀u,u<N->cntE (isMW 18 x.who.toNat) (l.take i)<=cntE (isMW 18 u) (l.take i))
theorem okBr_snoc {N:Nat} {l:List Evt} (h:okBr N l) (x:Evt) (hx:x.kind=7->0<=x.who/\x.who<(N:Int)/\(x.k=18∨x.k=19)/\(x.k=19->x.value=0/\ ∀u,u<N->cntE (isMW 18 x.who.toNat) l<=cntE (isMW 18 u) l)):okBr N (l++[x]):=fun i y hy hk=>by
 rcases Nat.lt_or_ge i l.length with c|c
 ·rw [List.getElem?_append_left c]at hy
  rw [List.take_append_of_le_length (by omega)]
  exact h i y hy hk
 ·rw [List.getElem?_append_right c]at hy
  have hi:i-l.length=0:=by
   have :=(List.getElem?_eq_some_iff.1 hy).1
   simpa using this
  rw [hi]at hy
  obtain rfl:x=y:=by simpa using hy
  have e:i=l.length:=by omega
  rw [e,List.take_left' rfl]
  exact hx hk
def nuK (x:Evt):Prop:=x.kind≠7
theorem okBr_quiet {N:Nat} {l m:List Evt} (h:okBr N l) (hm: ∀x∈m,nuK x):okBr N (l++m):=by
 induction m generalizing l with
 |nil=>rw [List.append_nil];exact h
 |cons x m ih=>
  rw [show l++x::m=(l++[x])++m by simp]
  exact ih (okBr_snoc h x (fun q=>absurd q (hm x (by simp)))) (fun y hy=>hm y (by simp [hy]))
theorem isMW_no {k:Int} {t:Nat} {x:Evt} (h:nuK x):isMW k t x=false:=by unfold isMW;unfold nuK at h;simp [h]
structure BarI (nt N rd:Nat) (v:Vw) (P:Nat) (la:Option Nat):Prop where
 n1:1<=N/\N<=8/\N<=nt/\rd<=100
 hP:P<=rd
 m17:v.mem 17=(P:Int)
 loc: ∀t,t<N->BLoc N rd P la (v.mem 16) t (v.th t) (v.bf t)
 out: ∀t,N<=t->t<nt->(v.th t).pc=0/\((v.th t).st=0∨(v.th t).st=2)/\v.bf t=[]
 none_:la=none->v.mem 16=((sumT N fun t=>arr P (v.th t):Nat):Int)/\(sumT N fun t=>arr P (v.th t))<N
 some_: ∀u,la=some u->u<N/\ ∀t,t<N->arr P (v.th t)=1
 k18: ∀t,t<N->cntE (isMW 18 t) v.evs=knocks (v.th t)
 ev:okBr N v.evs
section
variable {nt N rd:Nat} {v:Vw} {P t:Nat} {la:Option Nat}
theorem bA_other {P:Nat} {la la':Option Nat} {m m':Int} {k:Nat} {r:Nat->Int} {b:List Ent} {o:Nat} (h:bA N P la m t k r b o) (hg:la≠some t) (hg':la'≠some t):bA N P la' m' t k r b o:=by
 unfold bA at h⊢
 split at h
 all_goals first
  |exact h.elim
  |exact ⟨hg',h.2⟩
  |exact absurd h.1 hg
  |exact .inl (h.elim (fun q=>⟨hg',q.2⟩) (fun q=>absurd q.1 hg))
theorem bA_bump {P:Nat} {la la':Option Nat} {m m':Int} {k:Nat} {r:Nat->Int} {b:List Ent} {o:Nat} (h:bA N P la m t k r b o) (hg:la≠some t) (hg':la'≠some t) (hk:k=P) (ho:4<=o):bA N (P+1) la' m' t k r b o:=by
 subst hk
 unfold bA at h⊢
 split at h
 all_goals first
  |exact h.elim
  |omega
  |exact absurd h.1 hg
  |(have :=h.2.2;omega)
  |(have :=h.2.2.1;omega)
  |exact ⟨hg',h.2.1,.inr rfl,h.2.2.2⟩
  |exact ⟨hg',h.2.1,.inr rfl,h.2.2.2.1,fun _=>rfl⟩
  |exact .inl (h.elim (fun q=>⟨hg',q.2.1,.inr rfl,q.2.2.2⟩) (fun q=>absurd q.1 hg))
theorem BLoc.other {la la':Option Nat} {m m':Int} {th:Th} {b:List Ent} (h:BLoc N rd P la m t th b) (hg:la≠some t) (hg':la'≠some t):BLoc N rd P la' m' t th b:=by
 obtain ⟨k,o,h1,h2⟩:=h
 exact ⟨k,o,h1,h2.imp (fun q=>⟨q.1,q.2.1,q.2.2.1,bA_other q.2.2.2 hg hg'⟩) (fun q=>⟨q.1,q.2.1,q.2.2.1,q.2.2.2.1,hg',q.2.2.2.2.2⟩)⟩
theorem BarI.move (H:BarI nt N rd v P la) (ht:t<N) {th:Th} {b:List Ent} {l:List Evt} (ha:arr P th=arr P (v.th t)) (hk: ∀u,u<N->cntE (isMW 18 u) (v.evs++l)=if u=t then knocks th else knocks (v.th u)) (he:okBr N (v.evs++l)) (hloc:BLoc N rd P la (v.mem 16) t th b):BarI nt N rd (v.mv t th b v.mem l) P la:=by
 have hs: ∀u,arr P (upd v.th t th u)=arr P (v.th u):=fun u=>by
  by_cases c:u=t
  ·subst c;rw [upd_same];exact ha
  ·rw [upd_ne _ _ _ c]
 refine ⟨H.n1,H.hP,H.m17,fun u hu=>?_,fun u h1 h2=>?_,fun h=>?_,fun u h=>⟨(H.some_ u h).1,fun w hw=>(hs w).trans ((H.some_ u h).2 w hw)⟩,fun u hu=>?_,he⟩
 ·by_cases c:u=t
  ·subst c
   show BLoc N rd P la (v.mem 16) u (upd v.th u th u) (upd v.bf u b u)
   rw [upd_same,upd_same];exact hloc
  ·show BLoc N rd P la (v.mem 16) u (upd v.th t th u) (upd v.bf t b u)
   rw [upd_ne _ _ _ c,upd_ne _ _ _ c];exact H.loc u hu
 ·show (upd v.th t th u).pc=0/\((upd v.th t th u).st=0∨(upd v.th t th u).st=2)/\upd v.bf t b u=[]
  rw [upd_ne _ _ _ (by omega),upd_ne _ _ _ (by omega)];exact H.out u h1 h2
 ·have e:(sumT N fun u=>arr P (upd v.th t th u))=sumT N fun u=>arr P (v.th u):=sumT_congr (fun u _=>hs u)
  show v.mem 16=((sumT N fun u=>arr P (upd v.th t th u):Nat):Int)/\(sumT N fun u=>arr P (upd v.th t th u))<N
  rw [e];exact H.none_ h
 ·show cntE (isMW 18 u) (v.evs++l)=knocks (upd v.th t th u)
  rw [hk u hu]
  by_cases c:u=t
  ·rw [if_pos c,c,upd_same]
  ·rw [if_neg c,upd_ne _ _ _ c]
theorem BarI.quiet (H:BarI nt N rd v P la) (ht:t<N) {th:Th} {b:List Ent} {l:List Evt} (hl: ∀x∈l,nuK x) {k o k' o':Nat} (hp:(v.th t).pc=((k*22+o:Nat):Int)) (ho:o<22) (hp':th.pc=((k'*22+o':Nat):Int)) (ho':o'<22) (hpos:(k'=k/\(4<=o↔4<=o')/\(1<=o↔1<=o'))) (hloc:BLoc N rd P la (v.mem 16) t th b):BarI nt N rd (v.mv t th b v.mem l) P la:=by
 obtain ⟨rfl,h4,h1⟩:=hpos
 have ek:knocks th=knocks (v.th t):=by rw [knocks_at hp ho,knocks_at hp' ho'];simp only [h1]
 refine H.move ht ?_ (fun u hu=>?_) (okBr_quiet H.ev hl) hloc
 ·rw [arrP_at hp ho,arrP_at hp' ho'];simp only [h4]
 ·rw [cntE_quiet (fun x hx=>isMW_no (hl x hx)),H.k18 u hu]
  split
  ·rename_i c;rw [c,ek]
  ·rfl
theorem BarI.slp (H:BarI nt N rd v P la) (l:List Slp):BarI nt N rd {v with slp:=l} P la:=⟨H.n1,H.hP,H.m17,H.loc,H.out,H.none_,H.some_,H.k18,H.ev⟩
theorem BLoc.run {m:Int} {th:Th} {b:List Ent} (h:BLoc N rd P la m t th b):BLoc N rd P la m t ⟨th.pc,th.regs,0⟩ b:=by
 obtain ⟨k,o,h1,h2⟩:=h
 exact ⟨k,o,h1,h2.imp (fun q=>⟨q.1,q.2.1,.inl rfl,q.2.2.2⟩) (fun q=>⟨q.1,q.2.1,.inl rfl,q.2.2.2⟩)⟩
theorem BarI.run (H:BarI nt N rd v P la) (ws:List Int):BarI nt N rd {v with th:=runV ws v.th} P la:=by
 have hpc: ∀u,(runV ws v.th u).pc=(v.th u).pc:=fun u=>by unfold runV;split<;>rfl
 have ha: ∀u,arr P (runV ws v.th u)=arr P (v.th u):=fun u=>by unfold arr;rw [hpc]
 have hk: ∀u,knocks (runV ws v.th u)=knocks (v.th u):=fun u=>by unfold knocks;rw [hpc]
 refine ⟨H.n1,H.hP,H.m17,fun u hu=>?_,fun u h1 h2=>?_,fun h=>?_,fun u h=>⟨(H.some_ u h).1,fun w hw=>(ha w).trans ((H.some_ u h).2 w hw)⟩,fun u hu=>(H.k18 u hu).trans (hk u).symm,H.ev⟩
 ·show BLoc N rd P la (v.mem 16) u (if (u:Int)∈ws then {v.th u with st:=0}else v.th u) (v.bf u)
  split
  ·exact (H.loc u hu).run
  ·exact H.loc u hu
 ·refine ⟨(hpc u).trans (H.out u h1 h2).1,?_,(H.out u h1 h2).2.2⟩
  show (runV ws v.th u).st=0∨(runV ws v.th u).st=2
  unfold runV
  split
  ·exact .inl rfl
  ·exact (H.out u h1 h2).2.1
 ·have e:(sumT N fun u=>arr P (runV ws v.th u))=sumT N fun u=>arr P (v.th u):=sumT_congr (fun u _=>ha u)
  show v.mem 16=((sumT N fun u=>arr P (runV ws v.th u):Nat):Int)/\(sumT N fun u=>arr P (runV ws v.th u))<N
  rw [e];exact H.none_ h
theorem BLoc.next {m:Int} {k:Nat} {th:Th} {b:List Ent} (hpc:th.pc=((k*22+22:Nat):Int)) (hn:k<rd) (hst:th.st=0) (hg:la≠some t) (hb:b=[]) (hP:P=k+1):BLoc N rd P la m t th b:=by
 refine ⟨k+1,0,by rw [hpc];omega,?_⟩
 rcases Nat.lt_or_ge (k+1) rd with c|c
 ·exact .inl ⟨c,by decide,.inl hst,hg,hb,hP⟩
 ·exact .inr ⟨by omega,rfl,.inl hst,hP,hg,hb⟩
theorem bA_k {m:Int} {k o:Nat} {r:Nat->Int} {b:List Ent} (h:bA N P la m t k r b o):P=k∨(P=k+1/\4<=o):=by
 unfold bA at h
 split at h
 all_goals first
  |exact h.elim
  |exact .inl h.2.2
  |exact .inl h.2.2.1
  |exact .inr ⟨h.2.2,by decide⟩
  |exact .inr ⟨h.2.2.1,by decide⟩
  |exact h.2.2.1.imp id (fun q=>⟨q,by decide⟩)
  |exact h.2.2.imp id (fun q=>⟨q,by decide⟩)
  |exact h.elim (fun q=>q.2.2.1.imp id (fun q=>⟨q,by decide⟩)) (fun q=> .inl q.2.2.1)
theorem BLoc.buf {m:Int} {th:Th} {b:List Ent} (h:BLoc N rd P la m t th b) (hb:b≠[]):la=some t/\b=[(16,0)]/\BLoc N rd P la 0 t th []:=by
 obtain ⟨k,o,hp,h|h⟩:=h
 ·have hA:=h.2.2.2
  have mk:bA N P la 0 t k th.regs [] o->BLoc N rd P la 0 t th []:=fun q=>⟨k,o,hp,.inl ⟨h.1,h.2.1,h.2.2.1,q⟩⟩
  unfold bA at hA mk
  split at hA
  all_goals first
   |exact hA.elim
   |exact absurd hA.2.1 hb
   |exact absurd hA.2 hb
   |exact hA.elim (fun q=>absurd q.2.1 hb) (fun q=>absurd q.2.1 hb)
   |exact ⟨hA.1,hA.2.1.elim (fun q=>q.1) (fun q=>absurd q.1 hb),mk ⟨hA.1,.inr ⟨rfl,rfl⟩,hA.2.2⟩⟩
 ·exact absurd h.2.2.2.2.2 hb
theorem BarI.flush (H:BarI nt N rd v P la) (ht:t<nt) (hb:v.bf t≠[]):BarI nt N rd (flushV t v) P la:=by
 have htN:t<N:=by
  rcases Nat.lt_or_ge t N with c|c
  ·exact c
  ·exact absurd (H.out t c ht).2.2 hb
 obtain ⟨h1,h2,h3⟩:=(H.loc t htN).buf hb
 unfold flushV
 rw [h2]
 have nu: ∀y∈[(⟨3,(t:Int),0,16,0,0,0,false⟩:Evt)],nuK y:=fun y hy=>by rw [List.mem_singleton.1 hy];exact (by decide:(3:Int)≠7)
 refine ⟨H.n1,H.hP,?_,fun u hu=>?_,fun u q1 q2=>?_,(fun q=>by rw [h1]at q;cases q),H.some_,fun u hu=>?_,okBr_quiet H.ev nu⟩
 ·show upd v.mem 16 0 17=_
  rw [upd_ne _ _ _ (by decide)];exact H.m17
 ·show BLoc N rd P la (upd v.mem 16 0 16) u (v.th u) (upd v.bf t [] u)
  rw [upd_same]
  by_cases c:u=t
  ·subst c;rw [upd_same];exact h3
  ·rw [upd_ne _ _ _ c]
   have hu':la≠some u:=by rw [h1];simp [Ne.symm c]
   exact (H.loc u hu).other hu' hu'
 ·refine ⟨(H.out u q1 q2).1,(H.out u q1 q2).2.1,?_⟩
  show upd v.bf t [] u=[]
  rw [upd_ne _ _ _ (by omega)];exact (H.out u q1 q2).2.2
 ·exact (cntE_quiet (fun y hy=>isMW_no (nu y hy))).trans (H.k18 u hu)
theorem BarI.outer (H:BarI nt N rd v P la) (ht:N<=t) {th:Th} {b:List Ent} {l:List Evt} (hp:th.pc=0) (hs:th.st=0∨th.st=2) (hb:b=[]) (hl: ∀x∈l,nuK x):BarI nt N rd (v.mv t th b v.mem l) P la:=by
 have hne: ∀u,u<N->u≠t:=fun u hu=>by omega
 have e:(sumT N fun u=>arr P (upd v.th t th u))=sumT N fun u=>arr P (v.th u):=sumT_congr (fun u hu=>by rw [upd_ne _ _ _ (hne u hu)])
 refine ⟨H.n1,H.hP,H.m17,fun u hu=>?_,fun u h1 h2=>?_,fun h=>?_,fun u h=>⟨(H.some_ u h).1,fun w hw=>?_⟩,fun u hu=>?_,okBr_quiet H.ev hl⟩
 ·show BLoc N rd P la (v.mem 16) u (upd v.th t th u) (upd v.bf t b u)
  rw [upd_ne _ _ _ (hne u hu),upd_ne _ _ _ (hne u hu)];exact H.loc u hu
 ·show (upd v.th t th u).pc=0/\((upd v.th t th u).st=0∨(upd v.th t th u).st=2)/\upd v.bf t b u=[]
  by_cases c:u=t
  ·subst c;rw [upd_same,upd_same];exact ⟨hp,hs,hb⟩
  ·rw [upd_ne _ _ _ c,upd_ne _ _ _ c];exact H.out u h1 h2
 ·show v.mem 16=((sumT N fun u=>arr P (upd v.th t th u):Nat):Int)/\(sumT N fun u=>arr P (upd v.th t th u))<N
  rw [e];exact H.none_ h
 ·show arr P (upd v.th t th w)=1
  rw [upd_ne _ _ _ (hne w hw)];exact (H.some_ u h).2 w hw
 ·show cntE (isMW 18 u) (v.evs++l)=knocks (upd v.th t th u)
  rw [cntE_quiet (fun x hx=>isMW_no (hl x hx)),upd_ne _ _ _ (hne u hu)];exact H.k18 u hu
theorem bar_0 (H:BarI nt N rd v P la) (ht:t<N) {k:Nat} {r:Nat->Int} (hn:k<rd) (hp:(v.th t).pc=((k*22+0:Nat):Int)) (hA:bA N P la (v.mem 16) t k r (v.bf t) 0): ∃P' la',BarI nt N rd (execV t v (k*22+0) r (.mark 18)) P' la':=by
 simp only [bA]at hA
 refine ⟨P,la,H.move ht ?_ (fun u hu=>?_) ?_ ⟨k,1,rfl,.inl ⟨hn,by decide,.inl rfl,hA⟩⟩⟩
 ·rw [arrP_at hp (by decide),arrP_at (k:=k) (o:=1) rfl (by decide)];simp
 ·rw [cntE_snoc,H.k18 u hu]
  by_cases c:u=t
  ·subst c
   rw [if_pos rfl,knocks_at hp (by decide),knocks_at (k:=k) (o:=1) rfl (by decide)]
   simp [isMW]
  ·rw [if_neg c]
   have :isMW 18 u ⟨7,(t:Int),((k*22+0:Nat):Int),0,r 7,0,((18:Nat):Int),false⟩=false:=by unfold isMW;simp;omega
   rw [this];simp
 ·exact okBr_snoc H.ev _ (fun _=>⟨Int.natCast_nonneg t,by show (t:Int)<(N:Int);omega,.inl rfl,fun q=>absurd q (show ((18:Nat):Int)≠19 by decide)⟩)
theorem bar_1 (H:BarI nt N rd v P la) (ht:t<N) {k:Nat} {r:Nat->Int} (hn:k<rd) (hp:(v.th t).pc=((k*22+1:Nat):Int)) (hA:bA N P la (v.mem 16) t k r (v.bf t) 1): ∃P' la',BarI nt N rd (execV t v (k*22+1) r (.load 5 17)) P' la':=by
 exact ⟨P,la,H.quiet ht (fun x hx=>(by rw [List.mem_singleton.1 hx];exact (by decide:(1:Int)≠7))) hp (by decide) (k':=k) (o':=2) rfl (by decide) ⟨rfl,by decide,by decide⟩ ⟨k,2,rfl,.inl ⟨hn,by decide,.inl rfl,by simp only [bA]at hA⊢;exact ⟨hA.1,hA.2.1,hA.2.2,by rw [updR_at,(show seeV (v.bf t) v.mem 17=(P:Int) from by rw [hA.2.1,seeV_nil];exact H.m17),hA.2.2]⟩⟩⟩⟩
theorem bar_2 (H:BarI nt N rd v P la) (ht:t<N) {k:Nat} {r:Nat->Int} (hn:k<rd) (hp:(v.th t).pc=((k*22+2:Nat):Int)) (hA:bA N P la (v.mem 16) t k r (v.bf t) 2): ∃P' la',BarI nt N rd (execV t v (k*22+2) r (.set 4 1)) P' la':=by
 exact ⟨P,la,H.quiet ht (fun x hx=>by cases hx) hp (by decide) (k':=k) (o':=3) rfl (by decide) ⟨rfl,by decide,by decide⟩ ⟨k,3,rfl,.inl ⟨hn,by decide,.inl rfl,by simp only [bA]at hA⊢;simp_all [updR]⟩⟩⟩
theorem bar_3 (H:BarI nt N rd v P la) (ht:t<N) {k:Nat} {r:Nat->Int} (hn:k<rd) (hp:(v.th t).pc=((k*22+3:Nat):Int)) (hd:v.bf t=[]) (hA:bA N P la (v.mem 16) t k r (v.bf t) 3): ∃P' la',BarI nt N rd (execV t v (k*22+3) r (.fetch 4 16)) P' la':=by
 simp only [bA]at hA
 obtain ⟨h1,h2,h3,h4,h5⟩:=hA
 have a0:arr P (v.th t)=0:=by rw [arrP_at hp (by decide)];simp
 have hl:la=none:=by
  cases la with
  |none=>rfl
  |some u=>have :=(H.some_ u rfl).2 t ht;omega
 subst hl
 obtain ⟨hm,hlt⟩:=H.none_ rfl
 have hN:=H.n1
 obtain ⟨c,hc⟩: ∃c,(sumT N fun u=>arr P (v.th u))=c:=⟨_,rfl⟩
 rw [hc]at hm hlt
 have hnew:(v.mem 16+r 4)% 4294967296=((c+1:Nat):Int):=by rw [hm,h5];omega
 have a1: ∀x,arr P ⟨((k*22+3+1:Nat):Int),x,0⟩=1:=fun x=>by rw [arrP_at (k:=k) (o:=4) rfl (by decide),if_pos ⟨h3.symm,by decide⟩]
 have hsum: ∀x,(sumT N fun u=>arr P (upd v.th t ⟨((k*22+3+1:Nat):Int),x,0⟩ u))=c+1:=fun x=>by
  have e:=sumT_upd (W:=N) (t:=t) (f:=fun u=>arr P (v.th u)) (g:=fun u=>arr P (upd v.th t ⟨((k*22+3+1:Nat):Int),x,0⟩ u)) ht (fun u _ hu=>by rw [upd_ne _ _ _ hu])
  rw [upd_same,a1,a0,hc]at e
  omega
 have hk18: ∀x,∀u,u<N->knocks (v.th u)=knocks (upd v.th t ⟨((k*22+3+1:Nat):Int),x,0⟩ u):=fun x u hu=>by
  by_cases q:u=t
  ·subst q;rw [upd_same,knocks_at hp (by decide),knocks_at (k:=k) (o:=4) rfl (by decide)];rfl
  ·rw [upd_ne _ _ _ q]
 dsimp only [execV]
 rw [hnew,hm]
 by_cases hc1:c+1=N
 ·refine ⟨P,some t,H.n1,H.hP,?_,fun u hu=>?_,fun u q1 q2=>?_,(fun q=>by cases q),fun u q=>⟨by rw [<-Option.some.inj q];exact ht,sumT_full (fun u _=>arr_le P _) ((hsum _).trans hc1)⟩,fun u hu=>?_,(okBr_quiet H.ev (fun x hx=>(by rw [List.mem_singleton.1 hx];exact (by decide:(4:Int)≠7))))⟩
  ·show upd v.mem 16 ((c+1:Nat):Int) 17=_;rw [upd_ne _ _ _ (by decide)];exact H.m17
  ·show BLoc N rd P (some t) (upd v.mem 16 ((c+1:Nat):Int) 16) u (upd v.th t _ u) (upd v.bf t _ u)
   by_cases q:u=t
   ·subst q;simp only [upd_same]
    refine ⟨k,4,rfl,.inl ⟨hn,by decide,.inl rfl,?_⟩⟩
    simp only [bA]
    exact .inr ⟨trivial,h2,h3,by omega,by rw [updR_at];omega⟩
   ·rw [upd_ne _ _ _ q,upd_ne _ _ _ q];exact (H.loc u hu).other (by simp) (by simp [Ne.symm q])
  ·show (upd v.th t _ u).pc=0/\((upd v.th t _ u).st=0∨(upd v.th t _ u).st=2)/\upd v.bf t _ u=[];rw [upd_ne _ _ _ (by omega),upd_ne _ _ _ (by omega)];exact H.out u q1 q2
  ·exact (cntE_quiet (fun x hx=>isMW_no (by rw [List.mem_singleton.1 hx];exact (by decide:(4:Int)≠7)))).trans ((H.k18 u hu).trans (hk18 _ u hu))
 ·refine ⟨P,none,H.n1,H.hP,?_,fun u hu=>?_,fun u q1 q2=>?_,fun _=>⟨?_,?_⟩,(fun u q=>by cases q),fun u hu=>?_,(okBr_quiet H.ev (fun x hx=>(by rw [List.mem_singleton.1 hx];exact (by decide:(4:Int)≠7))))⟩
  ·show upd v.mem 16 ((c+1:Nat):Int) 17=_;rw [upd_ne _ _ _ (by decide)];exact H.m17
  ·show BLoc N rd P none (upd v.mem 16 ((c+1:Nat):Int) 16) u (upd v.th t _ u) (upd v.bf t _ u)
   by_cases q:u=t
   ·subst q;simp only [upd_same]
    refine ⟨k,4,rfl,.inl ⟨hn,by decide,.inl rfl,?_⟩⟩
    simp only [bA]
    exact .inl ⟨by simp,h2,.inl h3,by rw [updR_ot _ _ _ _ (by decide)];exact h4,by rw [updR_at];omega⟩
   ·rw [upd_ne _ _ _ q,upd_ne _ _ _ q];exact (H.loc u hu).other (by simp) (by simp)
  ·show (upd v.th t _ u).pc=0/\((upd v.th t _ u).st=0∨(upd v.th t _ u).st=2)/\upd v.bf t _ u=[];rw [upd_ne _ _ _ (by omega),upd_ne _ _ _ (by omega)];exact H.out u q1 q2
  ·show upd v.mem 16 ((c+1:Nat):Int) 16=((sumT N fun u=>arr P (upd v.th t _ u):Nat):Int);rw [upd_same,hsum]
  ·show (sumT N fun u=>arr P (upd v.th t _ u))<N;rw [hsum];omega
  ·exact (cntE_quiet (fun x hx=>isMW_no (by rw [List.mem_singleton.1 hx];exact (by decide:(4:Int)≠7)))).trans ((H.k18 u hu).trans (hk18 _ u hu))
theorem bar_4 (H:BarI nt N rd v P la) (ht:t<N) {k:Nat} {r:Nat->Int} (hn:k<rd) (hp:(v.th t).pc=((k*22+4:Nat):Int)) (hA:bA N P la (v.mem 16) t k r (v.bf t) 4): ∃P' la',BarI nt N rd (execV t v (k*22+4) r (.set 6 ((N:Int)-1))) P' la':=by
 exact ⟨P,la,H.quiet ht (fun x hx=>by cases hx) hp (by decide) (k':=k) (o':=5) rfl (by decide) ⟨rfl,by decide,by decide⟩ ⟨k,5,rfl,.inl ⟨hn,by decide,.inl rfl,by simp only [bA]at hA⊢;exact hA.elim (fun q=> .inl ⟨q.1,q.2.1,q.2.2.1,by rw [updR_ot _ _ _ _ (by decide)];exact q.2.2.2.1,by rw [updR_ot _ _ _ _ (by decide)];exact q.2.2.2.2,updR_at _ _ _⟩) (fun q=> .inr ⟨q.1,q.2.1,q.2.2.1,q.2.2.2.1,by rw [updR_ot _ _ _ _ (by decide)];exact q.2.2.2.2,updR_at _ _ _⟩)⟩⟩⟩
theorem bar_5 (H:BarI nt N rd v P la) (ht:t<N) {k:Nat} {r:Nat->Int} (hn:k<rd) (hp:(v.th t).pc=((k*22+5:Nat):Int)) (hA:bA N P la (v.mem 16) t k r (v.bf t) 5): ∃P' la',BarI nt N rd (execV t v (k*22+5) r (.same 6 4 6)) P' la':=by
 exact ⟨P,la,H.quiet ht (fun x hx=>by cases hx) hp (by decide) (k':=k) (o':=6) rfl (by decide) ⟨rfl,by decide,by decide⟩ ⟨k,6,rfl,.inl ⟨hn,by decide,.inl rfl,by simp only [bA]at hA⊢;exact hA.elim (fun q=> .inl ⟨q.1,q.2.1,q.2.2.1,by rw [updR_ot _ _ _ _ (by decide)];exact q.2.2.2.1,by rw [updR_at,q.2.2.2.2.2,if_neg q.2.2.2.2.1]⟩) (fun q=> .inr ⟨q.1,q.2.1,q.2.2.1,q.2.2.2.1,by rw [updR_at,q.2.2.2.2.1,q.2.2.2.2.2,if_pos rfl]⟩)⟩⟩⟩
theorem bar_6 (H:BarI nt N rd v P la) (ht:t<N) {k:Nat} {r:Nat->Int} (hn:k<rd) (hp:(v.th t).pc=((k*22+6:Nat):Int)) (hA:bA N P la (v.mem 16) t k r (v.bf t) 6): ∃P' la',BarI nt N rd (execV t v (k*22+6) r (.zero 6 (k*22+14))) P' la':=by
 dsimp only [execV]
 by_cases hz:r 6=0
 ·rw [if_pos hz]
  exact ⟨P,la,H.quiet ht (fun x hx=>by cases hx) hp (by decide) (k':=k) (o':=14) rfl (by decide) ⟨rfl,by decide,by decide⟩ ⟨k,14,rfl,.inl ⟨hn,by decide,.inl rfl,by simp only [bA]at hA⊢;exact hA.elim (fun q=>⟨q.1,q.2.1,q.2.2.1,q.2.2.2.1⟩) (fun q=>absurd (hz.symm.trans q.2.2.2.2) (by decide))⟩⟩⟩
 ·rw [if_neg hz]
  exact ⟨P,la,H.quiet ht (fun x hx=>by cases hx) hp (by decide) (k':=k) (o':=7) rfl (by decide) ⟨rfl,by decide,by decide⟩ ⟨k,7,rfl,.inl ⟨hn,by decide,.inl rfl,by simp only [bA]at hA⊢;exact hA.elim (fun q=>absurd q.2.2.2.2 hz) (fun q=>⟨q.1,q.2.1,q.2.2.1,q.2.2.2.1⟩)⟩⟩⟩
theorem bar_7 (H:BarI nt N rd v P la) (ht:t<N) {k:Nat} {r:Nat->Int} (hn:k<rd) (hp:(v.th t).pc=((k*22+7:Nat):Int)) (hA:bA N P la (v.mem 16) t k r (v.bf t) 7): ∃P' la',BarI nt N rd (execV t v (k*22+7) r (.set 4 0)) P' la':=by
 exact ⟨P,la,H.quiet ht (fun x hx=>by cases hx) hp (by decide) (k':=k) (o':=8) rfl (by decide) ⟨rfl,by decide,by decide⟩ ⟨k,8,rfl,.inl ⟨hn,by decide,.inl rfl,by simp only [bA]at hA⊢;exact ⟨hA.1,hA.2.1,hA.2.2.1,hA.2.2.2,updR_at _ _ _⟩⟩⟩⟩
theorem bar_8 (H:BarI nt N rd v P la) (ht:t<N) {k:Nat} {r:Nat->Int} (hn:k<rd) (hp:(v.th t).pc=((k*22+8:Nat):Int)) (hA:bA N P la (v.mem 16) t k r (v.bf t) 8): ∃P' la',BarI nt N rd (execV t v (k*22+8) r (.store 4 16)) P' la':=by
 exact ⟨P,la,H.quiet ht (fun x hx=>(by rw [List.mem_singleton.1 hx];exact (by decide:(2:Int)≠7))) hp (by decide) (k':=k) (o':=9) rfl (by decide) ⟨rfl,by decide,by decide⟩ ⟨k,9,rfl,.inl ⟨hn,by decide,.inl rfl,by simp only [bA]at hA⊢;exact ⟨hA.1,.inl ⟨by rw [hA.2.1,hA.2.2.2.2];rfl,hA.2.2.2.1⟩,hA.2.2.1⟩⟩⟩⟩
theorem bar_9 (H:BarI nt N rd v P la) (ht:t<N) {k:Nat} {r:Nat->Int} (hn:k<rd) (hp:(v.th t).pc=((k*22+9:Nat):Int)) (hA:bA N P la (v.mem 16) t k r (v.bf t) 9): ∃P' la',BarI nt N rd (execV t v (k*22+9) r (.set 4 1)) P' la':=by
 exact ⟨P,la,H.quiet ht (fun x hx=>by cases hx) hp (by decide) (k':=k) (o':=10) rfl (by decide) ⟨rfl,by decide,by decide⟩ ⟨k,10,rfl,.inl ⟨hn,by decide,.inl rfl,by simp only [bA]at hA⊢;exact ⟨hA.1,hA.2.1,hA.2.2,updR_at _ _ _⟩⟩⟩⟩
theorem bar_10 (H:BarI nt N rd v P la) (ht:t<N) {k:Nat} {r:Nat->Int} (hn:k<rd) (hp:(v.th t).pc=((k*22+10:Nat):Int)) (hd:v.bf t=[]) (hA:bA N P la (v.mem 16) t k r (v.bf t) 10): ∃P' la',BarI nt N rd (execV t v (k*22+10) r (.fetch 4 17)) P' la':=by
 simp only [bA]at hA
 obtain ⟨h1,h2,h3,h4⟩:=hA
 subst h1
 have hm:v.mem 16=0:=h2.elim (fun q=>by rw [hd]at q;cases q.1) (fun q=>q.2)
 have hall:=(H.some_ t rfl).2
 have hN:=H.n1
 have hP:=H.hP
 have hnew:(v.mem 17+r 4)% 4294967296=((P+1:Nat):Int):=by rw [H.m17,h4];omega
 have where_: ∀u,u<N-> ∃o,(v.th u).pc=((P*22+o:Nat):Int)/\4<=o/\o<22:=fun u hu=>by
  have :=hall u hu
  unfold arr at this
  by_cases q:((P*22+4:Nat):Int)<=(v.th u).pc/\(v.th u).pc<((P*22+22:Nat):Int)
  ·exact ⟨((v.th u).pc-((P*22:Nat):Int)).toNat,by omega,by omega,by omega⟩
  ·rw [if_neg q]at this;cases this
 have a0: ∀x u,u<N->arr (P+1) (upd v.th t ⟨((k*22+10+1:Nat):Int),x,0⟩ u)=0:=fun x u hu=>by
  by_cases q:u=t
  ·subst q;rw [upd_same,arrP_at (k:=k) (o:=11) rfl (by decide),if_neg (by omega)]
  ·obtain ⟨o,e,_,ho⟩:=where_ u hu
   rw [upd_ne _ _ _ q,arrP_at e ho,if_neg (by omega)]
 have hsum: ∀x,(sumT N fun u=>arr (P+1) (upd v.th t ⟨((k*22+10+1:Nat):Int),x,0⟩ u))=0:=fun x=>by
  have :=sumT_le (W:=N) (f:=fun u=>arr (P+1) (upd v.th t ⟨((k*22+10+1:Nat):Int),x,0⟩ u)) (k:=0) (fun u hu=>by rw [a0 x u hu];exact Nat.le_refl _)
  omega
 dsimp only [execV]
 rw [hnew]
 refine ⟨P+1,none,H.n1,by omega,?_,fun u hu=>?_,fun u q1 q2=>?_,fun _=>⟨?_,?_⟩,(fun u q=>by cases q),fun u hu=>?_,(okBr_quiet H.ev (fun x hx=>(by rw [List.mem_singleton.1 hx];exact (by decide:(4:Int)≠7))))⟩
 ·show upd v.mem 17 ((P+1:Nat):Int) 17=_;rw [upd_same]
 ·show BLoc N rd (P+1) none (upd v.mem 17 ((P+1:Nat):Int) 16) u (upd v.th t _ u) (upd v.bf t _ u)
  by_cases q:u=t
  ·subst q;rw [upd_same,upd_same]
   refine ⟨k,11,rfl,.inl ⟨hn,by decide,.inl rfl,?_⟩⟩
   simp only [bA]
   exact ⟨by simp,hd,by omega⟩
  ·rw [upd_ne _ _ _ q,upd_ne _ _ _ q]
   obtain ⟨o,e,ho4,ho⟩:=where_ u hu
   obtain ⟨k',o',e',hl|hl⟩:=H.loc u hu
   ·have hk:k'=P/\o'=o:=by have :=hl.2.1;omega
    rw [hk.2]at hl e'
    exact ⟨k',o,e',.inl ⟨hl.1,hl.2.1,hl.2.2.1,bA_bump hl.2.2.2 (by simp [Ne.symm q]) (by simp) hk.1 ho4⟩⟩
   ·exfalso;have :=hl.2.1;omega
 ·show (upd v.th t _ u).pc=0/\((upd v.th t _ u).st=0∨(upd v.th t _ u).st=2)/\upd v.bf t _ u=[];rw [upd_ne _ _ _ (by omega),upd_ne _ _ _ (by omega)];exact H.out u q1 q2
 ·show upd v.mem 17 ((P+1:Nat):Int) 16=((sumT N fun u=>arr (P+1) (upd v.th t _ u):Nat):Int);rw [upd_ne _ _ _ (by decide),hsum];exact hm
 ·show (sumT N fun u=>arr (P+1) (upd v.th t _ u))<N;rw [hsum];omega
 ·refine (cntE_quiet (fun x hx=>isMW_no (by rw [List.mem_singleton.1 hx];exact (by decide:(4:Int)≠7)))).trans ((H.k18 u hu).trans ?_)
  show _=knocks (upd v.th t _ u)
  by_cases q:u=t
  ·subst q;rw [upd_same,knocks_at hp (by decide),knocks_at (k:=k) (o:=11) rfl (by decide)];rfl
  ·rw [upd_ne _ _ _ q]
theorem bar_11 (H:BarI nt N rd v P la) (ht:t<N) {k:Nat} {r:Nat->Int} (hn:k<rd) (hp:(v.th t).pc=((k*22+11:Nat):Int)) (hA:bA N P la (v.mem 16) t k r (v.bf t) 11): ∃P' la',BarI nt N rd (execV t v (k*22+11) r (.set 4 4294967295)) P' la':=by
 exact ⟨P,la,H.quiet ht (fun x hx=>by cases hx) hp (by decide) (k':=k) (o':=12) rfl (by decide) ⟨rfl,by decide,by decide⟩ ⟨k,12,rfl,.inl ⟨hn,by decide,.inl rfl,by simp only [bA]at hA⊢;exact hA⟩⟩⟩
theorem bar_12 (H:BarI nt N rd v P la) (ht:t<N) {k:Nat} {r:Nat->Int} (hn:k<rd) (hp:(v.th t).pc=((k*22+12:Nat):Int)) (hA:bA N P la (v.mem 16) t k r (v.bf t) 12): ∃P' la',BarI nt N rd (execV t v (k*22+12) r (.wake 4 17)) P' la':=by
 obtain ⟨w,hw⟩: ∃w,wk ((17:Nat):Int) (r 4).toNat v.slp=w:=⟨_,rfl⟩
 have K:=((H.run w.2).slp w.1).quiet ht (l:=[⟨9,(t:Int),((k*22+12:Nat):Int),((17:Nat):Int),(w.2.length:Int),0,0,false⟩]) (fun x hx=>(by rw [List.mem_singleton.1 hx];exact (by decide:(9:Int)≠7))) (th:=⟨((k*22+12+1:Nat):Int),updR r 4 (w.2.length:Int),0⟩) (b:=v.bf t) (k:=k) (o:=12) (by show (runV w.2 v.th t).pc=_;unfold runV;split<;>exact hp) (by decide) (k':=k) (o':=13) rfl (by decide) ⟨rfl,by decide,by decide⟩ ⟨k,13,rfl,.inl ⟨hn,by decide,.inl rfl,by simp only [bA]at hA⊢;exact hA⟩⟩
 refine ⟨P,la,?_⟩
 dsimp only [execV]
 rw [hw]
 unfold Vw.mv at K
 simp only [upd_self]at K
 exact K
theorem bar_13 (H:BarI nt N rd v P la) (ht:t<N) {k:Nat} {r:Nat->Int} (hn:k<rd) (hp:(v.th t).pc=((k*22+13:Nat):Int)) (hA:bA N P la (v.mem 16) t k r (v.bf t) 13): ∃P' la',BarI nt N rd (execV t v (k*22+13) r (.jump (k*22+20))) P' la':=by
 exact ⟨P,la,H.quiet ht (fun x hx=>by cases hx) hp (by decide) (k':=k) (o':=20) rfl (by decide) ⟨rfl,by decide,by decide⟩ ⟨k,20,rfl,.inl ⟨hn,by decide,.inl rfl,by simp only [bA]at hA⊢;exact hA⟩⟩⟩
theorem bar_14 (H:BarI nt N rd v P la) (ht:t<N) {k:Nat} {r:Nat->Int} (hn:k<rd) (hp:(v.th t).pc=((k*22+14:Nat):Int)) (hA:bA N P la (v.mem 16) t k r (v.bf t) 14): ∃P' la',BarI nt N rd (execV t v (k*22+14) r (.load 4 17)) P' la':=by
 exact ⟨P,la,H.quiet ht (fun x hx=>(by rw [List.mem_singleton.1 hx];exact (by decide:(1:Int)≠7))) hp (by decide) (k':=k) (o':=15) rfl (by decide) ⟨rfl,by decide,by decide⟩ ⟨k,15,rfl,.inl ⟨hn,by decide,.inl rfl,by simp only [bA]at hA⊢;exact ⟨hA.1,hA.2.1,hA.2.2.1,by rw [updR_ot _ _ _ _ (by decide)];exact hA.2.2.2,fun q=>by rw [updR_at,(show seeV (v.bf t) v.mem 17=(P:Int) from by rw [hA.2.1,seeV_nil];exact H.m17)]at q;exact hA.2.2.1.resolve_left (fun z=>q (by rw [z]))⟩⟩⟩⟩
theorem bar_15 (H:BarI nt N rd v P la) (ht:t<N) {k:Nat} {r:Nat->Int} (hn:k<rd) (hp:(v.th t).pc=((k*22+15:Nat):Int)) (hA:bA N P la (v.mem 16) t k r (v.bf t) 15): ∃P' la',BarI nt N rd (execV t v (k*22+15) r (.same 6 4 5)) P' la':=by
 exact ⟨P,la,H.quiet ht (fun x hx=>by cases hx) hp (by decide) (k':=k) (o':=16) rfl (by decide) ⟨rfl,by decide,by decide⟩ ⟨k,16,rfl,.inl ⟨hn,by decide,.inl rfl,by simp only [bA]at hA⊢;exact ⟨hA.1,hA.2.1,hA.2.2.1,by rw [updR_ot _ _ _ _ (by decide)];exact hA.2.2.2.1,fun q=>by rw [updR_at,hA.2.2.2.1]at q;exact hA.2.2.2.2 (fun z=>by rw [if_pos z]at q;cases q)⟩⟩⟩⟩
theorem bar_16 (H:BarI nt N rd v P la) (ht:t<N) {k:Nat} {r:Nat->Int} (hn:k<rd) (hp:(v.th t).pc=((k*22+16:Nat):Int)) (hA:bA N P la (v.mem 16) t k r (v.bf t) 16): ∃P' la',BarI nt N rd (execV t v (k*22+16) r (.zero 6 (k*22+20))) P' la':=by
 dsimp only [execV]
 by_cases hz:r 6=0
 ·rw [if_pos hz]
  exact ⟨P,la,H.quiet ht (fun x hx=>by cases hx) hp (by decide) (k':=k) (o':=20) rfl (by decide) ⟨rfl,by decide,by decide⟩ ⟨k,20,rfl,.inl ⟨hn,by decide,.inl rfl,by simp only [bA]at hA⊢;exact ⟨hA.1,hA.2.1,hA.2.2.2.2 hz⟩⟩⟩⟩
 ·rw [if_neg hz]
  exact ⟨P,la,H.quiet ht (fun x hx=>by cases hx) hp (by decide) (k':=k) (o':=17) rfl (by decide) ⟨rfl,by decide,by decide⟩ ⟨k,17,rfl,.inl ⟨hn,by decide,.inl rfl,by simp only [bA]at hA⊢;exact ⟨hA.1,hA.2.1,hA.2.2.1,hA.2.2.2.1⟩⟩⟩⟩
theorem bar_17 (H:BarI nt N rd v P la) (ht:t<N) {k:Nat} {r:Nat->Int} (hn:k<rd) (hp:(v.th t).pc=((k*22+17:Nat):Int)) (hA:bA N P la (v.mem 16) t k r (v.bf t) 17): ∃P' la',BarI nt N rd (execV t v (k*22+17) r (.move 4 5)) P' la':=by
 exact ⟨P,la,H.quiet ht (fun x hx=>by cases hx) hp (by decide) (k':=k) (o':=18) rfl (by decide) ⟨rfl,by decide,by decide⟩ ⟨k,18,rfl,.inl ⟨hn,by decide,.inl rfl,by simp only [bA]at hA⊢;exact ⟨hA.1,hA.2.1,hA.2.2.1,by rw [updR_ot _ _ _ _ (by decide)];exact hA.2.2.2,by rw [updR_at];exact hA.2.2.2⟩⟩⟩⟩
theorem bar_18 (H:BarI nt N rd v P la) (ht:t<N) {k:Nat} {r:Nat->Int} (hn:k<rd) (hp:(v.th t).pc=((k*22+18:Nat):Int)) (hA:bA N P la (v.mem 16) t k r (v.bf t) 18): ∃P' la',BarI nt N rd (execV t v (k*22+18) r (.wait 4 17)) P' la':=by
 dsimp only [execV]
 have hA': ∀x,bA N P la (v.mem 16) t k (updR r 4 x) (v.bf t) 19:=fun x=>by simp only [bA]at hA⊢;exact ⟨hA.1,hA.2.1,hA.2.2.1,by rw [updR_ot _ _ _ _ (by decide)];exact hA.2.2.2.1⟩
 by_cases hz:v.mem 17=r 4
 ·rw [if_pos hz]
  obtain ⟨_,_,K⟩: ∃P' la',BarI nt N rd (v.mv t ⟨((k*22+18+1:Nat):Int),updR r 4 0,1⟩ (v.bf t) v.mem [⟨8,(t:Int),((k*22+18:Nat):Int),((17:Nat):Int),v.mem 17,0,0,true⟩]) P' la':=⟨P,la,H.quiet ht (fun x hx=>(by rw [List.mem_singleton.1 hx];exact (by decide:(8:Int)≠7))) hp (by decide) (k':=k) (o':=19) rfl (by decide) ⟨rfl,by decide,by decide⟩ ⟨k,19,rfl,.inl ⟨hn,by decide,.inr rfl,hA' 0⟩⟩⟩
  exact ⟨_,_,K.slp _⟩
 ·rw [if_neg hz]
  exact ⟨P,la,H.quiet ht (fun x hx=>(by rw [List.mem_singleton.1 hx];exact (by decide:(8:Int)≠7))) hp (by decide) (k':=k) (o':=19) rfl (by decide) ⟨rfl,by decide,by decide⟩ ⟨k,19,rfl,.inl ⟨hn,by decide,.inl rfl,hA' 1⟩⟩⟩
theorem bar_19 (H:BarI nt N rd v P la) (ht:t<N) {k:Nat} {r:Nat->Int} (hn:k<rd) (hp:(v.th t).pc=((k*22+19:Nat):Int)) (hA:bA N P la (v.mem 16) t k r (v.bf t) 19): ∃P' la',BarI nt N rd (execV t v (k*22+19) r (.jump (k*22+14))) P' la':=by
 exact ⟨P,la,H.quiet ht (fun x hx=>by cases hx) hp (by decide) (k':=k) (o':=14) rfl (by decide) ⟨rfl,by decide,by decide⟩ ⟨k,14,rfl,.inl ⟨hn,by decide,.inl rfl,by simp only [bA]at hA⊢;exact hA⟩⟩⟩
theorem bar_20 (H:BarI nt N rd v P la) (ht:t<N) {k:Nat} {r:Nat->Int} (hn:k<rd) (hp:(v.th t).pc=((k*22+20:Nat):Int)) (hA:bA N P la (v.mem 16) t k r (v.bf t) 20): ∃P' la',BarI nt N rd (execV t v (k*22+20) r (.set 7 0)) P' la':=by
 exact ⟨P,la,H.quiet ht (fun x hx=>by cases hx) hp (by decide) (k':=k) (o':=21) rfl (by decide) ⟨rfl,by decide,by decide⟩ ⟨k,21,rfl,.inl ⟨hn,by decide,.inl rfl,by simp only [bA]at hA⊢;exact ⟨hA.1,hA.2.1,hA.2.2,updR_at _ _ _⟩⟩⟩⟩
theorem bar_21 (H:BarI nt N rd v P la) (ht:t<N) {k:Nat} {r:Nat->Int} (hn:k<rd) (hp:(v.th t).pc=((k*22+21:Nat):Int)) (hA:bA N P la (v.mem 16) t k r (v.bf t) 21): ∃P' la',BarI nt N rd (execV t v (k*22+21) r (.mark 19)) P' la':=by
 simp only [bA]at hA
 obtain ⟨h1,h2,h3,h4⟩:=hA
 have hloc:BLoc N rd P la (v.mem 16) t ⟨((k*22+21+1:Nat):Int),r,0⟩ (v.bf t):=BLoc.next rfl hn rfl h1 h2 h3
 have e22:((k*22+21+1:Nat):Int)=(((k+1)*22+0:Nat):Int):=by omega
 refine ⟨P,la,H.move ht ?_ (fun u hu=>?_) ?_ hloc⟩
 ·rw [arrP_at hp (by decide),arrP_at (k:=k+1) (o:=0) e22 (by decide),if_neg (by omega),if_neg (by omega)]
 ·rw [cntE_snoc,H.k18 u hu]
  have :isMW 18 u ⟨7,(t:Int),((k*22+21:Nat):Int),0,r 7,0,((19:Nat):Int),false⟩=false:=by unfold isMW;simp
  rw [this]
  by_cases c:u=t
  ·subst c
   rw [if_pos rfl,knocks_at hp (by decide),knocks_at (k:=k+1) (o:=0) e22 (by decide)]
   simp
  ·rw [if_neg c];simp
 ·refine okBr_snoc H.ev _ (fun _=>⟨Int.natCast_nonneg t,by show (t:Int)<(N:Int);omega,.inr rfl,fun _=>⟨h4,fun u hu=>?_⟩⟩)
  show cntE (isMW 18 (t:Int).toNat) v.evs<=_
  rw [Int.toNat_natCast,H.k18 t ht,H.k18 u hu,knocks_at hp (by decide),if_pos (by decide)]
  obtain ⟨k',o',e',hl|hl⟩:=H.loc u hu
  ·rw [knocks_at e' hl.2.1]
   have :=bA_k hl.2.2.2
   split<;>omega
  ·have h0:o'=0:=hl.2.1
   rw [h0]at e'
   rw [knocks_at e' (by decide)]
   have :=hl.2.2.2.1
   omega
theorem bar_exec (H:BarI nt N rd v P la) (ht:t<N) {k o:Nat} {r:Nat->Int} (hn:k<rd) (ho:o<22) (hp:(v.th t).pc=((k*22+o:Nat):Int)) (hA:bA N P la (v.mem 16) t k r (v.bf t) o): ∃op,(barL N (k*22))[o]?=some op/\((op.drains=true->v.bf t=[])-> ∃P' la',BarI nt N rd (execV t v (k*22+o) r op) P' la'):=by
 match o,ho,hp,hA with
 |0,_,hp,hA=>exact ⟨_,rfl,fun _=>bar_0 H ht hn hp hA⟩
 |1,_,hp,hA=>exact ⟨_,rfl,fun _=>bar_1 H ht hn hp hA⟩
 |2,_,hp,hA=>exact ⟨_,rfl,fun _=>bar_2 H ht hn hp hA⟩
 |3,_,hp,hA=>exact ⟨_,rfl,fun hd=>bar_3 H ht hn hp (hd rfl) hA⟩
 |4,_,hp,hA=>exact ⟨_,rfl,fun _=>bar_4 H ht hn hp hA⟩
 |5,_,hp,hA=>exact ⟨_,rfl,fun _=>bar_5 H ht hn hp hA⟩
 |6,_,hp,hA=>exact ⟨_,rfl,fun _=>bar_6 H ht hn hp hA⟩
 |7,_,hp,hA=>exact ⟨_,rfl,fun _=>bar_7 H ht hn hp hA⟩
 |8,_,hp,hA=>exact ⟨_,rfl,fun _=>bar_8 H ht hn hp hA⟩
 |9,_,hp,hA=>exact ⟨_,rfl,fun _=>bar_9 H ht hn hp hA⟩
 |10,_,hp,hA=>exact ⟨_,rfl,fun hd=>bar_10 H ht hn hp (hd rfl) hA⟩
 |11,_,hp,hA=>exact ⟨_,rfl,fun _=>bar_11 H ht hn hp hA⟩
 |12,_,hp,hA=>exact ⟨_,rfl,fun _=>bar_12 H ht hn hp hA⟩
 |13,_,hp,hA=>exact ⟨_,rfl,fun _=>bar_13 H ht hn hp hA⟩
 |14,_,hp,hA=>exact ⟨_,rfl,fun _=>bar_14 H ht hn hp hA⟩
 |15,_,hp,hA=>exact ⟨_,rfl,fun _=>bar_15 H ht hn hp hA⟩
 |16,_,hp,hA=>exact ⟨_,rfl,fun _=>bar_16 H ht hn hp hA⟩
 |17,_,hp,hA=>exact ⟨_,rfl,fun _=>bar_17 H ht hn hp hA⟩
 |18,_,hp,hA=>exact ⟨_,rfl,fun _=>bar_18 H ht hn hp hA⟩
 |19,_,hp,hA=>exact ⟨_,rfl,fun _=>bar_19 H ht hn hp hA⟩
 |20,_,hp,hA=>exact ⟨_,rfl,fun _=>bar_20 H ht hn hp hA⟩
 |21,_,hp,hA=>exact ⟨_,rfl,fun _=>bar_21 H ht hn hp hA⟩
 |o+22,ho,_,_=>exact absurd ho (by omega)
theorem bar_pick {B:MB} {s:Mst} (hw:Wf B s) (hC: ∀t,t<N->Coded B t rd (fun n=>n*22) (fun n=>barL N (n*22))) (hO: ∀t,N<=t->t<B.codes.length->(B.codes.getD t cdd).len=0)
 (H: ∃P la,BarI B.codes.length N rd (vw s) P la) (x:Int×Int): ∃P la,BarI B.codes.length N rd (vw (tPick B s x)) P la:=by
 refine pick_keeps (I:=fun v=> ∃P la,BarI B.codes.length N rd v P la) hw H (fun t ht hb=>?_) (fun t ht hst=>?_) (fun t ht _=>?_) x
 ·obtain ⟨P,la,H⟩:=H
  exact ⟨P,la,H.flush ht hb⟩
 ·obtain ⟨P,la,H⟩:=H
  rcases Nat.lt_or_ge t N with htN|htN
  ·obtain ⟨k,o,hpc,hl|hl⟩:=H.loc t htN
   ·obtain ⟨op,hop,hk⟩:=bar_exec H htN hl.1 hl.2.1 hpc hl.2.2.2
    exact .inl ⟨k*22+o,_,op,(hC t htN).at_ hw ht hl.1 hop (Th.parts hpc hst),fun h1 _=>hk h1⟩
   ·have h0:o=0:=hl.2.1
    rw [h0]at hpc
    refine .inr ⟨?_,P,la,H.quiet htN (fun x hx=>(by rw [List.mem_singleton.1 hx];exact (by decide:(12:Int)≠7))) hpc (by decide) (k':=k) (o':=0) hpc (by decide) ⟨rfl,by decide,by decide⟩ ⟨k,0,hpc,.inr ⟨hl.1,rfl,.inr rfl,hl.2.2.2⟩⟩⟩
    rw [(hC t htN).len]
    have hpc':(thM s t).pc=((k*22+0:Nat):Int):=hpc
    rw [hpc',hl.1]
    exact Int.le_refl _
  ·have hout:=H.out t htN ht
   refine .inr ⟨by rw [hO t htN ht];have e:(thM s t).pc=0:=hout.1;rw [e];exact Int.le_refl _,P,la,H.outer htN (by exact hout.1) (.inr rfl) hout.2.2 (fun x hx=>(by rw [List.mem_singleton.1 hx];exact (by decide:(12:Int)≠7)))⟩
 ·obtain ⟨P,la,H⟩:=H
  have hl11: ∀x∈[(⟨11,(t:Int),0,0,0,0,0,false⟩:Evt)],nuK x:=fun x hx=>(by rw [List.mem_singleton.1 hx];exact (by decide:(11:Int)≠7))
  rcases Nat.lt_or_ge t N with htN|htN
  ·refine ⟨P,la,(H.move htN ?_ (fun u hu=>?_) (okBr_quiet H.ev hl11) (H.loc t htN).run).slp _⟩
   ·rfl
   ·rw [cntE_quiet (fun x hx=>isMW_no (hl11 x hx)),H.k18 u hu]
    split
    ·rename_i c;rw [c];rfl
    ·rfl
  ·have hout:=H.out t htN ht
   exact ⟨P,la,(H.outer (th:=⟨(thM s t).pc,(thM s t).regs,0⟩) htN hout.1 (.inl rfl) hout.2.2 hl11).slp _⟩
theorem bar_run {B:MB} (hB:MBok B) (hC: ∀t,t<N->Coded B t rd (fun n=>n*22) (fun n=>barL N (n*22))) (hO: ∀t,N<=t->t<B.codes.length->(B.codes.getD t cdd).len=0) (l:List (Int×Int)) {s:Mst} (hw:Wf B s)
 (H: ∃P la,BarI B.codes.length N rd (vw s) P la): ∃P la,BarI B.codes.length N rd (vw (tRun B s l)) P la:=
 (run_keeps (I:=fun s=> ∃P la,BarI B.codes.length N rd (vw s) P la) hB (fun s x hw H=>bar_pick hw hC hO H x) l s hw H).2
theorem bar_start (hn:1<=N/\N<=8/\N<=nt/\rd<=100) (h1: ∀t,v.th t=tha) (h2: ∀t,v.bf t=[]) (h3:v.mem 16=0/\v.mem 17=0) (h4:v.evs=[]):BarI nt N rd v 0 none:=by
 have ha: ∀t,arr 0 (v.th t)=0:=fun t=>by rw [h1];rfl
 have hs:(sumT N fun t=>arr 0 (v.th t))=0:=by
  have :=sumT_le (W:=N) (f:=fun t=>arr 0 (v.th t)) (k:=0) (fun t _=>by rw [ha];exact Nat.le_refl _)
  omega
 refine ⟨hn,Nat.zero_le _,h3.2,fun t ht=>⟨0,0,by rw [h1];rfl,?_⟩,fun t _ _=>⟨by rw [h1];rfl,by rw [h1];exact .inl rfl,h2 t⟩,fun _=>⟨by rw [hs];exact h3.1,by rw [hs];omega⟩,(fun u q=>by cases q),fun t _=>by rw [h4,h1];rfl,by rw [h4];intro i x q;simp at q⟩
 rcases Nat.eq_zero_or_pos rd with c|c
 ·exact .inr ⟨c.symm,rfl,by rw [h1];exact .inl rfl,rfl,by simp,h2 t⟩
 ·exact .inl ⟨c,by decide,by rw [h1];exact .inl rfl,by simp,h2 t,rfl⟩
end
end Go.Proofs.YtmhfpjnkjlhbpaaGreatDoor
