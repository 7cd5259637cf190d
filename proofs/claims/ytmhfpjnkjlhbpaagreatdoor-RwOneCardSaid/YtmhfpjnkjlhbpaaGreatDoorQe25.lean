/- barrier (plain): the code of a thread that enters; what holds whatever the turns. -/
import Derived.Test.YtmhfpjnkjlhbpaaGreatDoorQe24
namespace Go.Proofs.YtmhfpjnkjlhbpaaGreatDoor
open Go.ChangeShapes Go.WideShapes Go.ChangeAt Go.RowKit Go.Deep
set_option linter.unusedVariables false
set_option maxRecDepth 100000
set_option linter.unusedSimpArgs false
def sumT (W:Nat) (f:Nat->Nat):Nat:=((List.range W).map f).sum
theorem sumT_succ (W:Nat) (f:Nat->Nat):sumT (W+1) f=sumT W f+f W:=by unfold sumT;rw [List.range_succ,List.map_append,List.sum_append];simp
theorem sumT_congr {W:Nat} {f g:Nat->Nat} (h: ∀t,t<W->f t=g t):sumT W f=sumT W g:=by
 induction W with
 |zero=>rfl
 |succ W ih=>rw [sumT_succ,sumT_succ,ih (fun t ht=>h t (by omega)),h W (by omega)]
theorem sumT_upd {W t:Nat} {f g:Nat->Nat} (ht:t<W) (h: ∀u,u<W->u≠t->g u=f u):sumT W g+f t=sumT W f+g t:=by
 induction W with
 |zero=>omega
 |succ W ih=>
  rw [sumT_succ,sumT_succ]
  by_cases c:t=W
  ·subst c
   have :sumT t g=sumT t f:=sumT_congr (fun u hu=>h u (by omega) (by omega))
   omega
  ·have :=ih (by omega) (fun u hu=>h u (by omega))
   have :=h W (by omega) (fun e=>c e.symm)
   omega
theorem sumT_le {W:Nat} {f:Nat->Nat} {k:Nat} (h: ∀t,t<W->f t<=k):sumT W f<=W*k:=by
 induction W with
 |zero=>simp [sumT]
 |succ W ih=>
  rw [sumT_succ,Nat.add_mul]
  have :=ih (fun t ht=>h t (by omega))
  have :=h W (by omega)
  omega
def bA (N P:Nat) (la:Option Nat) (m:Int) (t k:Nat) (r:Nat->Int) (b:List Ent):Nat->Prop
 |0=>la≠some t/\b=[]/\P=k
 |1=>la≠some t/\b=[]/\P=k
 |2=>la≠some t/\b=[]/\P=k/\r 5=(k:Int)
 |3=>la≠some t/\b=[]/\P=k/\r 5=(k:Int)/\r 4=1
 |4=>(la≠some t/\b=[]/\(P=k∨P=k+1)/\r 5=(k:Int)/\r 4≠((N:Int)-1))∨(la=some t/\b=[]/\P=k/\m=(N:Int)/\r 4=((N:Int)-1))
 |5=>(la≠some t/\b=[]/\(P=k∨P=k+1)/\r 5=(k:Int)/\r 4≠((N:Int)-1)/\r 6=((N:Int)-1))∨(la=some t/\b=[]/\P=k/\m=(N:Int)/\r 4=((N:Int)-1)/\r 6=((N:Int)-1))
 |6=>(la≠some t/\b=[]/\(P=k∨P=k+1)/\r 5=(k:Int)/\r 6=0)∨(la=some t/\b=[]/\P=k/\m=(N:Int)/\r 6=1)
 |7=>la=some t/\b=[]/\P=k/\m=(N:Int)
 |8=>la=some t/\b=[]/\P=k/\m=(N:Int)/\r 4=0
 |9=>la=some t/\((b=[(16,0)]/\m=(N:Int))∨(b=[]/\m=0))/\P=k
 |10=>la=some t/\((b=[(16,0)]/\m=(N:Int))∨(b=[]/\m=0))/\P=k/\r 4=1
 |11=>la≠some t/\b=[]/\P=k+1
 |12=>la≠some t/\b=[]/\P=k+1
 |13=>la≠some t/\b=[]/\P=k+1
 |14=>la≠some t/\b=[]/\(P=k∨P=k+1)/\r 5=(k:Int)
 |15=>la≠some t/\b=[]/\(P=k∨P=k+1)/\r 5=(k:Int)/\(r 4≠(k:Int)->P=k+1)
 |16=>la≠some t/\b=[]/\(P=k∨P=k+1)/\r 5=(k:Int)/\(r 6=0->P=k+1)
 |17=>la≠some t/\b=[]/\(P=k∨P=k+1)/\r 5=(k:Int)
 |18=>la≠some t/\b=[]/\(P=k∨P=k+1)/\r 5=(k:Int)/\r 4=(k:Int)
 |19=>la≠some t/\b=[]/\(P=k∨P=k+1)/\r 5=(k:Int)
 |20=>la≠some t/\b=[]/\P=k+1
 |21=>la≠some t/\b=[]/\P=k+1/\r 7=0
 |_=>False
def BLoc (N rd P:Nat) (la:Option Nat) (m:Int) (t:Nat) (th:Th) (b:List Ent):Prop:=
 ∃k o,th.pc=((k*22+o:Nat):Int)/\((k<rd/\o<22/\(th.st=0∨th.st=1)/\bA N P la m t k th.regs b o)∨(k=rd/\o=0/\(th.st=0∨th.st=2)/\P=k/\la≠some t/\b=[]))
def arr (P:Nat) (th:Th):Nat:=if ((P*22+4:Nat):Int)<=th.pc/\th.pc<((P*22+22:Nat):Int)then 1 else 0
def isMW (k:Int) (t:Nat) (x:Evt):Bool:=x.kind==7&&x.k==k&&x.who==(t:Int)
def knocks (th:Th):Nat:=(th.pc.toNat+21)/22
def okBr (N:Nat) (l:List Evt):Prop:= ∀(i:Nat) (x:Evt),l[i]?=some x->x.kind=7->0<=x.who/\x.who<(N:Int)/\(x.k=18∨x.k=19)/\(x.k=19->x.value=0/\ ∀u,u<N->cntE (isMW 18 x.who.toNat) (l.take i)<=cntE (isMW 18 u) (l.take i))
structure BarI (nt N rd:Nat) (v:Vw) (P:Nat) (la:Option Nat):Prop where
 n1:1<=N/\N<=8/\N<=nt/\rd<=100
 hP:P<=rd
 m17:v.mem 17=(P:Int)
 loc: ∀t,t<N->BLoc N rd P la (v.mem 16) t (v.th t) (v.bf t)
 out: ∀t,N<=t->t<nt->(v.th t).pc=0/\((v.th t).st=0∨(v.th t).st=2)/\v.bf t=[]
 none_:la=none->v.mem 16=((sumT N fun t=>arr P (v.th t):Nat):Int)/\(sumT N fun t=>arr P (v.th t))<N
 some_: ∀u,la=some u->u<N/\ ∀t,t<N->arr P (v.th t)=1
 k18: ∀t,t<N->cntE (isMW 18 t) v.evs=knocks (v.th t)
 ev:okBr N v.evs
section
variable {nt N rd:Nat} {v:Vw} {P t:Nat} {la:Option Nat}
theorem BarI.move (H:BarI nt N rd v P la) (ht:t<N) {th:Th} {b:List Ent} {l:List Evt} (ha:arr P th=arr P (v.th t)) (hk: ∀u,u<N->cntE (isMW 18 u) (v.evs++l)=if u=t then knocks th else knocks (v.th u)) (he:okBr N (v.evs++l)) (hloc:BLoc N rd P la (v.mem 16) t th b):BarI nt N rd (v.mv t th b v.mem l) P la:=by
 have hs: ∀u,arr P (upd v.th t th u)=arr P (v.th u):=fun u=>by
  by_cases c:u=t
  ·subst c;rw [upd_same];exact ha
  ·rw [upd_ne _ _ _ c]
 refine ⟨H.n1,H.hP,H.m17,fun u hu=>?_,fun u h1 h2=>?_,fun h=>?_,fun u h=>⟨(H.some_ u h).1,fun w hw=>(hs w).trans ((H.some_ u h).2 w hw)⟩,fun u hu=>?_,he⟩
 ·by_cases c:u=t
  ·subst c
   show BLoc N rd P la (v.mem 16) u (upd v.th u th u) (upd v.bf u b u)
   rw [upd_same,upd_same];exact hloc
  ·show BLoc N rd P la (v.mem 16) u (upd v.th t th u) (upd v.bf t b u)
   rw [upd_ne _ _ _ c,upd_ne _ _ _ c];exact H.loc u hu
 ·show (upd v.th t th u).pc=0/\((upd v.th t th u).st=0∨(upd v.th t th u).st=2)/\upd v.bf t b u=[]
  rw [upd_ne _ _ _ (by omega),upd_ne _ _ _ (by omega)];exact H.out u h1 h2
 ·have e:(sumT N fun u=>arr P (upd v.th t th u))=sumT N fun u=>arr P (v.th u):=sumT_congr (fun u _=>hs u)
  show v.mem 16=((sumT N fun u=>arr P (upd v.th t th u):Nat):Int)/\(sumT N fun u=>arr P (upd v.th t th u))<N
  rw [e];exact H.none_ h
 ·show cntE (isMW 18 u) (v.evs++l)=knocks (upd v.th t th u)
  rw [hk u hu]
  by_cases c:u=t
  ·rw [if_pos c,c,upd_same]
  ·rw [if_neg c,upd_ne _ _ _ c]
theorem BLoc.buf {m:Int} {th:Th} {b:List Ent} (h:BLoc N rd P la m t th b) (hb:b≠[]):la=some t/\b=[(16,0)]/\BLoc N rd P la 0 t th []:=by
 obtain ⟨k,o,hp,h|h⟩:=h
 ·have hA:=h.2.2.2
  have mk:bA N P la 0 t k th.regs [] o->BLoc N rd P la 0 t th []:=fun q=>⟨k,o,hp,.inl ⟨h.1,h.2.1,h.2.2.1,q⟩⟩
  unfold bA at hA mk
  split at hA
  all_goals first
   |exact hA.elim
   |exact absurd hA.2.1 hb
   |exact absurd hA.2 hb
   |exact hA.elim (fun q=>absurd q.2.1 hb) (fun q=>absurd q.2.1 hb)
   |exact ⟨hA.1,hA.2.1.elim (fun q=>q.1) (fun q=>absurd q.1 hb),mk ⟨hA.1,.inr ⟨rfl,rfl⟩,hA.2.2⟩⟩
 ·exact absurd h.2.2.2.2.2 hb
end
end Go.Proofs.YtmhfpjnkjlhbpaaGreatDoor
