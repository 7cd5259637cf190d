/- Machines of threads (plain): codes of rounds; what holds whatever is picked. once (plain): the code of a thread that enters what is done once, and does it if it is told so; what holds whatever the turns. once (plain): whatever is picked, what holds of what is done once holds. barrier (plain): the code of a thread that enters; what holds whatever the turns. -/
import Derived.Test.YtmhfpjnkjlhbpaaGreatDoorQd22
namespace Go.Proofs.YtmhfpjnkjlhbpaaGreatDoor
open Go.ChangeShapes Go.WideShapes Go.ChangeAt Go.RowKit Go.Deep
set_option linter.unusedVariables false
set_option maxRecDepth 100000
set_option linter.unusedSimpArgs false
structure Coded (B:MB) (t rd:Nat) (bs:Nat->Nat) (code:Nat->List Op):Prop where
 len:(B.codes.getD t cdd).len=bs rd
 next: ∀n,n<rd->bs (n+1)=bs n+(code n).length
 F: ∀n,n<rd-> ∀o op,(code n)[o]?=some op->(B.codes.getD t cdd).F (bs n+o)=op.ins
 ok: ∀n,n<rd-> ∀op∈code n,rightB op.ins (B.codes.getD t cdd).len=true/\ ∀x,op.word=some x->x<B.m
theorem bs_mono {rd:Nat} {bs:Nat->Nat} {ln:Nat->Nat} (h: ∀n,n<rd->bs (n+1)=bs n+ln n) {n m:Nat} (hn:n<=m) (hm:m<=rd):bs n<=bs m:=by
 induction m with
 |zero=>rw [Nat.le_zero.1 hn];exact Nat.le_refl _
 |succ m ih=>
  rcases Nat.lt_or_ge n (m+1)with c|c
  ·have :=ih (by omega) (by omega)
   rw [h m (by omega)]
   omega
  ·rw [Nat.le_antisymm hn c];exact Nat.le_refl _
theorem Coded.lt {B:MB} {t rd:Nat} {bs:Nat->Nat} {code:Nat->List Op} (h:Coded B t rd bs code) {n o:Nat} (hn:n<rd) (ho:o<(code n).length):bs n+o<(B.codes.getD t cdd).len:=by
 rw [h.len]
 have h1:=h.next n hn
 have h2:=bs_mono h.next (n:=n+1) (m:=rd) (by omega) (Nat.le_refl _)
 omega
structure Wf (B:MB) (s:Mst):Prop where
 ok:TOk B s
 m:s.mem.length=B.m
 room:1<=B.room
section
variable {B:MB} {s:Mst}
theorem Wf.th (h:Wf B s) {t:Nat} (ht:t<B.codes.length):t<s.ths.length:=by rw [h.ok.ok.nt];exact ht
theorem Wf.bf (h:Wf B s) {t:Nat} (ht:t<B.codes.length):t<s.bufs.length:=by rw [h.ok.bl];exact ht
theorem Coded.at_ {t rd:Nat} {bs:Nat->Nat} {code:Nat->List Op} (h:Coded B t rd bs code) (hw:Wf B s) (ht:t<B.codes.length) {n o:Nat} {r:Nat->Int} {op:Op} (hn:n<rd) (hop:(code n)[o]?=some op) (hth:thM s t=⟨((bs n+o:Nat):Int),r,0⟩):At B s t (bs n+o) r op:=by
 have ho:=(List.getElem?_eq_some_iff.1 hop).1
 have hm:op∈code n:=by
  obtain ⟨h1,h2⟩:=List.getElem?_eq_some_iff.1 hop
  rw [<-h2];exact List.getElem_mem h1
 exact ⟨hth,h.lt hn ho,h.F n hn o op hop,(h.ok n hn op hm).1,hw.th ht,hw.bf ht,hw.m,(h.ok n hn op hm).2,hw.room,fun b hb e he=>(hw.ok.ok.buf b hb e he).1,fun x hx=>hw.ok.ok.slp.lo x hx⟩
theorem insR_mem (t:Nat) (th:Th) (i:Ins):(insR (tOps B t) s th i).2.mem.length=s.mem.length:=by
 have hf: ∀(t:Nat) (s:Mst),(tflush t s).mem.length=s.mem.length:=fun t s=>(tflush_same t s).2.2.2.2
 have hn: ∀(s:Mst) (x:Evt),(noteM (t:Int) s x).mem.length=s.mem.length:=fun _ _=>rfl
 have hfn: ∀(t n:Nat) (s:Mst),(tflushN t n s).mem.length=s.mem.length:=fun t n=>by
  induction n with
  |zero=>exact fun _=>rfl
  |succ n ih=>exact fun s=>(ih _).trans (hf t s)
 have hrem: ∀(s:Mst),(tremote s).mem.length=s.mem.length:=fun s=>by
  unfold tremote
  generalize List.range s.bufs.length=l
  induction l generalizing s with
  |nil=>rfl
  |cons a l ih=>exact (ih _).trans (hfn a _ _)
 have hlock: ∀(s:Mst) (pc:Int) (m:Nat) (old v:Int) (ok:Bool),(lockS (tOps B t) s pc m old v ok).mem.length=s.mem.length:=fun s pc m old v ok=>by
  unfold lockS
  cases ok
  ·rfl
  ·show (s.mem.set m v).length=_;rw [List.length_set]
 have hst: ∀(a:Nat) (v:Int),((tOps B t).store s a v).mem.length=s.mem.length:=fun a v=>by
  show (if a<B.m then ({s with bufs:=_}:Mst)else s).mem.length=_
  split<;>rfl
 have hsl: ∀(s:Mst) (a:Nat),((tOps B t).sleep s a).mem.length=s.mem.length:=fun s a=>by
  show (sleepM (t:Int) s a).mem.length=_
  unfold sleepM
  split<;>rfl
 unfold insR
 split
 ·exact hf _ _
 split
 ·exact hf _ _
 split
 ·rfl
 split
 ·rfl
 split
 ·show (asksR (tOps B t) s th _ _ _ _).2.mem.length=_
  unfold asksR
  split
  ·rfl
  split
  ·exact hst _ _
  split
  ·exact hlock _ _ _ _ _ _
  split
  ·exact hlock _ _ _ _ _ _
  split
  ·exact hlock _ _ _ _ _ _
  split
  ·unfold waitR
   split
   ·exact hsl _ _
   ·rfl
  ·rfl
 ·show (plainR (tOps B t) s th _ _ _ _ _ _).2.mem.length=_
  unfold plainR
  repeat' split
  all_goals first
   |rfl
   |exact hrem _
theorem tPick_mem (x:Int×Int):(tPick B s x).mem.length=s.mem.length:=by
 unfold tPick
 split
 ·rfl
 split
 ·show (stepR (tOps B x.2.toNat) s _ _).2.mem.length=_
  unfold stepR
  repeat' split
  all_goals first
   |rfl
   |exact insR_mem _ _ _
 split
 ·exact (tflush_same _ _).2.2.2.2
 split
 ·unfold rouseM
  split<;>rfl
 ·rfl
theorem Wf.pick (h:Wf B s) (hB:MBok B) (x:Int×Int):Wf B (tPick B s x):=⟨tPick_ok hB h.ok x,(tPick_mem x).trans h.m,h.room⟩
end
inductive Ph
 |free|busy (u:Nat)|over
def S1 (m:Int) (t:Nat) (b:List Ent):Prop:=(b=[(17,(t:Int)+1)]/\m=0)∨(b=[]/\m=(t:Int)+1)
def S2 (m:Int) (t:Nat) (b:List Ent):Prop:=(b=[(17,(t:Int)+1),(17,0)]/\m=0)∨(b=[(17,0)]/\m=(t:Int)+1)∨(b=[]/\m=0)
def oA (g:Ph) (m:Int) (e5 e2:Nat) (t:Nat) (r:Nat->Int) (b:List Ent):Nat->Prop
 |0=>g≠ .busy t/\b=[]
 |1=>g≠ .busy t/\b=[]
 |2=>g≠ .busy t/\b=[]/\r 4≠((t:Int)+1)
 |3=>g≠ .busy t/\b=[]/\r 4≠((t:Int)+1)/\r 5=((t:Int)+1)
 |4=>g≠ .busy t/\b=[]/\r 6=0/\r 5=((t:Int)+1)
 |7=>g≠ .busy t/\b=[]/\r 5=((t:Int)+1)
 |8=>g≠ .busy t/\b=[]/\r 5=((t:Int)+1)/\(r 4=2->e2=1)
 |9=>g≠ .busy t/\b=[]/\r 5=((t:Int)+1)/\r 6=2/\(r 4=2->e2=1)
 |10=>g≠ .busy t/\b=[]/\r 5=((t:Int)+1)/\(r 6≠0->e2=1)
 |11=>g≠ .busy t/\b=[]/\r 5=((t:Int)+1)
 |12=>g≠ .busy t/\b=[]/\r 5=((t:Int)+1)/\r 4=0
 |13=>g≠ .busy t/\b=[]/\r 5=((t:Int)+1)/\r 4=0/\r 6=1
 |14=>(g≠ .busy t/\b=[]/\r 4≠0/\r 5=((t:Int)+1))∨(g= .busy t/\b=[]/\r 4=0/\r 5=((t:Int)+1)/\m=0/\e5=0/\e2=0)
 |15=>g≠ .busy t/\b=[]/\r 5=((t:Int)+1)
 |16=>g≠ .busy t/\b=[]/\r 5=((t:Int)+1)
 |17=>g≠ .busy t/\b=[]/\r 5=((t:Int)+1)
 |18=>g≠ .busy t/\b=[]/\r 5=((t:Int)+1)
 |19=>g≠ .busy t/\b=[]/\r 5=((t:Int)+1)
 |20=>g= .busy t/\b=[]/\r 5=((t:Int)+1)/\m=0/\e5=0/\e2=0
 |21=>g= .busy t/\S1 m t b/\e5=0/\e2=0
 |22=>g= .busy t/\S1 m t b/\e5=0/\e2=0/\r 7=5
 |23=>g≠ .busy t/\b=[]/\e2=1
 |24=>(g≠ .busy t/\b=[]/\e2=1/\r 7=0)∨(g= .busy t/\S1 m t b/\e5=0/\e2=0/\r 7=5)
 |25=>(g≠ .busy t/\b=[]/\r 7=0)∨(g= .busy t/\S1 m t b/\e5=1/\e2=0/\r 7=5)
 |26=>g= .busy t/\S1 m t b/\e5=1/\e2=0
 |27=>g= .busy t/\S1 m t b/\e5=1/\e2=1
 |28=>g= .busy t/\S1 m t b/\e5=1/\e2=1/\r 4=((t:Int)+1)
 |29=>g= .busy t/\S1 m t b/\e5=1/\e2=1/\r 4=((t:Int)+1)/\r 5=((t:Int)+1)
 |30=>g= .busy t/\S1 m t b/\e5=1/\e2=1/\r 6=1
 |33=>g= .busy t/\S1 m t b/\e5=1/\e2=1
 |34=>g= .busy t/\S1 m t b/\e5=1/\e2=1/\r 4=0
 |35=>g= .busy t/\S2 m t b/\e5=1/\e2=1
 |36=>g= .busy t/\S2 m t b/\e5=1/\e2=1/\r 4=2
 |37=>g≠ .busy t/\b=[]
 |38=>g≠ .busy t/\b=[]
 |39=>g≠ .busy t/\b=[]
 |40=>g≠ .busy t/\b=[]/\r 7=0
 |_=>False
section
variable {nt:Nat} {rd:Nat->Nat} {v:Vw} {g:Ph} {e5 e2 t:Nat}
theorem updR_at (r:Nat->Int) (a:Nat) (x:Int):updR r a x a=x:=if_pos rfl
theorem updR_ot (r:Nat->Int) (a:Nat) (x:Int) (k:Nat) (h:k≠a):updR r a x k=r k:=if_neg h
end
theorem Th.parts {th:Th} {p:Int} {st:Int} (h1:th.pc=p) (h2:th.st=st):th=⟨p,th.regs,st⟩:=by rw [<-h1,<-h2]
def sumT (W:Nat) (f:Nat->Nat):Nat:=((List.range W).map f).sum
theorem sumT_succ (W:Nat) (f:Nat->Nat):sumT (W+1) f=sumT W f+f W:=by unfold sumT;rw [List.range_succ,List.map_append,List.sum_append];simp
theorem sumT_congr {W:Nat} {f g:Nat->Nat} (h: ∀t,t<W->f t=g t):sumT W f=sumT W g:=by
 induction W with
 |zero=>rfl
 |succ W ih=>rw [sumT_succ,sumT_succ,ih (fun t ht=>h t (by omega)),h W (by omega)]
theorem sumT_upd {W t:Nat} {f g:Nat->Nat} (ht:t<W) (h: ∀u,u<W->u≠t->g u=f u):sumT W g+f t=sumT W f+g t:=by
 induction W with
 |zero=>omega
 |succ W ih=>
  rw [sumT_succ,sumT_succ]
  by_cases c:t=W
  ·subst c
   have :sumT t g=sumT t f:=sumT_congr (fun u hu=>h u (by omega) (by omega))
   omega
  ·have :=ih (by omega) (fun u hu=>h u (by omega))
   have :=h W (by omega) (fun e=>c e.symm)
   omega
theorem sumT_le {W:Nat} {f:Nat->Nat} {k:Nat} (h: ∀t,t<W->f t<=k):sumT W f<=W*k:=by
 induction W with
 |zero=>simp [sumT]
 |succ W ih=>
  rw [sumT_succ,Nat.add_mul]
  have :=ih (fun t ht=>h t (by omega))
  have :=h W (by omega)
  omega
def bA (N P:Nat) (la:Option Nat) (m:Int) (t k:Nat) (r:Nat->Int) (b:List Ent):Nat->Prop
 |0=>la≠some t/\b=[]/\P=k
 |1=>la≠some t/\b=[]/\P=k
 |2=>la≠some t/\b=[]/\P=k/\r 5=(k:Int)
 |3=>la≠some t/\b=[]/\P=k/\r 5=(k:Int)/\r 4=1
 |4=>(la≠some t/\b=[]/\(P=k∨P=k+1)/\r 5=(k:Int)/\r 4≠((N:Int)-1))∨(la=some t/\b=[]/\P=k/\m=(N:Int)/\r 4=((N:Int)-1))
 |5=>(la≠some t/\b=[]/\(P=k∨P=k+1)/\r 5=(k:Int)/\r 4≠((N:Int)-1)/\r 6=((N:Int)-1))∨(la=some t/\b=[]/\P=k/\m=(N:Int)/\r 4=((N:Int)-1)/\r 6=((N:Int)-1))
 |6=>(la≠some t/\b=[]/\(P=k∨P=k+1)/\r 5=(k:Int)/\r 6=0)∨(la=some t/\b=[]/\P=k/\m=(N:Int)/\r 6=1)
 |7=>la=some t/\b=[]/\P=k/\m=(N:Int)
 |8=>la=some t/\b=[]/\P=k/\m=(N:Int)/\r 4=0
 |9=>la=some t/\((b=[(16,0)]/\m=(N:Int))∨(b=[]/\m=0))/\P=k
 |10=>la=some t/\((b=[(16,0)]/\m=(N:Int))∨(b=[]/\m=0))/\P=k/\r 4=1
 |11=>la≠some t/\b=[]/\P=k+1
 |12=>la≠some t/\b=[]/\P=k+1
 |13=>la≠some t/\b=[]/\P=k+1
 |14=>la≠some t/\b=[]/\(P=k∨P=k+1)/\r 5=(k:Int)
 |15=>la≠some t/\b=[]/\(P=k∨P=k+1)/\r 5=(k:Int)/\(r 4≠(k:Int)->P=k+1)
 |16=>la≠some t/\b=[]/\(P=k∨P=k+1)/\r 5=(k:Int)/\(r 6=0->P=k+1)
 |17=>la≠some t/\b=[]/\(P=k∨P=k+1)/\r 5=(k:Int)
 |18=>la≠some t/\b=[]/\(P=k∨P=k+1)/\r 5=(k:Int)/\r 4=(k:Int)
 |19=>la≠some t/\b=[]/\(P=k∨P=k+1)/\r 5=(k:Int)
 |20=>la≠some t/\b=[]/\P=k+1
 |21=>la≠some t/\b=[]/\P=k+1/\r 7=0
 |_=>False
def arr (P:Nat) (th:Th):Nat:=if ((P*22+4:Nat):Int)<=th.pc/\th.pc<((P*22+22:Nat):Int)then 1 else 0
section
variable {nt N rd:Nat} {v:Vw} {P t:Nat} {la:Option Nat}
end
end Go.Proofs.YtmhfpjnkjlhbpaaGreatDoor
