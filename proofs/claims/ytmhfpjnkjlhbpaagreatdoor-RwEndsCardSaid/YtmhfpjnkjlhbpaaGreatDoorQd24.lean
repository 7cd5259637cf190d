/- rw (plain): the code of threads that write and read; what holds whatever the turns. -/
import Derived.Test.YtmhfpjnkjlhbpaaGreatDoorQd23
namespace Go.Proofs.YtmhfpjnkjlhbpaaGreatDoor
open Go.ChangeShapes Go.WideShapes Go.ChangeAt Go.RowKit Go.Deep
set_option linter.unusedVariables false
set_option maxRecDepth 100000
set_option linter.unusedSimpArgs false
def wrL (t q:Nat):List Op:=[.mark 0,.load 4 (17+t),.zero 4 (q+5),.set 7 1,.jump (q+14),.set 4 0,.set 5 4294967295,.cas 4 5 16,.zero 4 (q+11),.wait 4 16,.jump (q+5),.set 4 2,.store 4 (17+t),.set 7 0,.mark 1,.load 1 0,.set 2 1,.add 1 1 2,.store 1 0,.mark 2,.load 4 (17+t),.some 4 (q+24),.set 7 2,.jump (q+40),.set 5 1,.same 6 4 5,.set 4 0,.store 4 (17+t),.some 6 (q+32),.set 4 0,.swap 4 16,.jump (q+37),.set 4 4294967295,.fetch 4 16,.set 5 1,.same 6 4 5,.zero 6 (q+39),.set 4 4294967295,.wake 4 16,.set 7 0,.mark 3]
def rdL (t q:Nat):List Op:=[.mark 4,.load 4 (17+t),.zero 4 (q+5),.set 7 1,.jump (q+21),.load 4 16,.set 5 4294967295,.same 6 4 5,.some 6 (q+19),.set 5 1,.add 5 4 5,.move 6 4,.cas 4 5 16,.same 6 4 6,.zero 6 (q+5),.set 4 1,.store 4 (17+t),.set 7 0,.jump (q+21),.wait 4 16,.jump (q+5),.mark 5,.load 1 0,.out 1,.load 1 0,.out 1,.mark 2,.load 4 (17+t),.some 4 (q+31),.set 7 2,.jump (q+47),.set 5 1,.same 6 4 5,.set 4 0,.store 4 (17+t),.some 6 (q+39),.set 4 0,.swap 4 16,.jump (q+44),.set 4 4294967295,.fetch 4 16,.set 5 1,.same 6 4 5,.zero 6 (q+46),.set 4 4294967295,.wake 4 16,.set 7 0,.mark 3]
def okO (D:Nat) (O:List Int):Prop:=(∀i,1<=i->i<O.length->O.getD (i-1) 0<=O.getD i 0/\(i % 2=1->O.getD i 0=O.getD (i-1) 0))/\ ∀x∈O,x<=(D:Int)
theorem okO.mono {D D':Nat} {O:List Int} (h:okO D O) (hd:D<=D'):okO D' O:=⟨h.1,fun x hx=>by have :=h.2 x hx;omega⟩
theorem okO_snoc {D:Nat} {O:List Int} (h:okO D O) (he:O.length % 2=1->O.getD (O.length-1) 0=(D:Int)):okO D (O++[(D:Int)]):=by
 refine ⟨fun i h1 h2=>?_,fun x hx=>?_⟩
 ·rw [List.length_append,List.length_singleton]at h2
  have e1:(O++[(D:Int)]).getD (i-1) 0=O.getD (i-1) 0:=by
   simp only [List.getD_eq_getElem?_getD];rw [List.getElem?_append_left (by omega)]
  rcases Nat.lt_or_ge i O.length with c|c
  ·have e2:(O++[(D:Int)]).getD i 0=O.getD i 0:=by
    simp only [List.getD_eq_getElem?_getD];rw [List.getElem?_append_left c]
   rw [e1,e2];exact h.1 i h1 c
  ·have hi:i=O.length:=by omega
   subst hi
   have e2:(O++[(D:Int)]).getD O.length 0=(D:Int):=by simp
   rw [e1,e2]
   refine ⟨?_,fun q=>(he q).symm⟩
   have hm:O.getD (O.length-1) 0∈O:=getD_mem (by omega)
   exact h.2 _ hm
 ·rcases List.mem_append.1 hx with hx|hx
  ·exact h.2 x hx
  ·rw [List.mem_singleton.1 hx];exact Int.le_refl _
def B1 (a:Nat) (x M:Int) (b:List Ent):Prop:=(b=[((a:Int),x)]/\M=0)∨(b=[]/\M=x)
def B2 (a:Nat) (M m0:Int) (D:Nat) (b:List Ent):Prop:=(b=[((a:Int),2),(0,(D:Int)+1)]/\M=0/\m0=(D:Int))∨(b=[(0,(D:Int)+1)]/\M=2/\m0=(D:Int))∨(b=[]/\M=2/\m0=(D:Int)+1)
def B3 (a:Nat) (M m0:Int) (D:Nat) (b:List Ent):Prop:=(b=[((a:Int),2),(0,(D:Int)+1),((a:Int),0)]/\M=0/\m0=(D:Int))∨(b=[(0,(D:Int)+1),((a:Int),0)]/\M=2/\m0=(D:Int))∨(b=[((a:Int),0)]/\M=2/\m0=(D:Int)+1)∨(b=[]/\M=0/\m0=(D:Int)+1)
def B4 (a:Nat) (M:Int) (b:List Ent):Prop:=(b=[((a:Int),1),((a:Int),0)]/\M=0)∨(b=[((a:Int),0)]/\M=1)∨(b=[]/\M=0)
structure RL where
 (wt rs iw ir:Bool)
 c:Nat
 (M m0:Int)
 D:Nat
 O:List Int
structure RFree (L:RL) (c:Nat) (b:List Ent):Prop where
 wt:L.wt=false
 rs:L.rs=false
 iw:L.iw=false
 ir:L.ir=false
 c:L.c=c
 b:b=[]
 M:L.M=0
 O:okO L.D L.O/\L.O.length % 2=0
structure RWr (L:RL) (c:Nat) (inn:Bool):Prop where
 wt:L.wt=true
 rs:L.rs=false
 iw:L.iw=inn
 ir:L.ir=false
 c:L.c=c
 O:okO L.D L.O/\L.O.length % 2=0
structure RRd (L:RL) (c:Nat) (inn:Bool) (odd:Nat):Prop where
 wt:L.wt=false
 rs:L.rs=true
 iw:L.iw=false
 ir:L.ir=inn
 c:L.c=c
 O:okO L.D L.O/\L.O.length % 2=odd/\(odd=1->L.O.getD (L.O.length-1) 0=(L.D:Int))
def wA (L:RL) (c t:Nat) (r:Nat->Int) (b:List Ent):Nat->Prop
 |0=>RFree L c b
 |1=>RFree L c b
 |2=>RFree L c b/\r 4=0
 |5=>RFree L c b
 |6=>RFree L c b/\r 4=0
 |7=>RFree L c b/\r 4=0/\r 5=4294967295
 |8=>(RFree L c b/\r 4≠0)∨(RWr L c false/\(b=[]/\L.M=0)/\L.m0=(L.D:Int)/\r 4=0)
 |9=>RFree L c b
 |10=>RFree L c b
 |11=>RWr L c false/\(b=[]/\L.M=0)/\L.m0=(L.D:Int)
 |12=>RWr L c false/\(b=[]/\L.M=0)/\L.m0=(L.D:Int)/\r 4=2
 |13=>RWr L c false/\B1 (17+t) 2 L.M b/\L.m0=(L.D:Int)
 |14=>RWr L c false/\B1 (17+t) 2 L.M b/\L.m0=(L.D:Int)/\r 7=0
 |15=>RWr L c true/\B1 (17+t) 2 L.M b/\L.m0=(L.D:Int)
 |16=>RWr L c true/\B1 (17+t) 2 L.M b/\L.m0=(L.D:Int)/\r 1=(L.D:Int)
 |17=>RWr L c true/\B1 (17+t) 2 L.M b/\L.m0=(L.D:Int)/\r 1=(L.D:Int)/\r 2=1
 |18=>RWr L c true/\B1 (17+t) 2 L.M b/\L.m0=(L.D:Int)/\r 1=(L.D:Int)+1
 |19=>RWr L c true/\B2 (17+t) L.M L.m0 L.D b
 |20=>RWr L c false/\B2 (17+t) L.M L.m0 L.D b
 |21=>RWr L c false/\B2 (17+t) L.M L.m0 L.D b/\r 4=2
 |24=>RWr L c false/\B2 (17+t) L.M L.m0 L.D b/\r 4=2
 |25=>RWr L c false/\B2 (17+t) L.M L.m0 L.D b/\r 4=2/\r 5=1
 |26=>RWr L c false/\B2 (17+t) L.M L.m0 L.D b/\r 6=0
 |27=>RWr L c false/\B2 (17+t) L.M L.m0 L.D b/\r 6=0/\r 4=0
 |28=>RWr L c false/\B3 (17+t) L.M L.m0 L.D b/\r 6=0
 |29=>RWr L c false/\B3 (17+t) L.M L.m0 L.D b
 |30=>RWr L c false/\B3 (17+t) L.M L.m0 L.D b/\r 4=0
 |31=>RFree L (c+1) b
 |37=>RFree L (c+1) b
 |38=>RFree L (c+1) b
 |39=>RFree L (c+1) b
 |40=>RFree L (c+1) b/\r 7=0
 |_=>False
def rA (L:RL) (c t:Nat) (r:Nat->Int) (b:List Ent):Nat->Prop
 |0=>RFree L c b
 |1=>RFree L c b
 |2=>RFree L c b/\r 4=0
 |5=>RFree L c b
 |6=>RFree L c b
 |7=>RFree L c b/\r 5=4294967295
 |8=>RFree L c b/\(r 6=0->r 4≠4294967295)
 |9=>RFree L c b/\r 4≠4294967295
 |10=>RFree L c b/\r 4≠4294967295/\r 5=1
 |11=>RFree L c b/\r 4≠4294967295/\r 5=(r 4+1)% 4294967296
 |12=>RFree L c b/\r 4≠4294967295/\r 5=(r 4+1)% 4294967296/\r 6=r 4
 |13=>(RFree L c b/\r 4≠r 6)∨(RRd L c false 0/\(b=[]/\L.M=0)/\r 4=r 6)
 |14=>(RFree L c b/\r 6=0)∨(RRd L c false 0/\(b=[]/\L.M=0)/\r 6=1)
 |15=>RRd L c false 0/\(b=[]/\L.M=0)
 |16=>RRd L c false 0/\(b=[]/\L.M=0)/\r 4=1
 |17=>RRd L c false 0/\B1 (17+t) 1 L.M b
 |18=>RRd L c false 0/\B1 (17+t) 1 L.M b/\r 7=0
 |19=>RFree L c b
 |20=>RFree L c b
 |21=>RRd L c false 0/\B1 (17+t) 1 L.M b/\r 7=0
 |22=>RRd L c true 0/\B1 (17+t) 1 L.M b
 |23=>RRd L c true 0/\B1 (17+t) 1 L.M b/\r 1=(L.D:Int)
 |24=>RRd L c true 1/\B1 (17+t) 1 L.M b
 |25=>RRd L c true 1/\B1 (17+t) 1 L.M b/\r 1=(L.D:Int)
 |26=>RRd L c true 0/\B1 (17+t) 1 L.M b
 |27=>RRd L c false 0/\B1 (17+t) 1 L.M b
 |28=>RRd L c false 0/\B1 (17+t) 1 L.M b/\r 4=1
 |31=>RRd L c false 0/\B1 (17+t) 1 L.M b/\r 4=1
 |32=>RRd L c false 0/\B1 (17+t) 1 L.M b/\r 4=1/\r 5=1
 |33=>RRd L c false 0/\B1 (17+t) 1 L.M b/\r 6=1
 |34=>RRd L c false 0/\B1 (17+t) 1 L.M b/\r 6=1/\r 4=0
 |35=>RRd L c false 0/\B4 (17+t) L.M b/\r 6=1
 |39=>RRd L c false 0/\B4 (17+t) L.M b
 |40=>RRd L c false 0/\B4 (17+t) L.M b/\r 4=4294967295
 |41=>RFree L c b
 |42=>RFree L c b
 |43=>RFree L c b
 |44=>RFree L c b
 |45=>RFree L c b
 |46=>RFree L c b
 |47=>RFree L c b/\r 7=0
 |_=>False
def wrs (kd:Nat->Bool) (n:Nat):Nat:=sumT n fun i=>if kd i=true then 1 else 0
theorem wrs_succ (kd:Nat->Bool) (n:Nat):wrs kd (n+1)=wrs kd n+(if kd n=true then 1 else 0):=sumT_succ n _
def RLoc (kd:Nat->Bool) (rd:Nat) (bs:Nat->Nat) (L:RL) (t:Nat) (th:Th) (b:List Ent):Prop:=
 ∃n o,th.pc=((bs n+o:Nat):Int)/\((n<rd/\(th.st=0∨th.st=1)/\((kd n=true/\o<41/\wA L (wrs kd n) t th.regs b o)∨(kd n=false/\o<48/\rA L (wrs kd n) t th.regs b o)))∨(n=rd/\o=0/\(th.st=0∨th.st=2)/\RFree L (wrs kd n) b))
def rwS (s:Option (Int×Int)) (x:Evt):Option (Int×Int):=
 match s with
 |none=>none
 |some (w,r)=>if x.kind≠7 then some (w,r)else if x.k=1 then (if x.value≠0∨0<=w∨0<r then none else some (x.who,r))else if x.k=5 then (if x.value≠0∨0<=w then none else some (w,r+1))else if x.k=2 then (if w=x.who then some (-1,r)else some (w,r-1))else if x.k=3 then (if x.value≠0 then none else some (w,r))else some (w,r)
def rwScan (l:List Evt):Option (Int×Int):=l.foldl rwS (some (-1,0))
theorem rwScan_snoc (l:List Evt) (x:Evt):rwScan (l++[x])=rwS (rwScan l) x:=by unfold rwScan;rw [List.foldl_append];rfl
def nuR (x:Evt):Prop:=x.kind≠7/\x.kind≠6
theorem rwScan_quiet {l m:List Evt} (h: ∀x∈m,nuR x):rwScan (l++m)=rwScan l:=by
 induction m generalizing l with
 |nil=>rw [List.append_nil]
 |cons x m ih=>
  rw [show l++x::m=(l++[x])++m by simp,ih (fun y hy=>h y (by simp [hy])),rwScan_snoc]
  have hx:=(h x (by simp)).1
  cases hq:rwScan l with
  |none=>rfl
  |some q=>unfold rwS;obtain ⟨w,r⟩:=q;dsimp only;rw [if_pos hx]
def outE (t:Nat) (l:List Evt):List Int:=(l.filter fun x=>x.kind==6&&x.who==(t:Int)).map fun x=>x.value
theorem outE_quiet {t:Nat} {l m:List Evt} (h: ∀x∈m,x.kind≠6∨x.who≠(t:Int)):outE t (l++m)=outE t l:=by
 have e:m.filter (fun x=>x.kind==6&&x.who==(t:Int))=[]:=List.filter_eq_nil_iff.2 (fun x hx=>by rcases h x hx with q|q<;>simp [q])
 unfold outE
 rw [List.filter_append,e,List.append_nil]
theorem outE_snoc {t:Nat} {l:List Evt} {x:Evt} (h1:x.kind=6) (h2:x.who=(t:Int)):outE t (l++[x])=outE t l++[x.value]:=by
 unfold outE
 rw [List.filter_append,List.map_append,List.filter_cons_of_pos (by simp [h1,h2])]
 rfl
def curW:Option Nat->Int
 |none=> -1
 |some t=>(t:Int)
structure RG where
 w:Option Nat
 rs:Nat->Bool
 D:Nat
 iw:Option Nat
 ir:Nat->Bool
 wc:Nat->Nat
def b2n (b:Bool):Nat:=if b=true then 1 else 0
def RG.at_ (g:RG) (v:Vw) (t:Nat):RL:=⟨decide (g.w=some t),g.rs t,decide (g.iw=some t),g.ir t,g.wc t,v.mem (17+t),v.mem 0,g.D,outE t v.evs⟩
structure RwI (nt:Nat) (kd:Nat->Nat->Bool) (rd:Nat->Nat) (bs:Nat->Nat->Nat) (v:Vw) (g:RG):Prop where
 n8:nt<=8
 rd4: ∀t,t<nt->rd t<=4
 nx: ∀t n,bs t (n+1)=bs t n+(if kd t n=true then 41 else 48)
 sh0:g.w=none->v.mem 16=((sumT nt fun t=>b2n (g.rs t):Nat):Int)/\v.mem 0=(g.D:Int)
 sh1: ∀u,g.w=some u->v.mem 16=4294967295/\u<nt/\ ∀t,t<nt->g.rs t=false
 loc: ∀t,t<nt->RLoc (kd t) (rd t) (bs t) (g.at_ v t) t (v.th t) (v.bf t)
 D:g.D=sumT nt g.wc
 iwl: ∀u,g.iw=some u->u<nt
 scan:rwScan v.evs=some (curW g.iw,((sumT nt fun t=>b2n (g.ir t):Nat):Int))
section
variable {nt:Nat} {kd:Nat->Nat->Bool} {rd:Nat->Nat} {bs:Nat->Nat->Nat} {v:Vw} {g:RG} {t:Nat}
theorem RFree.other {L:RL} {c:Nat} {b:List Ent} (h:RFree L c b) {m0:Int} {D:Nat} (hd:L.D<=D):RFree {L with m0:=m0,D:=D} c b:=
 ⟨h.wt,h.rs,h.iw,h.ir,h.c,h.b,h.M,h.O.1.mono hd,h.O.2⟩
theorem RRd.other {L:RL} {c odd:Nat} {inn:Bool} (h:RRd L c inn odd) {m0:Int} {D:Nat} (hd:L.rs=true->D=L.D):RRd {L with m0:=m0,D:=D} c inn odd:=by
 have :=hd h.rs
 subst this
 exact ⟨h.wt,h.rs,h.iw,h.ir,h.c,h.O⟩
theorem wA_other {L:RL} {c:Nat} {r:Nat->Int} {b:List Ent} {o:Nat} (h:wA L c t r b o) {m0:Int} {D:Nat} (hw:L.wt=false) (hd:L.D<=D):wA {L with m0:=m0,D:=D} c t r b o:=by
 unfold wA at h⊢
 split at h
 all_goals first
  |exact h.elim
  |exact h.other hd
  |exact ⟨h.1.other hd,h.2⟩
  |exact absurd (h.wt.symm.trans hw) (by decide)
  |exact absurd (h.1.wt.symm.trans hw) (by decide)
  |exact .inl (h.elim (fun q=>⟨q.1.other hd,q.2⟩) (fun q=>absurd (q.1.wt.symm.trans hw) (by decide)))
theorem rA_other {L:RL} {c:Nat} {r:Nat->Int} {b:List Ent} {o:Nat} (h:rA L c t r b o) {m0:Int} {D:Nat} (hd:L.D<=D) (hr:L.rs=true->D=L.D):rA {L with m0:=m0,D:=D} c t r b o:=by
 unfold rA at h⊢
 split at h
 all_goals first
  |exact h.elim
  |exact h.other hd
  |exact ⟨h.1.other hd,h.2⟩
  |exact h.other hr
  |(have e:=hr h.1.rs;subst e;exact ⟨h.1.other (fun _=>rfl),h.2⟩)
  |(rcases h with q|q;exact .inl ⟨q.1.other hd,q.2⟩;have e:=hr q.1.rs;subst e;exact .inr ⟨q.1.other (fun _=>rfl),q.2⟩)
theorem RLoc.other {kd:Nat->Bool} {rd:Nat} {bs:Nat->Nat} {L:RL} {th:Th} {b:List Ent} (h:RLoc kd rd bs L t th b) {m0:Int} {D:Nat} (hw:L.wt=false) (hd:L.D<=D) (hr:L.rs=true->D=L.D):RLoc kd rd bs {L with m0:=m0,D:=D} t th b:=by
 obtain ⟨n,o,hp,h|h⟩:=h
 ·exact ⟨n,o,hp,.inl ⟨h.1,h.2.1,h.2.2.imp (fun q=>⟨q.1,q.2.1,wA_other q.2.2 hw hd⟩) (fun q=>⟨q.1,q.2.1,rA_other q.2.2 hd hr⟩)⟩⟩
 ·exact ⟨n,o,hp,.inr ⟨h.1,h.2.1,h.2.2.1,h.2.2.2.other hd⟩⟩
theorem RwI.turn (H:RwI nt kd rd bs v g) (ht:t<nt) {th:Th} {b:List Ent} {mem:Nat->Int} {l:List Evt} {g':RG}
 (hw: ∀u,u<nt->u≠t->(g.w≠some u/\g'.w≠some u)∨(g.w=some u/\g'.w=some u/\mem 0=v.mem 0/\g'.D=g.D)) (hrs: ∀u,u≠t->g'.rs u=g.rs u) (hiw: ∀u,u≠t->(g'.iw=some u↔g.iw=some u)) (hir: ∀u,u≠t->g'.ir u=g.ir u) (hwc: ∀u,u≠t->g'.wc u=g.wc u)
 (hD:g.D<=g'.D) (hDr:g'.D=g.D∨ ∀u,u<nt->g.rs u=false) (hM: ∀u,u≠t->mem (17+u)=v.mem (17+u)) (ho: ∀u,u≠t->outE u (v.evs++l)=outE u v.evs)
 (sh0:g'.w=none->mem 16=((sumT nt fun t=>b2n (g'.rs t):Nat):Int)/\mem 0=(g'.D:Int)) (sh1: ∀u,g'.w=some u->mem 16=4294967295/\u<nt/\ ∀t,t<nt->g'.rs t=false)
 (hD2:g'.D+g.wc t=g.D+g'.wc t) (iwl: ∀u,g'.iw=some u->u<nt) (scan:rwScan (v.evs++l)=some (curW g'.iw,((sumT nt fun t=>b2n (g'.ir t):Nat):Int)))
 (hloc:RLoc (kd t) (rd t) (bs t) ⟨decide (g'.w=some t),g'.rs t,decide (g'.iw=some t),g'.ir t,g'.wc t,mem (17+t),mem 0,g'.D,outE t (v.evs++l)⟩ t th b):RwI nt kd rd bs (v.mv t th b mem l) g':=by
 refine ⟨H.n8,H.rd4,H.nx,sh0,sh1,fun u hu=>?_,?_,iwl,scan⟩
 ·by_cases c:u=t
  ·subst c
   show RLoc (kd u) (rd u) (bs u) _ u (upd v.th u th u) (upd v.bf u b u)
   rw [upd_same,upd_same];exact hloc
  ·show RLoc (kd u) (rd u) (bs u) _ u (upd v.th t th u) (upd v.bf t b u)
   rw [upd_ne _ _ _ c,upd_ne _ _ _ c]
   have e:g'.at_ (v.mv t th b mem l) u=⟨decide (g'.w=some u),g.rs u,decide (g.iw=some u),g.ir u,g.wc u,v.mem (17+u),mem 0,g'.D,outE u v.evs⟩:=by
    unfold RG.at_ Vw.mv
    dsimp only
    rw [hrs u c,hir u c,hwc u c,hM u c,ho u c]
    congr 1
    exact decide_eq_decide.2 (hiw u c)
   rw [e]
   rcases hw u hu c with ⟨h1,h2⟩|⟨h1,h2,h3,h4⟩
   ·have :=(H.loc u hu).other (m0:=mem 0) (D:=g'.D) (decide_eq_false h1) hD (fun q=>hDr.elim id (fun z=>absurd (q.symm.trans (z u hu)) (by decide)))
    unfold RG.at_ at this
    dsimp only at this
    rw [decide_eq_false h1]at this
    rw [decide_eq_false h2]
    exact this
   ·have :=H.loc u hu
    unfold RG.at_ at this
    rw [decide_eq_true h1]at this
    rw [decide_eq_true h2,h3,h4]
    exact this
 ·have e:=sumT_upd (W:=nt) (t:=t) (f:=g.wc) (g:=g'.wc) ht (fun u _ hu=>hwc u hu)
  have :=H.D
  omega
theorem RwI.quiet (H:RwI nt kd rd bs v g) (ht:t<nt) {th:Th} {b:List Ent} {l:List Evt} (hl: ∀x∈l,nuR x) (hloc:RLoc (kd t) (rd t) (bs t) (g.at_ v t) t th b):RwI nt kd rd bs (v.mv t th b v.mem l) g:=by
 have ho: ∀u,outE u (v.evs++l)=outE u v.evs:=fun u=>outE_quiet (fun x hx=> .inl (hl x hx).2)
 refine H.turn ht (fun u hu hne=>?_) (fun _ _=>rfl) (fun _ _=>Iff.rfl) (fun _ _=>rfl) (fun _ _=>rfl) (Nat.le_refl _) (.inl rfl) (fun _ _=>rfl) (fun u _=>ho u) H.sh0 H.sh1 rfl H.iwl ((rwScan_quiet hl).trans H.scan) (by rw [ho];exact hloc)
 by_cases c:g.w=some u
 ·exact .inr ⟨c,c,rfl,rfl⟩
 ·exact .inl ⟨c,c⟩
theorem RwI.slp (H:RwI nt kd rd bs v g) (l:List Slp):RwI nt kd rd bs {v with slp:=l} g:=⟨H.n8,H.rd4,H.nx,H.sh0,H.sh1,H.loc,H.D,H.iwl,H.scan⟩
theorem RLoc.run {kd:Nat->Bool} {rd:Nat} {bs:Nat->Nat} {L:RL} {th:Th} {b:List Ent} (h:RLoc kd rd bs L t th b):RLoc kd rd bs L t ⟨th.pc,th.regs,0⟩ b:=by
 obtain ⟨n,o,hp,h|h⟩:=h
 ·exact ⟨n,o,hp,.inl ⟨h.1,.inl rfl,h.2.2⟩⟩
 ·exact ⟨n,o,hp,.inr ⟨h.1,h.2.1,.inl rfl,h.2.2.2⟩⟩
theorem RwI.run (H:RwI nt kd rd bs v g) (ws:List Int):RwI nt kd rd bs {v with th:=runV ws v.th} g:=by
 refine ⟨H.n8,H.rd4,H.nx,H.sh0,H.sh1,fun u hu=>?_,H.D,H.iwl,H.scan⟩
 show RLoc (kd u) (rd u) (bs u) (g.at_ v u) u (if (u:Int)∈ws then {v.th u with st:=0}else v.th u) (v.bf u)
 split
 ·exact (H.loc u hu).run
 ·exact H.loc u hu
theorem RwI.next (H:RwI nt kd rd bs v g) {L:RL} {n:Nat} {th:Th} {b:List Ent} (hpc:th.pc=((bs t n+(if kd t n=true then 41 else 48):Nat):Int)) (hn:n<rd t) (hst:th.st=0) (hf:RFree L (wrs (kd t) (n+1)) b):RLoc (kd t) (rd t) (bs t) L t th b:=by
 refine ⟨n+1,0,by rw [hpc,H.nx,Nat.add_zero],?_⟩
 rcases Nat.lt_or_ge (n+1) (rd t)with c|c
 ·refine .inl ⟨c,.inl hst,?_⟩
  cases hk:kd t (n+1)with
  |true=>exact .inl ⟨rfl,by decide,hf⟩
  |false=>exact .inr ⟨rfl,by decide,hf⟩
 ·exact .inr ⟨by omega,rfl,.inl hst,hf⟩
theorem B1.see {x:Int} {m:Nat->Int} {b:List Ent} (h:B1 (17+t) x (m (17+t)) b):seeV b m (17+t)=x:=by
 rcases h with ⟨rfl,_⟩|⟨rfl,e⟩
 ·unfold seeV;simp [fnB]
 ·exact e
theorem B1.see0 {x:Int} {m:Nat->Int} {b:List Ent} {M:Int} (h:B1 (17+t) x M b):seeV b m 0=m 0:=by
 rcases h with ⟨rfl,_⟩|⟨rfl,e⟩
 ·unfold seeV
  have : ¬((17+t:Nat):Int)=((0:Nat):Int):=by omega
  have e1:fnB [(((17+t:Nat):Int),x)] ((0:Nat):Int)=(0,false):=by
   unfold fnB fnB;rw [if_neg (by decide),if_neg this]
  rw [e1];rfl
 ·rfl
theorem B2.see {m:Nat->Int} {b:List Ent} {m0:Int} {D:Nat} (h:B2 (17+t) (m (17+t)) m0 D b):seeV b m (17+t)=2:=by
 have hne: ¬(0:Int)=((17+t:Nat):Int):=by omega
 rcases h with ⟨rfl,_⟩|⟨rfl,e,_⟩|⟨rfl,e,_⟩
 ·unfold seeV
  have e:fnB [(((17+t:Nat):Int),2),(0,(D:Int)+1)] ((17+t:Nat):Int)=(2,true):=by
   unfold fnB
   have e1:fnB [((0:Int),(D:Int)+1)] ((17+t:Nat):Int)=(0,false):=by
    unfold fnB fnB;rw [if_neg (by decide),if_neg hne]
   rw [e1,if_neg (by decide),if_pos rfl]
  rw [e];rfl
 ·unfold seeV
  have e1:fnB [((0:Int),(D:Int)+1)] ((17+t:Nat):Int)=(0,false):=by
   unfold fnB fnB;rw [if_neg (by decide),if_neg hne]
  rw [e1];exact e
 ·exact e
theorem RwI.note (H:RwI nt kd rd bs v g) (ht:t<nt) {th:Th} {b:List Ent} (x:Evt) (hx:x.kind=7) (hloc:RLoc (kd t) (rd t) (bs t) (g.at_ v t) t th b) (hs:rwScan (v.evs++[x])=rwScan v.evs):RwI nt kd rd bs (v.mv t th b v.mem [x]) g:=by
 have ho: ∀u,outE u (v.evs++[x])=outE u v.evs:=fun u=>outE_quiet (fun y hy=> .inl (by rw [List.mem_singleton.1 hy,hx];decide))
 refine H.turn ht (fun u hu hne=>?_) (fun _ _=>rfl) (fun _ _=>Iff.rfl) (fun _ _=>rfl) (fun _ _=>rfl) (Nat.le_refl _) (.inl rfl) (fun _ _=>rfl) (fun u _=>ho u) H.sh0 H.sh1 rfl H.iwl (hs.trans H.scan) (by rw [ho];exact hloc)
 by_cases c:g.w=some u
 ·exact .inr ⟨c,c,rfl,rfl⟩
 ·exact .inl ⟨c,c⟩
theorem wrs_le (kd:Nat->Bool) (n:Nat):wrs kd n<=n:=by
 have :=sumT_le (W:=n) (f:=fun i=>if kd i=true then 1 else 0) (k:=1) (fun i _=>by split<;>omega)
 unfold wrs
 omega
theorem RLoc.in_ {kd:Nat->Bool} {rd:Nat} {bs:Nat->Nat} {L:RL} {th:Th} {b:List Ent} (h:RLoc kd rd bs L t th b):(L.iw=true->L.wt=true)/\(L.ir=true->L.rs=true)/\L.c<=rd:=by
 have f1: ∀{c},RFree L c b->c<=rd->(L.iw=true->L.wt=true)/\(L.ir=true->L.rs=true)/\L.c<=rd:=fun q hc=>⟨(fun z=>absurd (z.symm.trans q.iw) (by decide)),(fun z=>absurd (z.symm.trans q.ir) (by decide)),by rw [q.c];exact hc⟩
 have f2: ∀{c i},RWr L c i->c<=rd->(L.iw=true->L.wt=true)/\(L.ir=true->L.rs=true)/\L.c<=rd:=fun q hc=>⟨fun _=>q.wt,(fun z=>absurd (z.symm.trans q.ir) (by decide)),by rw [q.c];exact hc⟩
 have f3: ∀{c i o},RRd L c i o->c<=rd->(L.iw=true->L.wt=true)/\(L.ir=true->L.rs=true)/\L.c<=rd:=fun q hc=>⟨(fun z=>absurd (z.symm.trans q.iw) (by decide)),fun _=>q.rs,by rw [q.c];exact hc⟩
 obtain ⟨n,o,hp,h|h⟩:=h
 ·have hle:=wrs_le kd n
  have hc:wrs kd n<=rd:=by have :=h.1;omega
  have hc1:wrs kd n+1<=rd:=by have :=h.1;omega
  rcases h.2.2 with q|q
  ·have hA:=q.2.2
   unfold wA at hA
   split at hA
   all_goals first
    |exact hA.elim
    |exact f1 hA hc
    |exact f1 hA hc1
    |exact f1 hA.1 hc
    |exact f1 hA.1 hc1
    |exact f2 hA.1 hc
    |exact hA.elim (fun q=>f1 q.1 hc) (fun q=>f2 q.1 hc)
  ·have hA:=q.2.2
   unfold rA at hA
   split at hA
   all_goals first
    |exact hA.elim
    |exact f1 hA hc
    |exact f1 hA.1 hc
    |exact f3 hA.1 hc
    |exact hA.elim (fun q=>f1 q.1 hc) (fun q=>f3 q.1 hc)
 ·exact f1 h.2.2.2 (by have :=wrs_le kd n;have :=h.1;omega)
theorem RwI.small (H:RwI nt kd rd bs v g):g.D<=32/\(sumT nt fun t=>b2n (g.rs t))<=8:=by
 have h1:=sumT_le (W:=nt) (f:=g.wc) (k:=4) (fun t ht=>by have :=(H.loc t ht).in_.2.2;have :=H.rd4 t ht;exact Nat.le_trans ‹_› ‹_›)
 have h2:=sumT_le (W:=nt) (f:=fun t=>b2n (g.rs t)) (k:=1) (fun t _=>by unfold b2n;split<;>omega)
 have :=H.n8
 have :=H.D
 omega
theorem sumT_zero {W:Nat} {f:Nat->Nat} (h:sumT W f=0): ∀t,t<W->f t=0:=by
 induction W with
 |zero=>exact fun t ht=>absurd ht (by omega)
 |succ W ih=>
  rw [sumT_succ]at h
  intro t ht
  rcases Nat.lt_or_ge t W with c|c
  ·exact ih (by omega) t c
  ·have :t=W:=by omega
   subst this;omega
theorem sumT_none {W:Nat} {f:Nat->Nat} (h: ∀t,t<W->f t=0):sumT W f=0:=by
 have :=sumT_le (W:=W) (f:=f) (k:=0) (fun t ht=>by rw [h t ht];exact Nat.le_refl _)
 omega
theorem b2n_no {x:Bool} (h:b2n x=0):x=false:=by cases x<;>first|rfl|cases h
theorem RwI.alone (H:RwI nt kd rd bs v g) (ht:t<nt) (hw:g.w=some t) (hi:g.iw≠some t):g.iw=none/\(sumT nt fun t=>b2n (g.ir t))=0:=by
 refine ⟨?_,sumT_none (fun u hu=>?_)⟩
 ·cases h:g.iw with
  |none=>rfl
  |some u=>
   have hu:=H.iwl u h
   have :=(H.loc u hu).in_.1 (decide_eq_true h)
   have e:g.w=some u:=of_decide_eq_true this
   rw [hw]at e
   rw [Option.some.inj e]at hi
   exact absurd h hi
 ·have h1:=(H.sh1 t hw).2.2 u hu
  cases h:g.ir u with
  |false=>rfl
  |true=>exact absurd (((H.loc u hu).in_.2.1 h).symm.trans h1) (by decide)
theorem RwI.reads (H:RwI nt kd rd bs v g) (ht:t<nt) (hr:g.rs t=true):g.w=none/\g.iw=none/\v.mem 0=(g.D:Int):=by
 have hw:g.w=none:=by
  cases h:g.w with
  |none=>rfl
  |some u=>exact absurd (((H.sh1 u h).2.2 t ht).symm.trans hr) (by decide)
 refine ⟨hw,?_,(H.sh0 hw).2⟩
 cases h:g.iw with
 |none=>rfl
 |some u=>
  have hu:=H.iwl u h
  have :=(H.loc u hu).in_.1 (decide_eq_true h)
  have e:g.w=some u:=of_decide_eq_true this
  rw [hw]at e;cases e
theorem sum_upd {f:Nat->Bool} (ht:t<nt) (x:Bool):(sumT nt fun u=>b2n (upd f t x u))+b2n (f t)=(sumT nt fun u=>b2n (f u))+b2n x:=by
 have :=sumT_upd (W:=nt) (t:=t) (f:=fun u=>b2n (f u)) (g:=fun u=>b2n (upd f t x u)) ht (fun u _ hu=>by rw [upd_ne _ _ _ hu])
 rw [upd_same]at this
 exact this
theorem nu4 {x:Evt} (h:x.kind=4): ∀y∈[x],nuR y:=fun y hy=>by rw [List.mem_singleton.1 hy];exact ⟨by rw [h];decide,by rw [h];decide⟩
theorem out4 (t:Nat) {l:List Evt} {x:Evt} (h:x.kind≠6):outE t (l++[x])=outE t l:=outE_quiet (fun y hy=> .inl (by rw [List.mem_singleton.1 hy];exact h))
theorem w_0 (H:RwI nt kd rd bs v g) (ht:t<nt) {n:Nat} {r:Nat->Int} (hn:n<rd t) (hk:kd t n=true) (hA:wA (g.at_ v t) (wrs (kd t) n) t r (v.bf t) 0): ∃g',RwI nt kd rd bs (execV t v (bs t n+0) r (.mark 0)) g':=by
 have hs:rwScan (v.evs++[⟨7,(t:Int),((bs t n+0:Nat):Int),0,r 7,0,((0:Nat):Int),false⟩])=rwScan v.evs:=by
  rw [rwScan_snoc,H.scan];rfl
 exact ⟨g,H.note ht _ rfl ⟨n,1,rfl,.inl ⟨hn,.inl rfl,.inl ⟨hk,by decide,by dsimp only [wA];exact hA⟩⟩⟩ hs⟩
theorem w_1 (H:RwI nt kd rd bs v g) (ht:t<nt) {n:Nat} {r:Nat->Int} (hn:n<rd t) (hk:kd t n=true) (hA:wA (g.at_ v t) (wrs (kd t) n) t r (v.bf t) 1): ∃g',RwI nt kd rd bs (execV t v (bs t n+1) r (.load 4 (17+t))) g':=by
 exact ⟨g,H.quiet ht (fun x hx=>by rw [List.mem_singleton.1 hx];exact ⟨(by decide:(1:Int)≠7),(by decide:(1:Int)≠6)⟩) ⟨n,2,rfl,.inl ⟨hn,.inl rfl,.inl ⟨hk,by decide,by dsimp only [wA];exact ⟨hA,by rw [updR_at,show v.bf t=[] from hA.b,seeV_nil];exact hA.M⟩⟩⟩⟩⟩
theorem w_2 (H:RwI nt kd rd bs v g) (ht:t<nt) {n:Nat} {r:Nat->Int} (hn:n<rd t) (hk:kd t n=true) (hA:wA (g.at_ v t) (wrs (kd t) n) t r (v.bf t) 2): ∃g',RwI nt kd rd bs (execV t v (bs t n+2) r (.zero 4 (bs t n+5))) g':=by
 dsimp only [execV]
 by_cases hz:r 4=0
 ·rw [if_pos hz]
  exact ⟨g,H.quiet ht (fun x hx=>by cases hx) ⟨n,5,rfl,.inl ⟨hn,.inl rfl,.inl ⟨hk,by decide,by dsimp only [wA];exact hA.1⟩⟩⟩⟩
 ·rw [if_neg hz]
  simp only [wA]at hA;simp_all
theorem w_5 (H:RwI nt kd rd bs v g) (ht:t<nt) {n:Nat} {r:Nat->Int} (hn:n<rd t) (hk:kd t n=true) (hA:wA (g.at_ v t) (wrs (kd t) n) t r (v.bf t) 5): ∃g',RwI nt kd rd bs (execV t v (bs t n+5) r (.set 4 0)) g':=by
 exact ⟨g,H.quiet ht (fun x hx=>by cases hx) ⟨n,6,rfl,.inl ⟨hn,.inl rfl,.inl ⟨hk,by decide,by dsimp only [wA];exact ⟨hA,updR_at _ _ _⟩⟩⟩⟩⟩
theorem w_6 (H:RwI nt kd rd bs v g) (ht:t<nt) {n:Nat} {r:Nat->Int} (hn:n<rd t) (hk:kd t n=true) (hA:wA (g.at_ v t) (wrs (kd t) n) t r (v.bf t) 6): ∃g',RwI nt kd rd bs (execV t v (bs t n+6) r (.set 5 4294967295)) g':=by
 exact ⟨g,H.quiet ht (fun x hx=>by cases hx) ⟨n,7,rfl,.inl ⟨hn,.inl rfl,.inl ⟨hk,by decide,by dsimp only [wA];exact ⟨hA.1,by rw [updR_ot _ _ _ _ (by decide)];exact hA.2,updR_at _ _ _⟩⟩⟩⟩⟩
theorem w_7 (H:RwI nt kd rd bs v g) (ht:t<nt) {n:Nat} {r:Nat->Int} (hn:n<rd t) (hk:kd t n=true) (hd:v.bf t=[]) (hA:wA (g.at_ v t) (wrs (kd t) n) t r (v.bf t) 7): ∃g',RwI nt kd rd bs (execV t v (bs t n+7) r (.cas 4 5 16)) g':=by
 obtain ⟨hf,h4,h5⟩:=hA
 dsimp only [execV]
 by_cases hz:v.mem 16=r 4
 ·rw [if_pos hz]
  rw [h4]at hz
  have hw:g.w=none:=by
   cases h:g.w with
   |none=>rfl
   |some u=>have :=(H.sh1 u h).1;omega
  have hs:=H.sh0 hw
  have hall: ∀u,u<nt->g.rs u=false:=fun u hu=>b2n_no (sumT_zero (W:=nt) (f:=fun u=>b2n (g.rs u)) (by have :=hs.1;omega) u hu)
  have eM:upd v.mem 16 (r 5) (17+t)=v.mem (17+t):=upd_ne _ _ _ (by omega)
  have e0:upd v.mem 16 (r 5) 0=v.mem 0:=upd_ne _ _ _ (by decide)
  refine ⟨{g with w:=some t},H.turn ht (fun u hu hne=> .inl ⟨by rw [hw];simp,by simp [Ne.symm hne]⟩) (fun _ _=>rfl) (fun _ _=>Iff.rfl) (fun _ _=>rfl) (fun _ _=>rfl) (Nat.le_refl _) (.inl rfl) (fun u hu=>upd_ne _ _ _ (by omega)) (fun u _=>out4 u (by show (4:Int)≠6;decide)) (fun q=>by cases q) (fun u hu=>⟨by rw [upd_same];exact h5,by rw [<-Option.some.inj hu];exact ht,hall⟩) rfl H.iwl ((rwScan_quiet (nu4 rfl)).trans H.scan) ⟨n,8,rfl,.inl ⟨hn,.inl rfl,.inl ⟨hk,by decide,.inr ⟨⟨?_,hf.rs,hf.iw,hf.ir,hf.c,?_⟩,⟨hf.b,eM.trans hf.M⟩,e0.trans hs.2,by dsimp only;rw [updR_at];exact hz⟩⟩⟩⟩⟩
  ·exact decide_eq_true rfl
  ·show okO g.D (outE t (v.evs++[_]))/\_;rw [out4 t (by show (4:Int)≠6;decide)];exact hf.O
 ·rw [if_neg hz]
  exact ⟨g,H.quiet ht (fun x hx=>by rw [List.mem_singleton.1 hx];exact ⟨(by decide:(4:Int)≠7),(by decide:(4:Int)≠6)⟩) ⟨n,8,rfl,.inl ⟨hn,.inl rfl,.inl ⟨hk,by decide,by dsimp only [wA];exact (.inl ⟨hf,by rw [updR_at];rw [h4]at hz;exact hz⟩)⟩⟩⟩⟩
theorem w_8 (H:RwI nt kd rd bs v g) (ht:t<nt) {n:Nat} {r:Nat->Int} (hn:n<rd t) (hk:kd t n=true) (hA:wA (g.at_ v t) (wrs (kd t) n) t r (v.bf t) 8): ∃g',RwI nt kd rd bs (execV t v (bs t n+8) r (.zero 4 (bs t n+11))) g':=by
 dsimp only [execV]
 by_cases hz:r 4=0
 ·rw [if_pos hz]
  exact ⟨g,H.quiet ht (fun x hx=>by cases hx) ⟨n,11,rfl,.inl ⟨hn,.inl rfl,.inl ⟨hk,by decide,by dsimp only [wA];exact (hA.elim (fun q=>absurd hz q.2) (fun q=>⟨q.1,q.2.1,q.2.2.1⟩))⟩⟩⟩⟩
 ·rw [if_neg hz]
  exact ⟨g,H.quiet ht (fun x hx=>by cases hx) ⟨n,9,rfl,.inl ⟨hn,.inl rfl,.inl ⟨hk,by decide,by dsimp only [wA];exact (hA.elim (fun q=>q.1) (fun q=>absurd q.2.2.2 hz))⟩⟩⟩⟩
theorem w_9 (H:RwI nt kd rd bs v g) (ht:t<nt) {n:Nat} {r:Nat->Int} (hn:n<rd t) (hk:kd t n=true) (hA:wA (g.at_ v t) (wrs (kd t) n) t r (v.bf t) 9): ∃g',RwI nt kd rd bs (execV t v (bs t n+9) r (.wait 4 16)) g':=by
 dsimp only [execV]
 by_cases hz:v.mem 16=r 4
 ·rw [if_pos hz]
  exact ⟨g,(H.quiet (th:=⟨((bs t n+9+1:Nat):Int),updR r 4 0,1⟩) (b:=v.bf t) ht (fun x hx=>by rw [List.mem_singleton.1 hx];exact ⟨(by decide:(8:Int)≠7),(by decide:(8:Int)≠6)⟩) ⟨n,10,rfl,.inl ⟨hn,.inr rfl,.inl ⟨hk,by decide,by dsimp only [wA];exact hA⟩⟩⟩).slp _⟩
 ·rw [if_neg hz]
  exact ⟨g,H.quiet ht (fun x hx=>by rw [List.mem_singleton.1 hx];exact ⟨(by decide:(8:Int)≠7),(by decide:(8:Int)≠6)⟩) ⟨n,10,rfl,.inl ⟨hn,.inl rfl,.inl ⟨hk,by decide,by dsimp only [wA];exact hA⟩⟩⟩⟩
theorem w_10 (H:RwI nt kd rd bs v g) (ht:t<nt) {n:Nat} {r:Nat->Int} (hn:n<rd t) (hk:kd t n=true) (hA:wA (g.at_ v t) (wrs (kd t) n) t r (v.bf t) 10): ∃g',RwI nt kd rd bs (execV t v (bs t n+10) r (.jump (bs t n+5))) g':=by
 exact ⟨g,H.quiet ht (fun x hx=>by cases hx) ⟨n,5,rfl,.inl ⟨hn,.inl rfl,.inl ⟨hk,by decide,by dsimp only [wA];exact hA⟩⟩⟩⟩
theorem w_11 (H:RwI nt kd rd bs v g) (ht:t<nt) {n:Nat} {r:Nat->Int} (hn:n<rd t) (hk:kd t n=true) (hA:wA (g.at_ v t) (wrs (kd t) n) t r (v.bf t) 11): ∃g',RwI nt kd rd bs (execV t v (bs t n+11) r (.set 4 2)) g':=by
 exact ⟨g,H.quiet ht (fun x hx=>by cases hx) ⟨n,12,rfl,.inl ⟨hn,.inl rfl,.inl ⟨hk,by decide,by dsimp only [wA];exact ⟨hA.1,hA.2.1,hA.2.2,updR_at _ _ _⟩⟩⟩⟩⟩
theorem w_12 (H:RwI nt kd rd bs v g) (ht:t<nt) {n:Nat} {r:Nat->Int} (hn:n<rd t) (hk:kd t n=true) (hA:wA (g.at_ v t) (wrs (kd t) n) t r (v.bf t) 12): ∃g',RwI nt kd rd bs (execV t v (bs t n+12) r (.store 4 (17+t))) g':=by
 exact ⟨g,H.quiet ht (fun x hx=>by rw [List.mem_singleton.1 hx];exact ⟨(by decide:(2:Int)≠7),(by decide:(2:Int)≠6)⟩) ⟨n,13,rfl,.inl ⟨hn,.inl rfl,.inl ⟨hk,by decide,by dsimp only [wA];exact ⟨hA.1,.inl ⟨by rw [show v.bf t=[] from hA.2.1.1,hA.2.2.2];rfl,hA.2.1.2⟩,hA.2.2.1⟩⟩⟩⟩⟩
theorem w_13 (H:RwI nt kd rd bs v g) (ht:t<nt) {n:Nat} {r:Nat->Int} (hn:n<rd t) (hk:kd t n=true) (hA:wA (g.at_ v t) (wrs (kd t) n) t r (v.bf t) 13): ∃g',RwI nt kd rd bs (execV t v (bs t n+13) r (.set 7 0)) g':=by
 exact ⟨g,H.quiet ht (fun x hx=>by cases hx) ⟨n,14,rfl,.inl ⟨hn,.inl rfl,.inl ⟨hk,by decide,by dsimp only [wA];exact ⟨hA.1,hA.2.1,hA.2.2,updR_at _ _ _⟩⟩⟩⟩⟩
theorem w_14 (H:RwI nt kd rd bs v g) (ht:t<nt) {n:Nat} {r:Nat->Int} (hn:n<rd t) (hk:kd t n=true) (hA:wA (g.at_ v t) (wrs (kd t) n) t r (v.bf t) 14): ∃g',RwI nt kd rd bs (execV t v (bs t n+14) r (.mark 1)) g':=by
 obtain ⟨h1,h2,h3,h7⟩:=hA
 have hw:g.w=some t:=of_decide_eq_true h1.wt
 have hi:g.iw≠some t:=of_decide_eq_false h1.iw
 obtain ⟨a1,a2⟩:=H.alone ht hw hi
 refine ⟨{g with iw:=some t},H.turn ht (fun u hu hne=> .inl ⟨by rw [hw];simp [Ne.symm hne],by rw [hw];simp [Ne.symm hne]⟩) (fun _ _=>rfl) (fun u hu=>⟨fun q=>absurd (Option.some.inj q).symm hu,fun q=>by rw [a1]at q;cases q⟩) (fun _ _=>rfl) (fun _ _=>rfl) (Nat.le_refl _) (.inl rfl) (fun _ _=>rfl) (fun u _=>out4 u (by show (7:Int)≠6;decide)) H.sh0 H.sh1 rfl (fun u hu=>by rw [<-Option.some.inj hu];exact ht) ?_ ⟨n,15,rfl,.inl ⟨hn,.inl rfl,.inl ⟨hk,by decide,⟨h1.wt,h1.rs,decide_eq_true rfl,h1.ir,h1.c,?_⟩,h2,h3⟩⟩⟩⟩
 ·rw [rwScan_snoc,H.scan,a1,a2]
  unfold rwS
  dsimp only
  rw [if_neg (by decide),if_pos (by decide),if_neg (by rw [h7];decide)];rfl
 ·show okO g.D (outE t (v.evs++[_]))/\_;rw [out4 t (by show (7:Int)≠6;decide)];exact h1.O
theorem w_15 (H:RwI nt kd rd bs v g) (ht:t<nt) {n:Nat} {r:Nat->Int} (hn:n<rd t) (hk:kd t n=true) (hA:wA (g.at_ v t) (wrs (kd t) n) t r (v.bf t) 15): ∃g',RwI nt kd rd bs (execV t v (bs t n+15) r (.load 1 0)) g':=by
 exact ⟨g,H.quiet ht (fun x hx=>by rw [List.mem_singleton.1 hx];exact ⟨(by decide:(1:Int)≠7),(by decide:(1:Int)≠6)⟩) ⟨n,16,rfl,.inl ⟨hn,.inl rfl,.inl ⟨hk,by decide,by dsimp only [wA];exact ⟨hA.1,hA.2.1,hA.2.2,by rw [updR_at,hA.2.1.see0];exact hA.2.2⟩⟩⟩⟩⟩
theorem w_16 (H:RwI nt kd rd bs v g) (ht:t<nt) {n:Nat} {r:Nat->Int} (hn:n<rd t) (hk:kd t n=true) (hA:wA (g.at_ v t) (wrs (kd t) n) t r (v.bf t) 16): ∃g',RwI nt kd rd bs (execV t v (bs t n+16) r (.set 2 1)) g':=by
 exact ⟨g,H.quiet ht (fun x hx=>by cases hx) ⟨n,17,rfl,.inl ⟨hn,.inl rfl,.inl ⟨hk,by decide,by dsimp only [wA];exact ⟨hA.1,hA.2.1,hA.2.2.1,by rw [updR_ot _ _ _ _ (by decide)];exact hA.2.2.2,updR_at _ _ _⟩⟩⟩⟩⟩
theorem w_17 (H:RwI nt kd rd bs v g) (ht:t<nt) {n:Nat} {r:Nat->Int} (hn:n<rd t) (hk:kd t n=true) (hA:wA (g.at_ v t) (wrs (kd t) n) t r (v.bf t) 17): ∃g',RwI nt kd rd bs (execV t v (bs t n+17) r (.add 1 1 2)) g':=by
 exact ⟨g,H.quiet ht (fun x hx=>by cases hx) ⟨n,18,rfl,.inl ⟨hn,.inl rfl,.inl ⟨hk,by decide,by dsimp only [wA];exact ⟨hA.1,hA.2.1,hA.2.2.1,by have :=H.small.1;rw [updR_at,hA.2.2.2.1,hA.2.2.2.2];show _=(g.D:Int)+1;have e:(g.at_ v t).D=g.D:=rfl;rw [e];omega⟩⟩⟩⟩⟩
theorem w_18 (H:RwI nt kd rd bs v g) (ht:t<nt) {n:Nat} {r:Nat->Int} (hn:n<rd t) (hk:kd t n=true) (hA:wA (g.at_ v t) (wrs (kd t) n) t r (v.bf t) 18): ∃g',RwI nt kd rd bs (execV t v (bs t n+18) r (.store 1 0)) g':=by
 exact ⟨g,H.quiet ht (fun x hx=>by rw [List.mem_singleton.1 hx];exact ⟨(by decide:(2:Int)≠7),(by decide:(2:Int)≠6)⟩) ⟨n,19,rfl,.inl ⟨hn,.inl rfl,.inl ⟨hk,by decide,by dsimp only [wA];exact ⟨hA.1,(hA.2.1.elim (fun q=> .inl ⟨by rw [q.1,hA.2.2.2];rfl,q.2,hA.2.2.1⟩) (fun q=> .inr (.inl ⟨by rw [q.1,hA.2.2.2];rfl,q.2,hA.2.2.1⟩)))⟩⟩⟩⟩⟩
theorem w_19 (H:RwI nt kd rd bs v g) (ht:t<nt) {n:Nat} {r:Nat->Int} (hn:n<rd t) (hk:kd t n=true) (hA:wA (g.at_ v t) (wrs (kd t) n) t r (v.bf t) 19): ∃g',RwI nt kd rd bs (execV t v (bs t n+19) r (.mark 2)) g':=by
 obtain ⟨h1,h2⟩:=hA
 have hw:g.w=some t:=of_decide_eq_true h1.wt
 have hi:g.iw=some t:=of_decide_eq_true h1.iw
 refine ⟨{g with iw:=none},H.turn ht (fun u hu hne=> .inl ⟨by rw [hw];simp [Ne.symm hne],by rw [hw];simp [Ne.symm hne]⟩) (fun _ _=>rfl) (fun u hu=>⟨(fun q=>by cases q),fun q=>by rw [hi]at q;exact absurd (Option.some.inj q).symm hu⟩) (fun _ _=>rfl) (fun _ _=>rfl) (Nat.le_refl _) (.inl rfl) (fun _ _=>rfl) (fun u _=>out4 u (by show (7:Int)≠6;decide)) H.sh0 H.sh1 rfl (fun u hu=>by cases hu) ?_ ⟨n,20,rfl,.inl ⟨hn,.inl rfl,.inl ⟨hk,by decide,⟨h1.wt,h1.rs,decide_eq_false (show¬(none:Option Nat)=some t from fun q=>by cases q),h1.ir,h1.c,?_⟩,h2⟩⟩⟩⟩
 ·rw [rwScan_snoc,H.scan,hi]
  unfold rwS
  dsimp only [curW]
  rw [if_neg (by decide),if_neg (by decide),if_neg (by decide),if_pos (by decide),if_pos rfl]
 ·show okO g.D (outE t (v.evs++[_]))/\_;rw [out4 t (by show (7:Int)≠6;decide)];exact h1.O
theorem w_20 (H:RwI nt kd rd bs v g) (ht:t<nt) {n:Nat} {r:Nat->Int} (hn:n<rd t) (hk:kd t n=true) (hA:wA (g.at_ v t) (wrs (kd t) n) t r (v.bf t) 20): ∃g',RwI nt kd rd bs (execV t v (bs t n+20) r (.load 4 (17+t))) g':=by
 exact ⟨g,H.quiet ht (fun x hx=>by rw [List.mem_singleton.1 hx];exact ⟨(by decide:(1:Int)≠7),(by decide:(1:Int)≠6)⟩) ⟨n,21,rfl,.inl ⟨hn,.inl rfl,.inl ⟨hk,by decide,by dsimp only [wA];exact ⟨hA.1,hA.2,by rw [updR_at];exact hA.2.see⟩⟩⟩⟩⟩
theorem w_21 (H:RwI nt kd rd bs v g) (ht:t<nt) {n:Nat} {r:Nat->Int} (hn:n<rd t) (hk:kd t n=true) (hA:wA (g.at_ v t) (wrs (kd t) n) t r (v.bf t) 21): ∃g',RwI nt kd rd bs (execV t v (bs t n+21) r (.some 4 (bs t n+24))) g':=by
 dsimp only [execV]
 by_cases hz:r 4=0
 ·rw [if_pos hz]
  simp only [wA]at hA;simp_all
 ·rw [if_neg hz]
  exact ⟨g,H.quiet ht (fun x hx=>by cases hx) ⟨n,24,rfl,.inl ⟨hn,.inl rfl,.inl ⟨hk,by decide,by dsimp only [wA];exact hA⟩⟩⟩⟩
theorem w_24 (H:RwI nt kd rd bs v g) (ht:t<nt) {n:Nat} {r:Nat->Int} (hn:n<rd t) (hk:kd t n=true) (hA:wA (g.at_ v t) (wrs (kd t) n) t r (v.bf t) 24): ∃g',RwI nt kd rd bs (execV t v (bs t n+24) r (.set 5 1)) g':=by
 exact ⟨g,H.quiet ht (fun x hx=>by cases hx) ⟨n,25,rfl,.inl ⟨hn,.inl rfl,.inl ⟨hk,by decide,by dsimp only [wA];exact ⟨hA.1,hA.2.1,by rw [updR_ot _ _ _ _ (by decide)];exact hA.2.2,updR_at _ _ _⟩⟩⟩⟩⟩
theorem w_25 (H:RwI nt kd rd bs v g) (ht:t<nt) {n:Nat} {r:Nat->Int} (hn:n<rd t) (hk:kd t n=true) (hA:wA (g.at_ v t) (wrs (kd t) n) t r (v.bf t) 25): ∃g',RwI nt kd rd bs (execV t v (bs t n+25) r (.same 6 4 5)) g':=by
 exact ⟨g,H.quiet ht (fun x hx=>by cases hx) ⟨n,26,rfl,.inl ⟨hn,.inl rfl,.inl ⟨hk,by decide,by dsimp only [wA];exact ⟨hA.1,hA.2.1,by rw [updR_at,hA.2.2.1,hA.2.2.2];rfl⟩⟩⟩⟩⟩
theorem w_26 (H:RwI nt kd rd bs v g) (ht:t<nt) {n:Nat} {r:Nat->Int} (hn:n<rd t) (hk:kd t n=true) (hA:wA (g.at_ v t) (wrs (kd t) n) t r (v.bf t) 26): ∃g',RwI nt kd rd bs (execV t v (bs t n+26) r (.set 4 0)) g':=by
 exact ⟨g,H.quiet ht (fun x hx=>by cases hx) ⟨n,27,rfl,.inl ⟨hn,.inl rfl,.inl ⟨hk,by decide,by dsimp only [wA];exact ⟨hA.1,hA.2.1,by rw [updR_ot _ _ _ _ (by decide)];exact hA.2.2,updR_at _ _ _⟩⟩⟩⟩⟩
theorem w_27 (H:RwI nt kd rd bs v g) (ht:t<nt) {n:Nat} {r:Nat->Int} (hn:n<rd t) (hk:kd t n=true) (hA:wA (g.at_ v t) (wrs (kd t) n) t r (v.bf t) 27): ∃g',RwI nt kd rd bs (execV t v (bs t n+27) r (.store 4 (17+t))) g':=by
 exact ⟨g,H.quiet ht (fun x hx=>by rw [List.mem_singleton.1 hx];exact ⟨(by decide:(2:Int)≠7),(by decide:(2:Int)≠6)⟩) ⟨n,28,rfl,.inl ⟨hn,.inl rfl,.inl ⟨hk,by decide,by dsimp only [wA];exact ⟨hA.1,(hA.2.1.elim (fun q=> .inl ⟨by rw [q.1,hA.2.2.2];rfl,q.2⟩) (fun q=> .inr (q.elim (fun q=> .inl ⟨by rw [q.1,hA.2.2.2];rfl,q.2⟩) (fun q=> .inr (.inl ⟨by rw [q.1,hA.2.2.2];rfl,q.2⟩))))),hA.2.2.1⟩⟩⟩⟩⟩
theorem w_28 (H:RwI nt kd rd bs v g) (ht:t<nt) {n:Nat} {r:Nat->Int} (hn:n<rd t) (hk:kd t n=true) (hA:wA (g.at_ v t) (wrs (kd t) n) t r (v.bf t) 28): ∃g',RwI nt kd rd bs (execV t v (bs t n+28) r (.some 6 (bs t n+32))) g':=by
 dsimp only [execV]
 by_cases hz:r 6=0
 ·rw [if_pos hz]
  exact ⟨g,H.quiet ht (fun x hx=>by cases hx) ⟨n,29,rfl,.inl ⟨hn,.inl rfl,.inl ⟨hk,by decide,by dsimp only [wA];exact ⟨hA.1,hA.2.1⟩⟩⟩⟩⟩
 ·rw [if_neg hz]
  exact ⟨g,H.quiet ht (fun x hx=>by cases hx) ⟨n,32,rfl,.inl ⟨hn,.inl rfl,.inl ⟨hk,by decide,by dsimp only [wA];exact (absurd hA.2.2 hz)⟩⟩⟩⟩
theorem w_29 (H:RwI nt kd rd bs v g) (ht:t<nt) {n:Nat} {r:Nat->Int} (hn:n<rd t) (hk:kd t n=true) (hA:wA (g.at_ v t) (wrs (kd t) n) t r (v.bf t) 29): ∃g',RwI nt kd rd bs (execV t v (bs t n+29) r (.set 4 0)) g':=by
 exact ⟨g,H.quiet ht (fun x hx=>by cases hx) ⟨n,30,rfl,.inl ⟨hn,.inl rfl,.inl ⟨hk,by decide,by dsimp only [wA];exact ⟨hA.1,hA.2,updR_at _ _ _⟩⟩⟩⟩⟩
theorem w_30 (H:RwI nt kd rd bs v g) (ht:t<nt) {n:Nat} {r:Nat->Int} (hn:n<rd t) (hk:kd t n=true) (hd:v.bf t=[]) (hA:wA (g.at_ v t) (wrs (kd t) n) t r (v.bf t) 30): ∃g',RwI nt kd rd bs (execV t v (bs t n+30) r (.swap 4 16)) g':=by
 obtain ⟨h1,h2,h4⟩:=hA
 have hw:g.w=some t:=of_decide_eq_true h1.wt
 have hall:=(H.sh1 t hw).2.2
 obtain ⟨hM,h0⟩:v.mem (17+t)=0/\v.mem 0=(g.D:Int)+1:=by
  rw [hd]at h2
  rcases h2 with ⟨q,_⟩|⟨q,_⟩|⟨q,_⟩|⟨_,q⟩
  ·cases q
  ·cases q
  ·cases q
  ·exact q
 have eM:upd v.mem 16 (r 4) (17+t)=v.mem (17+t):=upd_ne _ _ _ (by omega)
 have e0:upd v.mem 16 (r 4) 0=v.mem 0:=upd_ne _ _ _ (by decide)
 refine ⟨{g with w:=none,D:=g.D+1,wc:=upd g.wc t (g.wc t+1)},H.turn ht (fun u hu hne=> .inl ⟨by rw [hw];simp [Ne.symm hne],by simp⟩) (fun _ _=>rfl) (fun _ _=>Iff.rfl) (fun _ _=>rfl) (fun u hu=>upd_ne _ _ _ hu) (Nat.le_succ _) (.inr hall) (fun u hu=>upd_ne _ _ _ (by omega)) (fun u _=>out4 u (by show (4:Int)≠6;decide)) (fun _=>⟨?_,?_⟩) (fun u q=>by cases q) ?_ H.iwl ((rwScan_quiet (nu4 rfl)).trans H.scan) ⟨n,31,rfl,.inl ⟨hn,.inl rfl,.inl ⟨hk,by decide,⟨decide_eq_false (show¬(none:Option Nat)=some t from fun q=>by cases q),h1.rs,h1.iw,h1.ir,?_,hd,eM.trans hM,?_⟩⟩⟩⟩⟩
 ·rw [upd_same,h4,sumT_none (fun u hu=>by rw [hall u hu];rfl)];rfl
 ·rw [e0,h0];rfl
 ·show g.D+1+g.wc t=g.D+upd g.wc t (g.wc t+1) t;rw [upd_same];omega
 ·show upd g.wc t (g.wc t+1) t=_;rw [upd_same];have :g.wc t=_:=h1.c;omega
 ·show okO (g.D+1) (outE t (v.evs++[_]))/\_;rw [out4 t (by show (4:Int)≠6;decide)];exact ⟨h1.O.1.mono (Nat.le_succ _),h1.O.2⟩
theorem w_31 (H:RwI nt kd rd bs v g) (ht:t<nt) {n:Nat} {r:Nat->Int} (hn:n<rd t) (hk:kd t n=true) (hA:wA (g.at_ v t) (wrs (kd t) n) t r (v.bf t) 31): ∃g',RwI nt kd rd bs (execV t v (bs t n+31) r (.jump (bs t n+37))) g':=by
 exact ⟨g,H.quiet ht (fun x hx=>by cases hx) ⟨n,37,rfl,.inl ⟨hn,.inl rfl,.inl ⟨hk,by decide,by dsimp only [wA];exact hA⟩⟩⟩⟩
theorem w_37 (H:RwI nt kd rd bs v g) (ht:t<nt) {n:Nat} {r:Nat->Int} (hn:n<rd t) (hk:kd t n=true) (hA:wA (g.at_ v t) (wrs (kd t) n) t r (v.bf t) 37): ∃g',RwI nt kd rd bs (execV t v (bs t n+37) r (.set 4 4294967295)) g':=by
 exact ⟨g,H.quiet ht (fun x hx=>by cases hx) ⟨n,38,rfl,.inl ⟨hn,.inl rfl,.inl ⟨hk,by decide,by dsimp only [wA];exact hA⟩⟩⟩⟩
theorem w_38 (H:RwI nt kd rd bs v g) (ht:t<nt) {n:Nat} {r:Nat->Int} (hn:n<rd t) (hk:kd t n=true) (hA:wA (g.at_ v t) (wrs (kd t) n) t r (v.bf t) 38): ∃g',RwI nt kd rd bs (execV t v (bs t n+38) r (.wake 4 16)) g':=by
 obtain ⟨w,hw⟩: ∃w,wk ((16:Nat):Int) (r 4).toNat v.slp=w:=⟨_,rfl⟩
 have K:=((H.run w.2).slp w.1).quiet ht (l:=[⟨9,(t:Int),((bs t n+38:Nat):Int),((16:Nat):Int),(w.2.length:Int),0,0,false⟩]) (fun x hx=>by rw [List.mem_singleton.1 hx];exact ⟨(by decide:(9:Int)≠7),(by decide:(9:Int)≠6)⟩) (th:=⟨((bs t n+38+1:Nat):Int),updR r 4 (w.2.length:Int),0⟩) (b:=v.bf t) ⟨n,39,rfl,.inl ⟨hn,.inl rfl,.inl ⟨hk,by decide,by dsimp only [wA];exact hA⟩⟩⟩
 refine ⟨g,?_⟩
 dsimp only [execV]
 rw [hw]
 unfold Vw.mv at K
 simp only [upd_self]at K
 exact K
theorem w_39 (H:RwI nt kd rd bs v g) (ht:t<nt) {n:Nat} {r:Nat->Int} (hn:n<rd t) (hk:kd t n=true) (hA:wA (g.at_ v t) (wrs (kd t) n) t r (v.bf t) 39): ∃g',RwI nt kd rd bs (execV t v (bs t n+39) r (.set 7 0)) g':=by
 exact ⟨g,H.quiet ht (fun x hx=>by cases hx) ⟨n,40,rfl,.inl ⟨hn,.inl rfl,.inl ⟨hk,by decide,by dsimp only [wA];exact ⟨hA,updR_at _ _ _⟩⟩⟩⟩⟩
theorem w_40 (H:RwI nt kd rd bs v g) (ht:t<nt) {n:Nat} {r:Nat->Int} (hn:n<rd t) (hk:kd t n=true) (hA:wA (g.at_ v t) (wrs (kd t) n) t r (v.bf t) 40): ∃g',RwI nt kd rd bs (execV t v (bs t n+40) r (.mark 3)) g':=by
 obtain ⟨h1,h2⟩:=hA
 have hs:rwScan (v.evs++[⟨7,(t:Int),((bs t n+40:Nat):Int),0,r 7,0,((3:Nat):Int),false⟩])=rwScan v.evs:=by
  rw [rwScan_snoc,H.scan];unfold rwS;dsimp only;rw [if_neg (by decide),if_neg (by decide),if_neg (by decide),if_neg (by decide),if_pos (by decide),if_neg (by rw [h2];decide)]
 exact ⟨g,H.note ht _ rfl (H.next (n:=n) (by rw [hk];rfl) hn rfl (by rw [wrs_succ,hk];exact h1)) hs⟩
theorem r_0 (H:RwI nt kd rd bs v g) (ht:t<nt) {n:Nat} {r:Nat->Int} (hn:n<rd t) (hk:kd t n=false) (hA:rA (g.at_ v t) (wrs (kd t) n) t r (v.bf t) 0): ∃g',RwI nt kd rd bs (execV t v (bs t n+0) r (.mark 4)) g':=by
 have hs:rwScan (v.evs++[⟨7,(t:Int),((bs t n+0:Nat):Int),0,r 7,0,((4:Nat):Int),false⟩])=rwScan v.evs:=by
  rw [rwScan_snoc,H.scan];rfl
 exact ⟨g,H.note ht _ rfl ⟨n,1,rfl,.inl ⟨hn,.inl rfl,.inr ⟨hk,by decide,by dsimp only [rA];exact hA⟩⟩⟩ hs⟩
theorem r_1 (H:RwI nt kd rd bs v g) (ht:t<nt) {n:Nat} {r:Nat->Int} (hn:n<rd t) (hk:kd t n=false) (hA:rA (g.at_ v t) (wrs (kd t) n) t r (v.bf t) 1): ∃g',RwI nt kd rd bs (execV t v (bs t n+1) r (.load 4 (17+t))) g':=by
 exact ⟨g,H.quiet ht (fun x hx=>by rw [List.mem_singleton.1 hx];exact ⟨(by decide:(1:Int)≠7),(by decide:(1:Int)≠6)⟩) ⟨n,2,rfl,.inl ⟨hn,.inl rfl,.inr ⟨hk,by decide,by dsimp only [rA];exact ⟨hA,by rw [updR_at,show v.bf t=[] from hA.b,seeV_nil];exact hA.M⟩⟩⟩⟩⟩
theorem r_2 (H:RwI nt kd rd bs v g) (ht:t<nt) {n:Nat} {r:Nat->Int} (hn:n<rd t) (hk:kd t n=false) (hA:rA (g.at_ v t) (wrs (kd t) n) t r (v.bf t) 2): ∃g',RwI nt kd rd bs (execV t v (bs t n+2) r (.zero 4 (bs t n+5))) g':=by
 dsimp only [execV]
 by_cases hz:r 4=0
 ·rw [if_pos hz]
  exact ⟨g,H.quiet ht (fun x hx=>by cases hx) ⟨n,5,rfl,.inl ⟨hn,.inl rfl,.inr ⟨hk,by decide,by dsimp only [rA];exact hA.1⟩⟩⟩⟩
 ·rw [if_neg hz]
  simp only [rA]at hA;simp_all
theorem r_5 (H:RwI nt kd rd bs v g) (ht:t<nt) {n:Nat} {r:Nat->Int} (hn:n<rd t) (hk:kd t n=false) (hA:rA (g.at_ v t) (wrs (kd t) n) t r (v.bf t) 5): ∃g',RwI nt kd rd bs (execV t v (bs t n+5) r (.load 4 16)) g':=by
 exact ⟨g,H.quiet ht (fun x hx=>by rw [List.mem_singleton.1 hx];exact ⟨(by decide:(1:Int)≠7),(by decide:(1:Int)≠6)⟩) ⟨n,6,rfl,.inl ⟨hn,.inl rfl,.inr ⟨hk,by decide,by dsimp only [rA];exact hA⟩⟩⟩⟩
theorem r_6 (H:RwI nt kd rd bs v g) (ht:t<nt) {n:Nat} {r:Nat->Int} (hn:n<rd t) (hk:kd t n=false) (hA:rA (g.at_ v t) (wrs (kd t) n) t r (v.bf t) 6): ∃g',RwI nt kd rd bs (execV t v (bs t n+6) r (.set 5 4294967295)) g':=by
 exact ⟨g,H.quiet ht (fun x hx=>by cases hx) ⟨n,7,rfl,.inl ⟨hn,.inl rfl,.inr ⟨hk,by decide,by dsimp only [rA];exact ⟨hA,updR_at _ _ _⟩⟩⟩⟩⟩
theorem r_7 (H:RwI nt kd rd bs v g) (ht:t<nt) {n:Nat} {r:Nat->Int} (hn:n<rd t) (hk:kd t n=false) (hA:rA (g.at_ v t) (wrs (kd t) n) t r (v.bf t) 7): ∃g',RwI nt kd rd bs (execV t v (bs t n+7) r (.same 6 4 5)) g':=by
 exact ⟨g,H.quiet ht (fun x hx=>by cases hx) ⟨n,8,rfl,.inl ⟨hn,.inl rfl,.inr ⟨hk,by decide,by dsimp only [rA];exact ⟨hA.1,fun q z=>by rw [updR_ot _ _ _ _ (by decide)]at z;rw [updR_at,hA.2,if_pos z]at q;cases q⟩⟩⟩⟩⟩
theorem r_8 (H:RwI nt kd rd bs v g) (ht:t<nt) {n:Nat} {r:Nat->Int} (hn:n<rd t) (hk:kd t n=false) (hA:rA (g.at_ v t) (wrs (kd t) n) t r (v.bf t) 8): ∃g',RwI nt kd rd bs (execV t v (bs t n+8) r (.some 6 (bs t n+19))) g':=by
 dsimp only [execV]
 by_cases hz:r 6=0
 ·rw [if_pos hz]
  exact ⟨g,H.quiet ht (fun x hx=>by cases hx) ⟨n,9,rfl,.inl ⟨hn,.inl rfl,.inr ⟨hk,by decide,by dsimp only [rA];exact ⟨hA.1,hA.2 hz⟩⟩⟩⟩⟩
 ·rw [if_neg hz]
  exact ⟨g,H.quiet ht (fun x hx=>by cases hx) ⟨n,19,rfl,.inl ⟨hn,.inl rfl,.inr ⟨hk,by decide,by dsimp only [rA];exact hA.1⟩⟩⟩⟩
theorem r_9 (H:RwI nt kd rd bs v g) (ht:t<nt) {n:Nat} {r:Nat->Int} (hn:n<rd t) (hk:kd t n=false) (hA:rA (g.at_ v t) (wrs (kd t) n) t r (v.bf t) 9): ∃g',RwI nt kd rd bs (execV t v (bs t n+9) r (.set 5 1)) g':=by
 exact ⟨g,H.quiet ht (fun x hx=>by cases hx) ⟨n,10,rfl,.inl ⟨hn,.inl rfl,.inr ⟨hk,by decide,by dsimp only [rA];exact ⟨hA.1,by rw [updR_ot _ _ _ _ (by decide)];exact hA.2,updR_at _ _ _⟩⟩⟩⟩⟩
theorem r_10 (H:RwI nt kd rd bs v g) (ht:t<nt) {n:Nat} {r:Nat->Int} (hn:n<rd t) (hk:kd t n=false) (hA:rA (g.at_ v t) (wrs (kd t) n) t r (v.bf t) 10): ∃g',RwI nt kd rd bs (execV t v (bs t n+10) r (.add 5 4 5)) g':=by
 exact ⟨g,H.quiet ht (fun x hx=>by cases hx) ⟨n,11,rfl,.inl ⟨hn,.inl rfl,.inr ⟨hk,by decide,by dsimp only [rA];exact ⟨hA.1,by rw [updR_ot _ _ _ _ (by decide)];exact hA.2.1,by rw [updR_at,updR_ot _ _ _ _ (by decide),hA.2.2]⟩⟩⟩⟩⟩
theorem r_11 (H:RwI nt kd rd bs v g) (ht:t<nt) {n:Nat} {r:Nat->Int} (hn:n<rd t) (hk:kd t n=false) (hA:rA (g.at_ v t) (wrs (kd t) n) t r (v.bf t) 11): ∃g',RwI nt kd rd bs (execV t v (bs t n+11) r (.move 6 4)) g':=by
 exact ⟨g,H.quiet ht (fun x hx=>by cases hx) ⟨n,12,rfl,.inl ⟨hn,.inl rfl,.inr ⟨hk,by decide,by dsimp only [rA];exact ⟨hA.1,by rw [updR_ot _ _ _ _ (by decide)];exact hA.2.1,by rw [updR_ot _ _ _ _ (by decide),updR_ot _ _ _ _ (by decide)];exact hA.2.2,by rw [updR_at,updR_ot _ _ _ _ (by decide)]⟩⟩⟩⟩⟩
theorem r_12 (H:RwI nt kd rd bs v g) (ht:t<nt) {n:Nat} {r:Nat->Int} (hn:n<rd t) (hk:kd t n=false) (hd:v.bf t=[]) (hA:rA (g.at_ v t) (wrs (kd t) n) t r (v.bf t) 12): ∃g',RwI nt kd rd bs (execV t v (bs t n+12) r (.cas 4 5 16)) g':=by
 obtain ⟨hf,h4,h5,h6⟩:=hA
 dsimp only [execV]
 by_cases hz:v.mem 16=r 4
 ·rw [if_pos hz]
  have hw:g.w=none:=by
   cases h:g.w with
   |none=>rfl
   |some u=>have :=(H.sh1 u h).1;omega
  have hs:=H.sh0 hw
  have hsm:=H.small.2
  have hr0:g.rs t=false:=hf.rs
  have hsum:=sum_upd (f:=g.rs) ht true
  rw [hr0]at hsum
  have eM:upd v.mem 16 (r 5) (17+t)=v.mem (17+t):=upd_ne _ _ _ (by omega)
  have e0:upd v.mem 16 (r 5) 0=v.mem 0:=upd_ne _ _ _ (by decide)
  refine ⟨{g with rs:=upd g.rs t true},H.turn ht (fun u hu hne=> .inl ⟨by rw [hw];simp,by rw [hw];simp⟩) (fun u hu=>upd_ne _ _ _ hu) (fun _ _=>Iff.rfl) (fun _ _=>rfl) (fun _ _=>rfl) (Nat.le_refl _) (.inl rfl) (fun u hu=>upd_ne _ _ _ (by omega)) (fun u _=>out4 u (by show (4:Int)≠6;decide)) (fun _=>⟨?_,e0.trans hs.2⟩) (fun u q=>by rw [hw]at q;cases q) rfl H.iwl ((rwScan_quiet (nu4 rfl)).trans H.scan) ⟨n,13,rfl,.inl ⟨hn,.inl rfl,.inr ⟨hk,by decide,.inr ⟨⟨hf.wt,upd_same _ _ _,hf.iw,hf.ir,hf.c,?_⟩,⟨hf.b,eM.trans hf.M⟩,by dsimp only;rw [updR_at,updR_ot _ _ _ _ (by decide),h6];exact hz⟩⟩⟩⟩⟩
  ·rw [upd_same,h5];have h1:b2n true=1:=rfl;have h2:b2n false=0:=rfl;have :=hs.1;show _=((sumT nt fun u=>b2n (upd g.rs t true u):Nat):Int);omega
  ·show okO g.D (outE t (v.evs++[_]))/\_;rw [out4 t (by show (4:Int)≠6;decide)];exact ⟨hf.O.1,hf.O.2,fun q=>by cases q⟩
 ·rw [if_neg hz]
  exact ⟨g,H.quiet ht (fun x hx=>by rw [List.mem_singleton.1 hx];exact ⟨(by decide:(4:Int)≠7),(by decide:(4:Int)≠6)⟩) ⟨n,13,rfl,.inl ⟨hn,.inl rfl,.inr ⟨hk,by decide,by dsimp only [rA];exact (.inl ⟨hf,by rw [updR_at,updR_ot _ _ _ _ (by decide),h6];exact hz⟩)⟩⟩⟩⟩
theorem r_13 (H:RwI nt kd rd bs v g) (ht:t<nt) {n:Nat} {r:Nat->Int} (hn:n<rd t) (hk:kd t n=false) (hA:rA (g.at_ v t) (wrs (kd t) n) t r (v.bf t) 13): ∃g',RwI nt kd rd bs (execV t v (bs t n+13) r (.same 6 4 6)) g':=by
 exact ⟨g,H.quiet ht (fun x hx=>by cases hx) ⟨n,14,rfl,.inl ⟨hn,.inl rfl,.inr ⟨hk,by decide,by dsimp only [rA];exact (hA.elim (fun q=> .inl ⟨q.1,by rw [updR_at,if_neg q.2]⟩) (fun q=> .inr ⟨q.1,q.2.1,by rw [updR_at,if_pos q.2.2]⟩))⟩⟩⟩⟩
theorem r_14 (H:RwI nt kd rd bs v g) (ht:t<nt) {n:Nat} {r:Nat->Int} (hn:n<rd t) (hk:kd t n=false) (hA:rA (g.at_ v t) (wrs (kd t) n) t r (v.bf t) 14): ∃g',RwI nt kd rd bs (execV t v (bs t n+14) r (.zero 6 (bs t n+5))) g':=by
 dsimp only [execV]
 by_cases hz:r 6=0
 ·rw [if_pos hz]
  exact ⟨g,H.quiet ht (fun x hx=>by cases hx) ⟨n,5,rfl,.inl ⟨hn,.inl rfl,.inr ⟨hk,by decide,by dsimp only [rA];exact (hA.elim (fun q=>q.1) (fun q=>absurd (hz.symm.trans q.2.2) (by decide)))⟩⟩⟩⟩
 ·rw [if_neg hz]
  exact ⟨g,H.quiet ht (fun x hx=>by cases hx) ⟨n,15,rfl,.inl ⟨hn,.inl rfl,.inr ⟨hk,by decide,by dsimp only [rA];exact (hA.elim (fun q=>absurd q.2 hz) (fun q=>⟨q.1,q.2.1⟩))⟩⟩⟩⟩
theorem r_15 (H:RwI nt kd rd bs v g) (ht:t<nt) {n:Nat} {r:Nat->Int} (hn:n<rd t) (hk:kd t n=false) (hA:rA (g.at_ v t) (wrs (kd t) n) t r (v.bf t) 15): ∃g',RwI nt kd rd bs (execV t v (bs t n+15) r (.set 4 1)) g':=by
 exact ⟨g,H.quiet ht (fun x hx=>by cases hx) ⟨n,16,rfl,.inl ⟨hn,.inl rfl,.inr ⟨hk,by decide,by dsimp only [rA];exact ⟨hA.1,hA.2,updR_at _ _ _⟩⟩⟩⟩⟩
theorem r_16 (H:RwI nt kd rd bs v g) (ht:t<nt) {n:Nat} {r:Nat->Int} (hn:n<rd t) (hk:kd t n=false) (hA:rA (g.at_ v t) (wrs (kd t) n) t r (v.bf t) 16): ∃g',RwI nt kd rd bs (execV t v (bs t n+16) r (.store 4 (17+t))) g':=by
 exact ⟨g,H.quiet ht (fun x hx=>by rw [List.mem_singleton.1 hx];exact ⟨(by decide:(2:Int)≠7),(by decide:(2:Int)≠6)⟩) ⟨n,17,rfl,.inl ⟨hn,.inl rfl,.inr ⟨hk,by decide,by dsimp only [rA];exact ⟨hA.1,.inl ⟨by rw [show v.bf t=[] from hA.2.1.1,hA.2.2];rfl,hA.2.1.2⟩⟩⟩⟩⟩⟩
theorem r_17 (H:RwI nt kd rd bs v g) (ht:t<nt) {n:Nat} {r:Nat->Int} (hn:n<rd t) (hk:kd t n=false) (hA:rA (g.at_ v t) (wrs (kd t) n) t r (v.bf t) 17): ∃g',RwI nt kd rd bs (execV t v (bs t n+17) r (.set 7 0)) g':=by
 exact ⟨g,H.quiet ht (fun x hx=>by cases hx) ⟨n,18,rfl,.inl ⟨hn,.inl rfl,.inr ⟨hk,by decide,by dsimp only [rA];exact ⟨hA.1,hA.2,updR_at _ _ _⟩⟩⟩⟩⟩
theorem r_18 (H:RwI nt kd rd bs v g) (ht:t<nt) {n:Nat} {r:Nat->Int} (hn:n<rd t) (hk:kd t n=false) (hA:rA (g.at_ v t) (wrs (kd t) n) t r (v.bf t) 18): ∃g',RwI nt kd rd bs (execV t v (bs t n+18) r (.jump (bs t n+21))) g':=by
 exact ⟨g,H.quiet ht (fun x hx=>by cases hx) ⟨n,21,rfl,.inl ⟨hn,.inl rfl,.inr ⟨hk,by decide,by dsimp only [rA];exact hA⟩⟩⟩⟩
theorem r_19 (H:RwI nt kd rd bs v g) (ht:t<nt) {n:Nat} {r:Nat->Int} (hn:n<rd t) (hk:kd t n=false) (hA:rA (g.at_ v t) (wrs (kd t) n) t r (v.bf t) 19): ∃g',RwI nt kd rd bs (execV t v (bs t n+19) r (.wait 4 16)) g':=by
 dsimp only [execV]
 by_cases hz:v.mem 16=r 4
 ·rw [if_pos hz]
  exact ⟨g,(H.quiet (th:=⟨((bs t n+19+1:Nat):Int),updR r 4 0,1⟩) (b:=v.bf t) ht (fun x hx=>by rw [List.mem_singleton.1 hx];exact ⟨(by decide:(8:Int)≠7),(by decide:(8:Int)≠6)⟩) ⟨n,20,rfl,.inl ⟨hn,.inr rfl,.inr ⟨hk,by decide,by dsimp only [rA];exact hA⟩⟩⟩).slp _⟩
 ·rw [if_neg hz]
  exact ⟨g,H.quiet ht (fun x hx=>by rw [List.mem_singleton.1 hx];exact ⟨(by decide:(8:Int)≠7),(by decide:(8:Int)≠6)⟩) ⟨n,20,rfl,.inl ⟨hn,.inl rfl,.inr ⟨hk,by decide,by dsimp only [rA];exact hA⟩⟩⟩⟩
theorem r_20 (H:RwI nt kd rd bs v g) (ht:t<nt) {n:Nat} {r:Nat->Int} (hn:n<rd t) (hk:kd t n=false) (hA:rA (g.at_ v t) (wrs (kd t) n) t r (v.bf t) 20): ∃g',RwI nt kd rd bs (execV t v (bs t n+20) r (.jump (bs t n+5))) g':=by
 exact ⟨g,H.quiet ht (fun x hx=>by cases hx) ⟨n,5,rfl,.inl ⟨hn,.inl rfl,.inr ⟨hk,by decide,by dsimp only [rA];exact hA⟩⟩⟩⟩
theorem r_21 (H:RwI nt kd rd bs v g) (ht:t<nt) {n:Nat} {r:Nat->Int} (hn:n<rd t) (hk:kd t n=false) (hA:rA (g.at_ v t) (wrs (kd t) n) t r (v.bf t) 21): ∃g',RwI nt kd rd bs (execV t v (bs t n+21) r (.mark 5)) g':=by
 obtain ⟨h1,h2,h7⟩:=hA
 obtain ⟨a0,a1,a2⟩:=H.reads ht h1.rs
 have hsum:=sum_upd (f:=g.ir) ht true
 rw [show g.ir t=false from h1.ir]at hsum
 refine ⟨{g with ir:=upd g.ir t true},H.turn ht (fun u hu hne=> .inl ⟨by rw [a0];simp,by rw [a0];simp⟩) (fun _ _=>rfl) (fun _ _=>Iff.rfl) (fun u hu=>upd_ne _ _ _ hu) (fun _ _=>rfl) (Nat.le_refl _) (.inl rfl) (fun _ _=>rfl) (fun u _=>out4 u (by show (7:Int)≠6;decide)) H.sh0 H.sh1 rfl H.iwl ?_ ⟨n,22,rfl,.inl ⟨hn,.inl rfl,.inr ⟨hk,by decide,⟨h1.wt,h1.rs,h1.iw,upd_same _ _ _,h1.c,?_⟩,h2⟩⟩⟩⟩
 ·rw [rwScan_snoc,H.scan,a1]
  unfold rwS
  dsimp only [curW]
  rw [if_neg (by decide),if_neg (by decide),if_pos (by decide),if_neg (by rw [h7];decide)]
  have e1:b2n true=1:=rfl
  have e2:b2n false=0:=rfl
  congr 2
  show _=((sumT nt fun u=>b2n (upd g.ir t true u):Nat):Int)
  omega
 ·show okO g.D (outE t (v.evs++[_]))/\_;rw [out4 t (by show (7:Int)≠6;decide)];exact h1.O
theorem r_22 (H:RwI nt kd rd bs v g) (ht:t<nt) {n:Nat} {r:Nat->Int} (hn:n<rd t) (hk:kd t n=false) (hA:rA (g.at_ v t) (wrs (kd t) n) t r (v.bf t) 22): ∃g',RwI nt kd rd bs (execV t v (bs t n+22) r (.load 1 0)) g':=by
 exact ⟨g,H.quiet ht (fun x hx=>by rw [List.mem_singleton.1 hx];exact ⟨(by decide:(1:Int)≠7),(by decide:(1:Int)≠6)⟩) ⟨n,23,rfl,.inl ⟨hn,.inl rfl,.inr ⟨hk,by decide,by dsimp only [rA];exact ⟨hA.1,hA.2,by rw [updR_at,hA.2.see0];exact (H.reads ht hA.1.rs).2.2⟩⟩⟩⟩⟩
theorem r_23 (H:RwI nt kd rd bs v g) (ht:t<nt) {n:Nat} {r:Nat->Int} (hn:n<rd t) (hk:kd t n=false) (hA:rA (g.at_ v t) (wrs (kd t) n) t r (v.bf t) 23): ∃g',RwI nt kd rd bs (execV t v (bs t n+23) r (.out 1)) g':=by
 obtain ⟨h1,h2,h3⟩:=hA
 have hw:=(H.reads ht h1.rs).1
 have e:outE t (v.evs++[⟨6,(t:Int),((bs t n+23:Nat):Int),0,r 1,0,0,false⟩])=outE t v.evs++[(g.D:Int)]:=by
  rw [outE_snoc rfl rfl];exact congrArg (fun z=>outE t v.evs++[z]) h3
 refine ⟨g,H.turn ht (fun u hu hne=> .inl ⟨by rw [hw];simp,by rw [hw];simp⟩) (fun _ _=>rfl) (fun _ _=>Iff.rfl) (fun _ _=>rfl) (fun _ _=>rfl) (Nat.le_refl _) (.inl rfl) (fun _ _=>rfl) (fun u hu=>outE_quiet (fun x hx=> .inr (by rw [List.mem_singleton.1 hx];show (t:Int)≠(u:Int);omega))) H.sh0 H.sh1 rfl H.iwl (by rw [rwScan_snoc,H.scan];rfl) ⟨n,24,rfl,.inl ⟨hn,.inl rfl,.inr ⟨hk,by decide,⟨h1.wt,h1.rs,h1.iw,h1.ir,h1.c,?_⟩,h2⟩⟩⟩⟩
 show okO g.D (outE t (v.evs++[_]))/\(outE t (v.evs++[_])).length % 2=1/\((1:Nat)=1->(outE t (v.evs++[_])).getD ((outE t (v.evs++[_])).length-1) 0=(g.D:Int))
 rw [e]
 have hl:(outE t v.evs).length % 2=0:=h1.O.2.1
 refine ⟨okO_snoc h1.O.1 (fun q=>?_),by rw [List.length_append,List.length_singleton];omega,fun q=>?_⟩
 ·have :=hl.symm.trans q;cases this
 ·rw [List.length_append,List.length_singleton,Nat.add_sub_cancel];simp
theorem r_24 (H:RwI nt kd rd bs v g) (ht:t<nt) {n:Nat} {r:Nat->Int} (hn:n<rd t) (hk:kd t n=false) (hA:rA (g.at_ v t) (wrs (kd t) n) t r (v.bf t) 24): ∃g',RwI nt kd rd bs (execV t v (bs t n+24) r (.load 1 0)) g':=by
 exact ⟨g,H.quiet ht (fun x hx=>by rw [List.mem_singleton.1 hx];exact ⟨(by decide:(1:Int)≠7),(by decide:(1:Int)≠6)⟩) ⟨n,25,rfl,.inl ⟨hn,.inl rfl,.inr ⟨hk,by decide,by dsimp only [rA];exact ⟨hA.1,hA.2,by rw [updR_at,hA.2.see0];exact (H.reads ht hA.1.rs).2.2⟩⟩⟩⟩⟩
theorem r_25 (H:RwI nt kd rd bs v g) (ht:t<nt) {n:Nat} {r:Nat->Int} (hn:n<rd t) (hk:kd t n=false) (hA:rA (g.at_ v t) (wrs (kd t) n) t r (v.bf t) 25): ∃g',RwI nt kd rd bs (execV t v (bs t n+25) r (.out 1)) g':=by
 obtain ⟨h1,h2,h3⟩:=hA
 have hw:=(H.reads ht h1.rs).1
 have e:outE t (v.evs++[⟨6,(t:Int),((bs t n+25:Nat):Int),0,r 1,0,0,false⟩])=outE t v.evs++[(g.D:Int)]:=by
  rw [outE_snoc rfl rfl];exact congrArg (fun z=>outE t v.evs++[z]) h3
 refine ⟨g,H.turn ht (fun u hu hne=> .inl ⟨by rw [hw];simp,by rw [hw];simp⟩) (fun _ _=>rfl) (fun _ _=>Iff.rfl) (fun _ _=>rfl) (fun _ _=>rfl) (Nat.le_refl _) (.inl rfl) (fun _ _=>rfl) (fun u hu=>outE_quiet (fun x hx=> .inr (by rw [List.mem_singleton.1 hx];show (t:Int)≠(u:Int);omega))) H.sh0 H.sh1 rfl H.iwl (by rw [rwScan_snoc,H.scan];rfl) ⟨n,26,rfl,.inl ⟨hn,.inl rfl,.inr ⟨hk,by decide,⟨h1.wt,h1.rs,h1.iw,h1.ir,h1.c,?_⟩,h2⟩⟩⟩⟩
 show okO g.D (outE t (v.evs++[_]))/\(outE t (v.evs++[_])).length % 2=0/\((0:Nat)=1->(outE t (v.evs++[_])).getD ((outE t (v.evs++[_])).length-1) 0=(g.D:Int))
 rw [e]
 have hl:(outE t v.evs).length % 2=1:=h1.O.2.1
 refine ⟨okO_snoc h1.O.1 (fun q=>?_),by rw [List.length_append,List.length_singleton];omega,fun q=>?_⟩
 ·exact h1.O.2.2 rfl
 ·cases q
theorem r_26 (H:RwI nt kd rd bs v g) (ht:t<nt) {n:Nat} {r:Nat->Int} (hn:n<rd t) (hk:kd t n=false) (hA:rA (g.at_ v t) (wrs (kd t) n) t r (v.bf t) 26): ∃g',RwI nt kd rd bs (execV t v (bs t n+26) r (.mark 2)) g':=by
 obtain ⟨h1,h2⟩:=hA
 obtain ⟨a0,a1,a2⟩:=H.reads ht h1.rs
 have hsum:=sum_upd (f:=g.ir) ht false
 rw [show g.ir t=true from h1.ir]at hsum
 refine ⟨{g with ir:=upd g.ir t false},H.turn ht (fun u hu hne=> .inl ⟨by rw [a0];simp,by rw [a0];simp⟩) (fun _ _=>rfl) (fun _ _=>Iff.rfl) (fun u hu=>upd_ne _ _ _ hu) (fun _ _=>rfl) (Nat.le_refl _) (.inl rfl) (fun _ _=>rfl) (fun u _=>out4 u (by show (7:Int)≠6;decide)) H.sh0 H.sh1 rfl H.iwl ?_ ⟨n,27,rfl,.inl ⟨hn,.inl rfl,.inr ⟨hk,by decide,⟨h1.wt,h1.rs,h1.iw,upd_same _ _ _,h1.c,?_⟩,h2⟩⟩⟩⟩
 ·rw [rwScan_snoc,H.scan,a1]
  unfold rwS
  dsimp only [curW]
  rw [if_neg (by decide),if_neg (by decide),if_neg (by decide),if_pos (by decide),if_neg (by omega)]
  have e1:b2n true=1:=rfl
  have e2:b2n false=0:=rfl
  congr 2
  show _=((sumT nt fun u=>b2n (upd g.ir t false u):Nat):Int)
  omega
 ·show okO g.D (outE t (v.evs++[_]))/\_;rw [out4 t (by show (7:Int)≠6;decide)];exact h1.O
theorem r_27 (H:RwI nt kd rd bs v g) (ht:t<nt) {n:Nat} {r:Nat->Int} (hn:n<rd t) (hk:kd t n=false) (hA:rA (g.at_ v t) (wrs (kd t) n) t r (v.bf t) 27): ∃g',RwI nt kd rd bs (execV t v (bs t n+27) r (.load 4 (17+t))) g':=by
 exact ⟨g,H.quiet ht (fun x hx=>by rw [List.mem_singleton.1 hx];exact ⟨(by decide:(1:Int)≠7),(by decide:(1:Int)≠6)⟩) ⟨n,28,rfl,.inl ⟨hn,.inl rfl,.inr ⟨hk,by decide,by dsimp only [rA];exact ⟨hA.1,hA.2,by rw [updR_at];exact hA.2.see⟩⟩⟩⟩⟩
theorem r_28 (H:RwI nt kd rd bs v g) (ht:t<nt) {n:Nat} {r:Nat->Int} (hn:n<rd t) (hk:kd t n=false) (hA:rA (g.at_ v t) (wrs (kd t) n) t r (v.bf t) 28): ∃g',RwI nt kd rd bs (execV t v (bs t n+28) r (.some 4 (bs t n+31))) g':=by
 dsimp only [execV]
 by_cases hz:r 4=0
 ·rw [if_pos hz]
  simp only [rA]at hA;simp_all
 ·rw [if_neg hz]
  exact ⟨g,H.quiet ht (fun x hx=>by cases hx) ⟨n,31,rfl,.inl ⟨hn,.inl rfl,.inr ⟨hk,by decide,by dsimp only [rA];exact hA⟩⟩⟩⟩
theorem r_31 (H:RwI nt kd rd bs v g) (ht:t<nt) {n:Nat} {r:Nat->Int} (hn:n<rd t) (hk:kd t n=false) (hA:rA (g.at_ v t) (wrs (kd t) n) t r (v.bf t) 31): ∃g',RwI nt kd rd bs (execV t v (bs t n+31) r (.set 5 1)) g':=by
 exact ⟨g,H.quiet ht (fun x hx=>by cases hx) ⟨n,32,rfl,.inl ⟨hn,.inl rfl,.inr ⟨hk,by decide,by dsimp only [rA];exact ⟨hA.1,hA.2.1,by rw [updR_ot _ _ _ _ (by decide)];exact hA.2.2,updR_at _ _ _⟩⟩⟩⟩⟩
theorem r_32 (H:RwI nt kd rd bs v g) (ht:t<nt) {n:Nat} {r:Nat->Int} (hn:n<rd t) (hk:kd t n=false) (hA:rA (g.at_ v t) (wrs (kd t) n) t r (v.bf t) 32): ∃g',RwI nt kd rd bs (execV t v (bs t n+32) r (.same 6 4 5)) g':=by
 exact ⟨g,H.quiet ht (fun x hx=>by cases hx) ⟨n,33,rfl,.inl ⟨hn,.inl rfl,.inr ⟨hk,by decide,by dsimp only [rA];exact ⟨hA.1,hA.2.1,by rw [updR_at,hA.2.2.1,hA.2.2.2];rfl⟩⟩⟩⟩⟩
theorem r_33 (H:RwI nt kd rd bs v g) (ht:t<nt) {n:Nat} {r:Nat->Int} (hn:n<rd t) (hk:kd t n=false) (hA:rA (g.at_ v t) (wrs (kd t) n) t r (v.bf t) 33): ∃g',RwI nt kd rd bs (execV t v (bs t n+33) r (.set 4 0)) g':=by
 exact ⟨g,H.quiet ht (fun x hx=>by cases hx) ⟨n,34,rfl,.inl ⟨hn,.inl rfl,.inr ⟨hk,by decide,by dsimp only [rA];exact ⟨hA.1,hA.2.1,by rw [updR_ot _ _ _ _ (by decide)];exact hA.2.2,updR_at _ _ _⟩⟩⟩⟩⟩
theorem r_34 (H:RwI nt kd rd bs v g) (ht:t<nt) {n:Nat} {r:Nat->Int} (hn:n<rd t) (hk:kd t n=false) (hA:rA (g.at_ v t) (wrs (kd t) n) t r (v.bf t) 34): ∃g',RwI nt kd rd bs (execV t v (bs t n+34) r (.store 4 (17+t))) g':=by
 exact ⟨g,H.quiet ht (fun x hx=>by rw [List.mem_singleton.1 hx];exact ⟨(by decide:(2:Int)≠7),(by decide:(2:Int)≠6)⟩) ⟨n,35,rfl,.inl ⟨hn,.inl rfl,.inr ⟨hk,by decide,by dsimp only [rA];exact ⟨hA.1,(hA.2.1.elim (fun q=> .inl ⟨by rw [q.1,hA.2.2.2];rfl,q.2⟩) (fun q=> .inr (.inl ⟨by rw [q.1,hA.2.2.2];rfl,q.2⟩))),hA.2.2.1⟩⟩⟩⟩⟩
theorem r_35 (H:RwI nt kd rd bs v g) (ht:t<nt) {n:Nat} {r:Nat->Int} (hn:n<rd t) (hk:kd t n=false) (hA:rA (g.at_ v t) (wrs (kd t) n) t r (v.bf t) 35): ∃g',RwI nt kd rd bs (execV t v (bs t n+35) r (.some 6 (bs t n+39))) g':=by
 dsimp only [execV]
 by_cases hz:r 6=0
 ·rw [if_pos hz]
  exact ⟨g,H.quiet ht (fun x hx=>by cases hx) ⟨n,36,rfl,.inl ⟨hn,.inl rfl,.inr ⟨hk,by decide,by dsimp only [rA];exact (absurd (hz.symm.trans hA.2.2) (by decide))⟩⟩⟩⟩
 ·rw [if_neg hz]
  exact ⟨g,H.quiet ht (fun x hx=>by cases hx) ⟨n,39,rfl,.inl ⟨hn,.inl rfl,.inr ⟨hk,by decide,by dsimp only [rA];exact ⟨hA.1,hA.2.1⟩⟩⟩⟩⟩
theorem r_39 (H:RwI nt kd rd bs v g) (ht:t<nt) {n:Nat} {r:Nat->Int} (hn:n<rd t) (hk:kd t n=false) (hA:rA (g.at_ v t) (wrs (kd t) n) t r (v.bf t) 39): ∃g',RwI nt kd rd bs (execV t v (bs t n+39) r (.set 4 4294967295)) g':=by
 exact ⟨g,H.quiet ht (fun x hx=>by cases hx) ⟨n,40,rfl,.inl ⟨hn,.inl rfl,.inr ⟨hk,by decide,by dsimp only [rA];exact ⟨hA.1,hA.2,updR_at _ _ _⟩⟩⟩⟩⟩
theorem r_40 (H:RwI nt kd rd bs v g) (ht:t<nt) {n:Nat} {r:Nat->Int} (hn:n<rd t) (hk:kd t n=false) (hd:v.bf t=[]) (hA:rA (g.at_ v t) (wrs (kd t) n) t r (v.bf t) 40): ∃g',RwI nt kd rd bs (execV t v (bs t n+40) r (.fetch 4 16)) g':=by
 obtain ⟨h1,h2,h4⟩:=hA
 obtain ⟨a0,a1,a2⟩:=H.reads ht h1.rs
 have hs:=H.sh0 a0
 have hsm:=H.small.2
 have hsum:=sum_upd (f:=g.rs) ht false
 rw [show g.rs t=true from h1.rs]at hsum
 have e1:b2n true=1:=rfl
 have e2:b2n false=0:=rfl
 have hM:v.mem (17+t)=0:=by
  rw [hd]at h2
  rcases h2 with ⟨q,_⟩|⟨q,_⟩|⟨_,q⟩
  ·cases q
  ·cases q
  ·exact q
 obtain ⟨z,hz⟩: ∃z,(v.mem 16+r 4)% 4294967296=z:=⟨_,rfl⟩
 have hz2:z=((sumT nt fun u=>b2n (upd g.rs t false u):Nat):Int):=by rw [<-hz,hs.1,h4];omega
 dsimp only [execV]
 rw [hz]
 have eM:upd v.mem 16 z (17+t)=v.mem (17+t):=upd_ne _ _ _ (by omega)
 have e0:upd v.mem 16 z 0=v.mem 0:=upd_ne _ _ _ (by decide)
 refine ⟨{g with rs:=upd g.rs t false},H.turn ht (fun u hu hne=> .inl ⟨by rw [a0];simp,by rw [a0];simp⟩) (fun u hu=>upd_ne _ _ _ hu) (fun _ _=>Iff.rfl) (fun _ _=>rfl) (fun _ _=>rfl) (Nat.le_refl _) (.inl rfl) (fun u hu=>upd_ne _ _ _ (by omega)) (fun u _=>out4 u (by show (4:Int)≠6;decide)) (fun _=>⟨?_,e0.trans hs.2⟩) (fun u q=>by rw [a0]at q;cases q) rfl H.iwl ((rwScan_quiet (nu4 rfl)).trans H.scan) ⟨n,41,rfl,.inl ⟨hn,.inl rfl,.inr ⟨hk,by decide,⟨h1.wt,upd_same _ _ _,h1.iw,h1.ir,h1.c,hd,eM.trans hM,?_⟩⟩⟩⟩⟩
 ·rw [upd_same];exact hz2
 ·show okO g.D (outE t (v.evs++[_]))/\_;rw [out4 t (by show (4:Int)≠6;decide)];exact ⟨h1.O.1,h1.O.2.1⟩
theorem r_41 (H:RwI nt kd rd bs v g) (ht:t<nt) {n:Nat} {r:Nat->Int} (hn:n<rd t) (hk:kd t n=false) (hA:rA (g.at_ v t) (wrs (kd t) n) t r (v.bf t) 41): ∃g',RwI nt kd rd bs (execV t v (bs t n+41) r (.set 5 1)) g':=by
 exact ⟨g,H.quiet ht (fun x hx=>by cases hx) ⟨n,42,rfl,.inl ⟨hn,.inl rfl,.inr ⟨hk,by decide,by dsimp only [rA];exact hA⟩⟩⟩⟩
theorem r_42 (H:RwI nt kd rd bs v g) (ht:t<nt) {n:Nat} {r:Nat->Int} (hn:n<rd t) (hk:kd t n=false) (hA:rA (g.at_ v t) (wrs (kd t) n) t r (v.bf t) 42): ∃g',RwI nt kd rd bs (execV t v (bs t n+42) r (.same 6 4 5)) g':=by
 exact ⟨g,H.quiet ht (fun x hx=>by cases hx) ⟨n,43,rfl,.inl ⟨hn,.inl rfl,.inr ⟨hk,by decide,by dsimp only [rA];exact hA⟩⟩⟩⟩
theorem r_43 (H:RwI nt kd rd bs v g) (ht:t<nt) {n:Nat} {r:Nat->Int} (hn:n<rd t) (hk:kd t n=false) (hA:rA (g.at_ v t) (wrs (kd t) n) t r (v.bf t) 43): ∃g',RwI nt kd rd bs (execV t v (bs t n+43) r (.zero 6 (bs t n+46))) g':=by
 dsimp only [execV]
 by_cases hz:r 6=0
 ·rw [if_pos hz]
  exact ⟨g,H.quiet ht (fun x hx=>by cases hx) ⟨n,46,rfl,.inl ⟨hn,.inl rfl,.inr ⟨hk,by decide,by dsimp only [rA];exact hA⟩⟩⟩⟩
 ·rw [if_neg hz]
  exact ⟨g,H.quiet ht (fun x hx=>by cases hx) ⟨n,44,rfl,.inl ⟨hn,.inl rfl,.inr ⟨hk,by decide,by dsimp only [rA];exact hA⟩⟩⟩⟩
theorem r_44 (H:RwI nt kd rd bs v g) (ht:t<nt) {n:Nat} {r:Nat->Int} (hn:n<rd t) (hk:kd t n=false) (hA:rA (g.at_ v t) (wrs (kd t) n) t r (v.bf t) 44): ∃g',RwI nt kd rd bs (execV t v (bs t n+44) r (.set 4 4294967295)) g':=by
 exact ⟨g,H.quiet ht (fun x hx=>by cases hx) ⟨n,45,rfl,.inl ⟨hn,.inl rfl,.inr ⟨hk,by decide,by dsimp only [rA];exact hA⟩⟩⟩⟩
theorem r_45 (H:RwI nt kd rd bs v g) (ht:t<nt) {n:Nat} {r:Nat->Int} (hn:n<rd t) (hk:kd t n=false) (hA:rA (g.at_ v t) (wrs (kd t) n) t r (v.bf t) 45): ∃g',RwI nt kd rd bs (execV t v (bs t n+45) r (.wake 4 16)) g':=by
 obtain ⟨w,hw⟩: ∃w,wk ((16:Nat):Int) (r 4).toNat v.slp=w:=⟨_,rfl⟩
 have K:=((H.run w.2).slp w.1).quiet ht (l:=[⟨9,(t:Int),((bs t n+45:Nat):Int),((16:Nat):Int),(w.2.length:Int),0,0,false⟩]) (fun x hx=>by rw [List.mem_singleton.1 hx];exact ⟨(by decide:(9:Int)≠7),(by decide:(9:Int)≠6)⟩) (th:=⟨((bs t n+45+1:Nat):Int),updR r 4 (w.2.length:Int),0⟩) (b:=v.bf t) ⟨n,46,rfl,.inl ⟨hn,.inl rfl,.inr ⟨hk,by decide,by dsimp only [rA];exact hA⟩⟩⟩
 refine ⟨g,?_⟩
 dsimp only [execV]
 rw [hw]
 unfold Vw.mv at K
 simp only [upd_self]at K
 exact K
theorem r_46 (H:RwI nt kd rd bs v g) (ht:t<nt) {n:Nat} {r:Nat->Int} (hn:n<rd t) (hk:kd t n=false) (hA:rA (g.at_ v t) (wrs (kd t) n) t r (v.bf t) 46): ∃g',RwI nt kd rd bs (execV t v (bs t n+46) r (.set 7 0)) g':=by
 exact ⟨g,H.quiet ht (fun x hx=>by cases hx) ⟨n,47,rfl,.inl ⟨hn,.inl rfl,.inr ⟨hk,by decide,by dsimp only [rA];exact ⟨hA,updR_at _ _ _⟩⟩⟩⟩⟩
theorem r_47 (H:RwI nt kd rd bs v g) (ht:t<nt) {n:Nat} {r:Nat->Int} (hn:n<rd t) (hk:kd t n=false) (hA:rA (g.at_ v t) (wrs (kd t) n) t r (v.bf t) 47): ∃g',RwI nt kd rd bs (execV t v (bs t n+47) r (.mark 3)) g':=by
 obtain ⟨h1,h2⟩:=hA
 have hs:rwScan (v.evs++[⟨7,(t:Int),((bs t n+47:Nat):Int),0,r 7,0,((3:Nat):Int),false⟩])=rwScan v.evs:=by
  rw [rwScan_snoc,H.scan];unfold rwS;dsimp only;rw [if_neg (by decide),if_neg (by decide),if_neg (by decide),if_neg (by decide),if_pos (by decide),if_neg (by rw [h2];decide)]
 exact ⟨g,H.note ht _ rfl (H.next (n:=n) (by rw [hk];rfl) hn rfl (by rw [wrs_succ,hk];exact h1)) hs⟩
theorem B1.fl {a:Nat} {y M:Int} {x:Ent} {l:List Ent} (h:B1 a y M (x::l)):x=((a:Int),y)/\B1 a y y l:=by
 rcases h with ⟨q,_⟩|⟨q,_⟩
 ·injection q with q1 q2;rw [q1,q2];exact ⟨rfl,.inr ⟨rfl,rfl⟩⟩
 ·cases q
theorem B2.fl {a:Nat} {M m0:Int} {D:Nat} {x:Ent} {l:List Ent} (h:B2 a M m0 D (x::l)):(x=((a:Int),2)/\B2 a 2 m0 D l)∨(x=(0,(D:Int)+1)/\B2 a M ((D:Int)+1) D l):=by
 rcases h with ⟨q,_,h⟩|⟨q,h,_⟩|⟨q,_⟩
 ·injection q with q1 q2;rw [q1,q2];exact .inl ⟨rfl,.inr (.inl ⟨rfl,rfl,h⟩)⟩
 ·injection q with q1 q2;rw [q1,q2];exact .inr ⟨rfl,.inr (.inr ⟨rfl,h,rfl⟩)⟩
 ·cases q
theorem B3.fl {a:Nat} {M m0:Int} {D:Nat} {x:Ent} {l:List Ent} (h:B3 a M m0 D (x::l)):(∃y,x=((a:Int),y)/\B3 a y m0 D l)∨(x=(0,(D:Int)+1)/\B3 a M ((D:Int)+1) D l):=by
 rcases h with ⟨q,_,h⟩|⟨q,h,_⟩|⟨q,_,h⟩|⟨q,_⟩
 ·injection q with q1 q2;rw [q1,q2];exact .inl ⟨2,rfl,.inr (.inl ⟨rfl,rfl,h⟩)⟩
 ·injection q with q1 q2;rw [q1,q2];exact .inr ⟨rfl,.inr (.inr (.inl ⟨rfl,h,rfl⟩))⟩
 ·injection q with q1 q2;rw [q1,q2];exact .inl ⟨0,rfl,.inr (.inr (.inr ⟨rfl,rfl,h⟩))⟩
 ·cases q
theorem B4.fl {a:Nat} {M:Int} {x:Ent} {l:List Ent} (h:B4 a M (x::l)): ∃y,x=((a:Int),y)/\B4 a y l:=by
 rcases h with ⟨q,_⟩|⟨q,_⟩|⟨q,_⟩
 ·injection q with q1 q2;rw [q1,q2];exact ⟨1,rfl,.inr (.inl ⟨rfl,rfl⟩)⟩
 ·injection q with q1 q2;rw [q1,q2];exact ⟨0,rfl,.inr (.inr ⟨rfl,rfl⟩)⟩
 ·cases q
theorem RFree.no {L:RL} {c:Nat} {x:Ent} {l:List Ent} {p:Prop} (h:RFree L c (x::l)):p:=absurd h.b (by simp)
theorem wA_fl {L:RL} {c:Nat} {r:Nat->Int} {x:Ent} {l:List Ent} {o:Nat} (h:wA L c t r (x::l) o):(∃y,x=(((17+t:Nat):Int),y)/\wA {L with M:=y} c t r l o)∨(x=(0,(L.D:Int)+1)/\L.wt=true/\wA {L with m0:=(L.D:Int)+1} c t r l o):=by
 have w1: ∀{c i y},RWr L c i->RWr {L with M:=y} c i:=fun q=>⟨q.wt,q.rs,q.iw,q.ir,q.c,q.O⟩
 have w2: ∀{c i y},RWr L c i->RWr {L with m0:=y} c i:=fun q=>⟨q.wt,q.rs,q.iw,q.ir,q.c,q.O⟩
 unfold wA at h⊢
 split at h
 all_goals first
  |exact h.elim
  |exact h.no
  |exact h.1.no
  |exact absurd h.2.1.1 (by simp)
  |(rcases h with q|q;exact q.1.no;exact absurd q.2.1.1 (by simp))
  |(obtain ⟨q1,q2⟩:=B1.fl h.2.1;exact .inl ⟨_,q1,w1 h.1,q2,h.2.2⟩)
  |(rcases B2.fl h.2 with ⟨q1,q2⟩|⟨q1,q2⟩;exact .inl ⟨_,q1,w1 h.1,q2⟩;exact .inr ⟨q1,h.1.wt,w2 h.1,q2⟩)
  |(rcases B2.fl h.2.1 with ⟨q1,q2⟩|⟨q1,q2⟩;exact .inl ⟨_,q1,w1 h.1,q2,h.2.2⟩;exact .inr ⟨q1,h.1.wt,w2 h.1,q2,h.2.2⟩)
  |(rcases B3.fl h.2 with ⟨y,q1,q2⟩|⟨q1,q2⟩;exact .inl ⟨_,q1,w1 h.1,q2⟩;exact .inr ⟨q1,h.1.wt,w2 h.1,q2⟩)
  |(rcases B3.fl h.2.1 with ⟨y,q1,q2⟩|⟨q1,q2⟩;exact .inl ⟨_,q1,w1 h.1,q2,h.2.2⟩;exact .inr ⟨q1,h.1.wt,w2 h.1,q2,h.2.2⟩)
theorem rA_fl {L:RL} {c:Nat} {r:Nat->Int} {x:Ent} {l:List Ent} {o:Nat} (h:rA L c t r (x::l) o): ∃y,x=(((17+t:Nat):Int),y)/\rA {L with M:=y} c t r l o:=by
 have w1: ∀{c i o y},RRd L c i o->RRd {L with M:=y} c i o:=fun q=>⟨q.wt,q.rs,q.iw,q.ir,q.c,q.O⟩
 unfold rA at h⊢
 split at h
 all_goals first
  |exact h.elim
  |exact h.no
  |exact h.1.no
  |exact absurd h.2.1.1 (by simp)
  |exact absurd h.2.1 (by simp)
  |(rcases h with q|q;exact q.1.no;exact absurd q.2.1.1 (by simp))
  |(obtain ⟨q1,q2⟩:=B1.fl h.2;exact ⟨_,q1,w1 h.1,q2⟩)
  |(obtain ⟨q1,q2⟩:=B1.fl h.2.1;exact ⟨_,q1,w1 h.1,q2,h.2.2⟩)
  |(obtain ⟨y,q1,q2⟩:=B4.fl h.2;exact ⟨_,q1,w1 h.1,q2⟩)
  |(obtain ⟨y,q1,q2⟩:=B4.fl h.2.1;exact ⟨_,q1,w1 h.1,q2,h.2.2⟩)
theorem RLoc.fl {kd:Nat->Bool} {rd:Nat} {bs:Nat->Nat} {L:RL} {th:Th} {x:Ent} {l:List Ent} (h:RLoc kd rd bs L t th (x::l)):(∃y,x=(((17+t:Nat):Int),y)/\RLoc kd rd bs {L with M:=y} t th l)∨(x=(0,(L.D:Int)+1)/\L.wt=true/\RLoc kd rd bs {L with m0:=(L.D:Int)+1} t th l):=by
 obtain ⟨n,o,hp,h|h⟩:=h
 ·rcases h.2.2 with q|q
  ·rcases wA_fl q.2.2 with ⟨y,e,k⟩|⟨e,hw,k⟩
   ·exact .inl ⟨y,e,n,o,hp,.inl ⟨h.1,h.2.1,.inl ⟨q.1,q.2.1,k⟩⟩⟩
   ·exact .inr ⟨e,hw,n,o,hp,.inl ⟨h.1,h.2.1,.inl ⟨q.1,q.2.1,k⟩⟩⟩
  ·obtain ⟨y,e,k⟩:=rA_fl q.2.2
   exact .inl ⟨y,e,n,o,hp,.inl ⟨h.1,h.2.1,.inr ⟨q.1,q.2.1,k⟩⟩⟩
 ·exact h.2.2.2.no
theorem RwI.flush (H:RwI nt kd rd bs v g) (ht:t<nt) (hb:v.bf t≠[]):RwI nt kd rd bs (flushV t v) g:=by
 unfold flushV
 cases hc:v.bf t with
 |nil=>exact absurd hc hb
 |cons x l=>
  have hl:=H.loc t ht
  rw [hc]at hl
  have nu: ∀y∈[(⟨3,(t:Int),0,x.1,x.2,0,0,false⟩:Evt)],nuR y:=fun y hy=>by rw [List.mem_singleton.1 hy];exact ⟨(by decide:(3:Int)≠7),(by decide:(3:Int)≠6)⟩
  have ho: ∀u,outE u (v.evs++[⟨3,(t:Int),0,x.1,x.2,0,0,false⟩])=outE u v.evs:=fun u=>out4 u (by show (3:Int)≠6;decide)
  have K:RwI nt kd rd bs (v.mv t (v.th t) l (upd v.mem x.1.toNat x.2) [⟨3,(t:Int),0,x.1,x.2,0,0,false⟩]) g:=by
   rcases hl.fl with ⟨y,rfl,k⟩|⟨rfl,hw,k⟩
   ·have e1:(((17+t:Nat):Int),y).1.toNat=17+t:=Int.toNat_natCast _
    have e16:upd v.mem (((17+t:Nat):Int),y).1.toNat y 16=v.mem 16:=by rw [e1];exact upd_ne _ _ _ (by omega)
    have e0:upd v.mem (((17+t:Nat):Int),y).1.toNat y 0=v.mem 0:=by rw [e1];exact upd_ne _ _ _ (by omega)
    have eM:upd v.mem (((17+t:Nat):Int),y).1.toNat y (17+t)=y:=by rw [e1];exact upd_same _ _ _
    refine H.turn ht (fun u hu hne=>?_) (fun _ _=>rfl) (fun _ _=>Iff.rfl) (fun _ _=>rfl) (fun _ _=>rfl) (Nat.le_refl _) (.inl rfl) (fun u hu=>by rw [e1];exact upd_ne _ _ _ (by omega)) (fun u _=>ho u) (fun q=>?_) (fun u q=>?_) rfl H.iwl ((rwScan_quiet nu).trans H.scan) (by rw [ho,eM,e0];exact k)
    ·by_cases c:g.w=some u
     ·exact .inr ⟨c,c,e0,rfl⟩
     ·exact .inl ⟨c,c⟩
    ·exact ⟨e16.trans (H.sh0 q).1,e0.trans (H.sh0 q).2⟩
    ·exact ⟨e16.trans (H.sh1 u q).1,(H.sh1 u q).2⟩
   ·have hw':g.w=some t:=of_decide_eq_true hw
    have e16:upd v.mem ((0:Int),(((g.at_ v t).D:Nat):Int)+1).1.toNat ((g.D:Int)+1) 16=v.mem 16:=upd_ne _ _ _ (by show (16:Nat)≠0;decide)
    have e0:upd v.mem ((0:Int),(((g.at_ v t).D:Nat):Int)+1).1.toNat ((g.D:Int)+1) 0=(g.D:Int)+1:=upd_same _ _ _
    have eM: ∀u,upd v.mem ((0:Int),(((g.at_ v t).D:Nat):Int)+1).1.toNat ((g.D:Int)+1) (17+u)=v.mem (17+u):=fun u=>upd_ne _ _ _ (by show 17+u≠0;omega)
    refine H.turn ht (fun u hu hne=> .inl ⟨by rw [hw'];simp [Ne.symm hne],by rw [hw'];simp [Ne.symm hne]⟩) (fun _ _=>rfl) (fun _ _=>Iff.rfl) (fun _ _=>rfl) (fun _ _=>rfl) (Nat.le_refl _) (.inl rfl) (fun u _=>eM u) (fun u _=>ho u) (fun q=>by rw [hw']at q;cases q) (fun u q=>⟨e16.trans (H.sh1 u q).1,(H.sh1 u q).2⟩) rfl H.iwl ((rwScan_quiet nu).trans H.scan) ?_
    rw [ho]
    show RLoc (kd t) (rd t) (bs t) ⟨_,_,_,_,_,upd v.mem ((0:Int),(((g.at_ v t).D:Nat):Int)+1).1.toNat ((g.D:Int)+1) (17+t),upd v.mem ((0:Int),(((g.at_ v t).D:Nat):Int)+1).1.toNat ((g.D:Int)+1) 0,_,_⟩ t (v.th t) l
    rw [eM,e0]
    exact k
  unfold Vw.mv at K
  rw [upd_self]at K
  exact K
theorem rw_exec (H:RwI nt kd rd bs v g) (ht:t<nt) {n o:Nat} {r:Nat->Int} (hn:n<rd t) (hA:(kd t n=true/\o<41/\wA (g.at_ v t) (wrs (kd t) n) t r (v.bf t) o)∨(kd t n=false/\o<48/\rA (g.at_ v t) (wrs (kd t) n) t r (v.bf t) o)):
 ∃op,(if kd t n=true then wrL t (bs t n)else rdL t (bs t n))[o]?=some op/\((op.drains=true->v.bf t=[])-> ∃g',RwI nt kd rd bs (execV t v (bs t n+o) r op) g'):=by
 rcases hA with ⟨hk,ho,hA⟩|⟨hk,ho,hA⟩
 ·rw [hk]
  match o,ho,hA with
  |0,_,hA=>exact ⟨_,rfl,fun _=>w_0 H ht hn hk hA⟩
  |1,_,hA=>exact ⟨_,rfl,fun _=>w_1 H ht hn hk hA⟩
  |2,_,hA=>exact ⟨_,rfl,fun _=>w_2 H ht hn hk hA⟩
  |3,_,hA=>exact hA.elim
  |4,_,hA=>exact hA.elim
  |5,_,hA=>exact ⟨_,rfl,fun _=>w_5 H ht hn hk hA⟩
  |6,_,hA=>exact ⟨_,rfl,fun _=>w_6 H ht hn hk hA⟩
  |7,_,hA=>exact ⟨_,rfl,fun hd=>w_7 H ht hn hk (hd rfl) hA⟩
  |8,_,hA=>exact ⟨_,rfl,fun _=>w_8 H ht hn hk hA⟩
  |9,_,hA=>exact ⟨_,rfl,fun _=>w_9 H ht hn hk hA⟩
  |10,_,hA=>exact ⟨_,rfl,fun _=>w_10 H ht hn hk hA⟩
  |11,_,hA=>exact ⟨_,rfl,fun _=>w_11 H ht hn hk hA⟩
  |12,_,hA=>exact ⟨_,rfl,fun _=>w_12 H ht hn hk hA⟩
  |13,_,hA=>exact ⟨_,rfl,fun _=>w_13 H ht hn hk hA⟩
  |14,_,hA=>exact ⟨_,rfl,fun _=>w_14 H ht hn hk hA⟩
  |15,_,hA=>exact ⟨_,rfl,fun _=>w_15 H ht hn hk hA⟩
  |16,_,hA=>exact ⟨_,rfl,fun _=>w_16 H ht hn hk hA⟩
  |17,_,hA=>exact ⟨_,rfl,fun _=>w_17 H ht hn hk hA⟩
  |18,_,hA=>exact ⟨_,rfl,fun _=>w_18 H ht hn hk hA⟩
  |19,_,hA=>exact ⟨_,rfl,fun _=>w_19 H ht hn hk hA⟩
  |20,_,hA=>exact ⟨_,rfl,fun _=>w_20 H ht hn hk hA⟩
  |21,_,hA=>exact ⟨_,rfl,fun _=>w_21 H ht hn hk hA⟩
  |22,_,hA=>exact hA.elim
  |23,_,hA=>exact hA.elim
  |24,_,hA=>exact ⟨_,rfl,fun _=>w_24 H ht hn hk hA⟩
  |25,_,hA=>exact ⟨_,rfl,fun _=>w_25 H ht hn hk hA⟩
  |26,_,hA=>exact ⟨_,rfl,fun _=>w_26 H ht hn hk hA⟩
  |27,_,hA=>exact ⟨_,rfl,fun _=>w_27 H ht hn hk hA⟩
  |28,_,hA=>exact ⟨_,rfl,fun _=>w_28 H ht hn hk hA⟩
  |29,_,hA=>exact ⟨_,rfl,fun _=>w_29 H ht hn hk hA⟩
  |30,_,hA=>exact ⟨_,rfl,fun hd=>w_30 H ht hn hk (hd rfl) hA⟩
  |31,_,hA=>exact ⟨_,rfl,fun _=>w_31 H ht hn hk hA⟩
  |32,_,hA=>exact hA.elim
  |33,_,hA=>exact hA.elim
  |34,_,hA=>exact hA.elim
  |35,_,hA=>exact hA.elim
  |36,_,hA=>exact hA.elim
  |37,_,hA=>exact ⟨_,rfl,fun _=>w_37 H ht hn hk hA⟩
  |38,_,hA=>exact ⟨_,rfl,fun _=>w_38 H ht hn hk hA⟩
  |39,_,hA=>exact ⟨_,rfl,fun _=>w_39 H ht hn hk hA⟩
  |40,_,hA=>exact ⟨_,rfl,fun _=>w_40 H ht hn hk hA⟩
  |o+41,ho,_=>exact absurd ho (by omega)
 ·rw [hk]
  match o,ho,hA with
  |0,_,hA=>exact ⟨_,rfl,fun _=>r_0 H ht hn hk hA⟩
  |1,_,hA=>exact ⟨_,rfl,fun _=>r_1 H ht hn hk hA⟩
  |2,_,hA=>exact ⟨_,rfl,fun _=>r_2 H ht hn hk hA⟩
  |3,_,hA=>exact hA.elim
  |4,_,hA=>exact hA.elim
  |5,_,hA=>exact ⟨_,rfl,fun _=>r_5 H ht hn hk hA⟩
  |6,_,hA=>exact ⟨_,rfl,fun _=>r_6 H ht hn hk hA⟩
  |7,_,hA=>exact ⟨_,rfl,fun _=>r_7 H ht hn hk hA⟩
  |8,_,hA=>exact ⟨_,rfl,fun _=>r_8 H ht hn hk hA⟩
  |9,_,hA=>exact ⟨_,rfl,fun _=>r_9 H ht hn hk hA⟩
  |10,_,hA=>exact ⟨_,rfl,fun _=>r_10 H ht hn hk hA⟩
  |11,_,hA=>exact ⟨_,rfl,fun _=>r_11 H ht hn hk hA⟩
  |12,_,hA=>exact ⟨_,rfl,fun hd=>r_12 H ht hn hk (hd rfl) hA⟩
  |13,_,hA=>exact ⟨_,rfl,fun _=>r_13 H ht hn hk hA⟩
  |14,_,hA=>exact ⟨_,rfl,fun _=>r_14 H ht hn hk hA⟩
  |15,_,hA=>exact ⟨_,rfl,fun _=>r_15 H ht hn hk hA⟩
  |16,_,hA=>exact ⟨_,rfl,fun _=>r_16 H ht hn hk hA⟩
  |17,_,hA=>exact ⟨_,rfl,fun _=>r_17 H ht hn hk hA⟩
  |18,_,hA=>exact ⟨_,rfl,fun _=>r_18 H ht hn hk hA⟩
  |19,_,hA=>exact ⟨_,rfl,fun _=>r_19 H ht hn hk hA⟩
  |20,_,hA=>exact ⟨_,rfl,fun _=>r_20 H ht hn hk hA⟩
  |21,_,hA=>exact ⟨_,rfl,fun _=>r_21 H ht hn hk hA⟩
  |22,_,hA=>exact ⟨_,rfl,fun _=>r_22 H ht hn hk hA⟩
  |23,_,hA=>exact ⟨_,rfl,fun _=>r_23 H ht hn hk hA⟩
  |24,_,hA=>exact ⟨_,rfl,fun _=>r_24 H ht hn hk hA⟩
  |25,_,hA=>exact ⟨_,rfl,fun _=>r_25 H ht hn hk hA⟩
  |26,_,hA=>exact ⟨_,rfl,fun _=>r_26 H ht hn hk hA⟩
  |27,_,hA=>exact ⟨_,rfl,fun _=>r_27 H ht hn hk hA⟩
  |28,_,hA=>exact ⟨_,rfl,fun _=>r_28 H ht hn hk hA⟩
  |29,_,hA=>exact hA.elim
  |30,_,hA=>exact hA.elim
  |31,_,hA=>exact ⟨_,rfl,fun _=>r_31 H ht hn hk hA⟩
  |32,_,hA=>exact ⟨_,rfl,fun _=>r_32 H ht hn hk hA⟩
  |33,_,hA=>exact ⟨_,rfl,fun _=>r_33 H ht hn hk hA⟩
  |34,_,hA=>exact ⟨_,rfl,fun _=>r_34 H ht hn hk hA⟩
  |35,_,hA=>exact ⟨_,rfl,fun _=>r_35 H ht hn hk hA⟩
  |36,_,hA=>exact hA.elim
  |37,_,hA=>exact hA.elim
  |38,_,hA=>exact hA.elim
  |39,_,hA=>exact ⟨_,rfl,fun _=>r_39 H ht hn hk hA⟩
  |40,_,hA=>exact ⟨_,rfl,fun hd=>r_40 H ht hn hk (hd rfl) hA⟩
  |41,_,hA=>exact ⟨_,rfl,fun _=>r_41 H ht hn hk hA⟩
  |42,_,hA=>exact ⟨_,rfl,fun _=>r_42 H ht hn hk hA⟩
  |43,_,hA=>exact ⟨_,rfl,fun _=>r_43 H ht hn hk hA⟩
  |44,_,hA=>exact ⟨_,rfl,fun _=>r_44 H ht hn hk hA⟩
  |45,_,hA=>exact ⟨_,rfl,fun _=>r_45 H ht hn hk hA⟩
  |46,_,hA=>exact ⟨_,rfl,fun _=>r_46 H ht hn hk hA⟩
  |47,_,hA=>exact ⟨_,rfl,fun _=>r_47 H ht hn hk hA⟩
  |o+48,ho,_=>exact absurd ho (by omega)
end
end Go.Proofs.YtmhfpjnkjlhbpaaGreatDoor
