/- A thread alone (plain): all that matters is what it sees of memory; a code runs at any place as it runs at 0. -/
import Derived.Test.YtmhfpjnkjlhbpaaGreatDoorQd27
import Derived.Test.YtmhfpjnkjlhbpaaGreatDoorQd22
namespace Go.Proofs.YtmhfpjnkjlhbpaaGreatDoor
open Go.ChangeShapes Go.WideShapes Go.ChangeAt Go.RowKit Go.Deep
set_option linter.unusedVariables false
set_option maxRecDepth 100000
set_option linter.unusedSimpArgs false
structure AV where
 o:Nat
 r:Nat->Int
 V:List (Nat×Int)
 out:List Int
def vset (V:List (Nat×Int)) (x:Nat) (v:Int):List (Nat×Int):=V.map fun p=>if p.1=x then (x,v)else p
theorem vset_get (V:List (Nat×Int)) (x:Nat) (v:Int) (y:Nat):(vset V x v).lookup y=if y=x then (V.lookup x).map (fun _=>v)else V.lookup y:=by
 induction V with
 |nil=>simp [vset]
 |cons p V ih=>
  obtain ⟨a,b⟩:=p
  show List.lookup y ((if a=x then (x,v)else (a,b))::vset V x v)=_
  by_cases c:a=x
  ·subst c
   rw [if_pos rfl,List.lookup_cons,List.lookup_cons,List.lookup_cons]
   by_cases d:y=a
   ·subst d;simp
   ·have d':(y==a)=false:=by simpa using d
    rw [d',if_neg d,ih,if_neg d]
  ·rw [if_neg c,List.lookup_cons,List.lookup_cons,List.lookup_cons]
   by_cases d:y=a
   ·subst d
    simp [c]
   ·have d':(y==a)=false:=by simpa using d
    rw [d',ih]
    by_cases e:y=x
    ·subst e
     rw [if_pos rfl,if_pos rfl]
     have c':(y==a)=false:=by simpa using fun q=>c q.symm
     rw [c']
    ·rw [if_neg e,if_neg e]
def aIns (i:Ins) (a:AV):Option AV:=
 if i.op=1 then some ⟨a.o+1,updR a.r i.a.toNat i.k,a.V,a.out⟩
 else if i.op=2 then some ⟨a.o+1,updR a.r i.a.toNat (a.r i.b.toNat),a.V,a.out⟩
 else if 3<=i.op/\i.op<=12 then some ⟨a.o+1,updR a.r i.a.toNat (aluF i.op.toNat (a.r i.b.toNat) (a.r i.c.toNat)),a.V,a.out⟩
 else if i.op=13 then some ⟨i.k.toNat,a.r,a.V,a.out⟩
 else if i.op=14 then some ⟨if a.r i.a.toNat=0 then i.k.toNat else a.o+1,a.r,a.V,a.out⟩
 else if i.op=15 then some ⟨if a.r i.a.toNat=0 then a.o+1 else i.k.toNat,a.r,a.V,a.out⟩
 else if i.op=22 then some ⟨a.o+1,a.r,a.V,a.out++[a.r i.a.toNat]⟩
 else if i.b=8 then match a.V.lookup i.k.toNat with
  |none=>none
  |some v=>
   if i.op=16 then some ⟨a.o+1,updR a.r i.a.toNat v,a.V,a.out⟩
   else if i.op=17 then some ⟨a.o+1,a.r,vset a.V i.k.toNat (a.r i.a.toNat),a.out⟩
   else if i.op=19 then some ⟨a.o+1,updR a.r i.a.toNat v,vset a.V i.k.toNat (a.r i.a.toNat),a.out⟩
   else if i.op=20 then some ⟨a.o+1,updR a.r i.a.toNat v,vset a.V i.k.toNat ((v+a.r i.a.toNat)% 4294967296),a.out⟩
   else if i.op=21 then some ⟨a.o+1,updR a.r i.a.toNat v,if v=a.r i.a.toNat then vset a.V i.k.toNat (a.r i.c.toNat)else a.V,a.out⟩
   else if i.op=24 then some ⟨a.o+1,updR a.r i.a.toNat 0,a.V,a.out⟩
   else none
 else none
def aOne (L:List Ins) (a:AV):Option AV:=if a.o<L.length then aIns (L.getD a.o default) a else none
def aSteps (L:List Ins):Nat->AV->Option AV
 |0,a=>some a
 |n+1,a=>match aOne L a with
  |none=>none
  |some b=>aSteps L n b
theorem aSteps_add (L:List Ins) (m:Nat): ∀n a b,aSteps L n a=some b->aSteps L (n+m) a=aSteps L m b
 |0,a,b,h=>by
  rw [Nat.zero_add]
  cases h
  rfl
 |n+1,a,b,h=>by
  rw [show n+1+m=(n+m)+1 by omega]
  unfold aSteps at h
  show (match aOne L a with|none=>none|some b=>aSteps L (n+m) b)=_
  cases e:aOne L a with
  |none=>rw [e]at h;cases h
  |some c=>rw [e]at h;exact aSteps_add L m n c b h
theorem aSteps_front (L:List Ins): ∀n a b,aSteps L n a=some b-> ∀j,j<n-> ∃c d,aSteps L j a=some c/\aOne L c=some d/\aSteps L (j+1) a=some d
 |0,_,_,_,j,hj=>absurd hj (Nat.not_lt_zero _)
 |n+1,a,b,h,j,hj=>by
  unfold aSteps at h
  cases e:aOne L a with
  |none=>rw [e]at h;cases h
  |some c=>
   rw [e]at h
   rcases j with _|j
   ·exact ⟨a,c,rfl,e,by unfold aSteps;rw [e];rfl⟩
   ·obtain ⟨x,y,h1,h2,h3⟩:=aSteps_front L n c b h j (by omega)
    exact ⟨x,y,by unfold aSteps;rw [e];exact h1,h2,by unfold aSteps;rw [e];exact h3⟩
def AV.at (z:Nat) (out:List Int) (a:AV):AV:=⟨z+a.o,a.r,a.V,out++a.out⟩
theorem aIns_moved (z:Nat) (out:List Int) {i:Ins} {a b:AV} (hk:jmpB i.op=true->0<=i.k/\i.k+(z:Int)<4294967296) (h:aIns i a=some b):aIns (movedI (z:Int) i) (a.at z out)=some (b.at z out):=by
 have hm:(movedI (z:Int) i).op=i.op/\(movedI (z:Int) i).a=i.a/\(movedI (z:Int) i).b=i.b/\(movedI (z:Int) i).c=i.c:=by
  unfold movedI
  split<;>exact ⟨rfl,rfl,rfl,rfl⟩
 have hj:jmpB i.op=true->(movedI (z:Int) i).k.toNat=z+i.k.toNat:=fun q=>by
  have :=hk q
  unfold movedI
  rw [if_pos q]
  show (aluF 3 i.k (z:Int)).toNat=_
  rw [aluF_add,Int.emod_eq_of_lt (by omega) (by omega)]
  omega
 have hn: ¬jmpB i.op=true->(movedI (z:Int) i).k=i.k:=fun q=>by
  unfold movedI
  rw [if_neg q]
 unfold aIns at h⊢
 rw [hm.1,hm.2.1,hm.2.2.1,hm.2.2.2]
 have nj:i.op≠13->i.op≠14->i.op≠15-> ¬jmpB i.op=true:=fun h1 h2 h3 q=>by
  have :=of_decide_eq_true q
  omega
 by_cases c1:i.op=1
 ·rw [if_pos c1]at h⊢
  rw [hn (nj (by omega) (by omega) (by omega))]
  cases h;rfl
 rw [if_neg c1]at h⊢
 by_cases c2:i.op=2
 ·rw [if_pos c2]at h⊢
  cases h;rfl
 rw [if_neg c2]at h⊢
 by_cases c3:3<=i.op/\i.op<=12
 ·rw [if_pos c3]at h⊢
  cases h;rfl
 rw [if_neg c3]at h⊢
 by_cases c4:i.op=13
 ·rw [if_pos c4]at h⊢
  rw [hj (by rw [c4];rfl)]
  cases h;rfl
 rw [if_neg c4]at h⊢
 by_cases c5:i.op=14
 ·rw [if_pos c5]at h⊢
  rw [hj (by rw [c5];rfl)]
  cases h
  show some (⟨if a.r i.a.toNat=0 then z+i.k.toNat else z+a.o+1,a.r,a.V,out++a.out⟩:AV)=some ⟨z+(if a.r i.a.toNat=0 then i.k.toNat else a.o+1),a.r,a.V,out++a.out⟩
  split<;>rfl
 rw [if_neg c5]at h⊢
 by_cases c6:i.op=15
 ·rw [if_pos c6]at h⊢
  rw [hj (by rw [c6];rfl)]
  cases h
  show some (⟨if a.r i.a.toNat=0 then z+a.o+1 else z+i.k.toNat,a.r,a.V,out++a.out⟩:AV)=some ⟨z+(if a.r i.a.toNat=0 then a.o+1 else i.k.toNat),a.r,a.V,out++a.out⟩
  split<;>rfl
 rw [if_neg c6]at h⊢
 rw [hn (nj c4 c5 c6)]
 by_cases c7:i.op=22
 ·rw [if_pos c7]at h⊢
  cases h
  show some (⟨z+a.o+1,a.r,a.V,(out++a.out)++[a.r i.a.toNat]⟩:AV)=some ⟨z+(a.o+1),a.r,a.V,out++(a.out++[a.r i.a.toNat])⟩
  rw [List.append_assoc]
  rfl
 rw [if_neg c7]at h⊢
 by_cases c8:i.b=8
 ·rw [if_pos c8]at h⊢
  show (match a.V.lookup i.k.toNat with|none=>none|some v=>_)=_
  cases e:a.V.lookup i.k.toNat with
  |none=>rw [e]at h;cases h
  |some v=>
   rw [e]at h
   dsimp only at h⊢
   by_cases d1:i.op=16
   ·rw [if_pos d1]at h⊢
    cases h;rfl
   rw [if_neg d1]at h⊢
   by_cases d2:i.op=17
   ·rw [if_pos d2]at h⊢
    cases h;rfl
   rw [if_neg d2]at h⊢
   by_cases d3:i.op=19
   ·rw [if_pos d3]at h⊢
    cases h;rfl
   rw [if_neg d3]at h⊢
   by_cases d4:i.op=20
   ·rw [if_pos d4]at h⊢
    cases h;rfl
   rw [if_neg d4]at h⊢
   by_cases d5:i.op=21
   ·rw [if_pos d5]at h⊢
    cases h;rfl
   rw [if_neg d5]at h⊢
   by_cases d6:i.op=24
   ·rw [if_pos d6]at h⊢
    cases h;rfl
   rw [if_neg d6]at h
   cases h
 ·rw [if_neg c8]at h
  cases h
theorem aSteps_at (L l:List Ins) (z:Nat) (out:List Int) (hz: ∀o,o<l.length->z+o<L.length/\L.getD (z+o) default=movedI (z:Int) (l.getD o default)) (hk: ∀i∈l,jmpB i.op=true->0<=i.k/\i.k+(z:Int)<4294967296):
 ∀n a b,aSteps l n a=some b->aSteps L n (a.at z out)=some (b.at z out)
 |0,a,b,h=>by cases h;rfl
 |n+1,a,b,h=>by
  unfold aSteps at h⊢
  cases e:aOne l a with
  |none=>rw [e]at h;cases h
  |some c=>
   rw [e]at h
   have e2:aOne L (a.at z out)=some (c.at z out):=by
    unfold aOne at e⊢
    by_cases q:a.o<l.length
    ·rw [if_pos q]at e
     have h1:=hz a.o q
     rw [if_pos (show (a.at z out).o<L.length from h1.1)]
     show aIns (L.getD (z+a.o) default) _=_
     rw [h1.2]
     refine aIns_moved z out (fun r=>hk _ ?_ r) e
     rw [List.getD_eq_getElem?_getD,List.getElem?_eq_getElem q]
     exact List.getElem_mem q
    ·rw [if_neg q]at e;cases e
   rw [e2]
   exact aSteps_at L l z out hz hk n c b h
structure RA (B:MB) (s:Mst) (a:AV):Prop where
 ths:s.ths=[⟨(a.o:Int),a.r,0⟩]
 bl:s.bufs.length=1
 slp:s.slp=[]
 ml:s.mem.length=B.m
 see: ∀x v,a.V.lookup x=some v->x<B.m/\seeM 0 s x=v
 buf: ∀e∈bufM s 0,0<=e.1/\e.1<(B.m:Int)
 out:outsP s.evs=a.out
def bln (s:Mst):Nat:=(bufM s 0).length
theorem outs_snoc (l:List Evt) (x:Evt):outsP (l++[x])=outsP l++(if x.who=0/\x.kind=6 then [x.value]else []):=by
 unfold outsP
 rw [List.filter_append,List.map_append]
 congr 1
 by_cases c1:x.who=0<;>by_cases c2:x.kind=6<;>simp [c1,c2,List.filter_cons]
section
variable {B:MB} {s:Mst} {a:AV}
theorem RA.see_flush (h:RA B s a) (x:Nat) (hx:x<B.m):seeM 0 (tflush 0 s) x=seeM 0 s x:=by
 cases e:s.bufs.getD 0 []with
 |nil=>rw [tflush_nil e]
 |cons y l=>
  rw [tflush_cons e]
  have hb:(s.bufs.set 0 l).getD 0 []=l:=by
   have :=h.bl
   rw [List.getD_eq_getElem?_getD,List.getElem?_set_self (by omega)];rfl
  have hy:0<=y.1/\y.1<(B.m:Int):=h.buf y (by unfold bufM;rw [e];exact List.mem_cons_self)
  unfold seeM
  dsimp only
  rw [hb,e]
  show _=if (if (fnB l (x:Int)).2=true then fnB l (x:Int)else if y.1=(x:Int)then (y.2,true)else (0,false)).2=true then (if (fnB l (x:Int)).2=true then fnB l (x:Int)else if y.1=(x:Int)then (y.2,true)else (0,false)).1 else s.mem.getD x 0
  by_cases c:(fnB l (x:Int)).2=true
  ·rw [if_pos c,if_pos c,if_pos c]
  ·rw [if_neg c,if_neg c]
   by_cases d:y.1=(x:Int)
   ·rw [if_pos d,if_pos rfl,d,Int.toNat_natCast,List.getD_eq_getElem?_getD,List.getElem?_set_self (by rw [h.ml];exact hx)]
    rfl
   ·rw [if_neg d,if_neg (by decide),List.getD_eq_getElem?_getD,List.getElem?_set_ne (by omega),List.getD_eq_getElem?_getD]
theorem RA.flush (h:RA B s a):RA B (tflush 0 s) a/\bln (tflush 0 s)<=bln s/\(bufM s 0≠[]->bln (tflush 0 s)+1=bln s):=by
 have k:=tflush_same 0 s
 have hs:=fun x hx=>h.see_flush x hx
 have hbl:=h.bl
 cases e:s.bufs.getD 0 []with
 |nil=>rw [tflush_nil e];exact ⟨h,Nat.le_refl _,fun q=>absurd e q⟩
 |cons y l=>
  have hb:bufM (tflush 0 s) 0=l:=by
   rw [tflush_cons e]
   show (s.bufs.set 0 l).getD 0 []=l
   rw [List.getD_eq_getElem?_getD,List.getElem?_set_self (by omega)];rfl
  have e':bufM s 0=y::l:=e
  refine ⟨⟨k.1.trans h.ths,k.2.2.2.1.trans h.bl,k.2.1.trans h.slp,k.2.2.2.2.trans h.ml,fun x v q=>⟨(h.see x v q).1,(hs x (h.see x v q).1).trans (h.see x v q).2⟩,fun z hz=>h.buf z (by rw [e'];rw [hb]at hz;exact List.mem_cons_of_mem _ hz),?_⟩,?_,fun _=>?_⟩
  ·rw [tflush_cons e]
   show outsP (s.evs++[_])=a.out
   rw [outs_snoc,h.out]
   simp
  ·unfold bln;rw [hb,e'];simp
  ·unfold bln;rw [hb,e'];rfl
theorem RA.eqv (h:RA B s a) {s':Mst} (h1:s'.ths=s.ths) (h2:s'.bufs=s.bufs) (h3:s'.slp=s.slp) (h4:s'.mem=s.mem) (h5:outsP s'.evs=outsP s.evs):RA B s' a:=
 ⟨h1.trans h.ths,by rw [h2];exact h.bl,h3.trans h.slp,by rw [h4];exact h.ml,fun x v q=>⟨(h.see x v q).1,by unfold seeM;rw [h2,h4];exact (h.see x v q).2⟩,fun e he=>h.buf e (by unfold bufM at he⊢;rw [h2]at he;exact he),h5.trans h.out⟩
theorem RA.step (h:RA B s a) {i:Ins} {b:AV} (hroom:1<=B.room) (hl:a.o<(B.codes.getD 0 cdd).len) (hF:(B.codes.getD 0 cdd).F a.o=i) (hr:rightB i (B.codes.getD 0 cdd).len=true) (hb:aIns i a=some b) (hi0:0<=i.k):
 (RA B (tStep B s 0) b/\bln (tStep B s 0)<=bln s+1)∨(RA B (tStep B s 0) a/\bln (tStep B s 0)+1=bln s):=by
 have hth:thM s 0=⟨(a.o:Int),a.r,0⟩:=by unfold thM;rw [h.ths];rfl
 have hbl:=h.bl
 obtain ⟨op,ra,rb,rc,k⟩:=i
 have hst:=fun ha=>tStep_at (B:=B) (s:=s) (t:=0) (th:=⟨(a.o:Int),a.r,0⟩) (i:=⟨op,ra,rb,rc,k⟩) (p:=a.o) hth rfl rfl hl hF hr ha
 have set1: ∀(s1:Mst) (x:Th),s1.ths=s.ths->s1.ths.set 0 x=[x]:=fun s1 x e=>by rw [e,h.ths];rfl
 have bfs: ∀l,(s.bufs.set 0 l).getD 0 []=l:=fun l=>by rw [List.getD_eq_getElem?_getD,List.getElem?_set_self (by omega)];rfl
 have calm: ∀x:AV,(∀q:askB op=true,False)->insR (tOps B 0) s ⟨(a.o:Int),a.r,0⟩ ⟨op,ra,rb,rc,k⟩=(⟨(x.o:Int),x.r,0⟩,s)->x.V=a.V->x.out=a.out->RA B (tStep B s 0) x/\bln (tStep B s 0)<=bln s+1:=fun x hq e e1 e2=>by
  rw [hst (fun q=>absurd q hq),e]
  refine ⟨⟨set1 s _ rfl,hbl,h.slp,h.ml,fun y v q=>?_,h.buf,by rw [e2];exact h.out⟩,Nat.le_succ _⟩
  rw [e1]at q
  exact h.see y v q
 unfold aIns at hb
 dsimp only at hb hi0
 have hz: ∀n:Nat,op=(n:Int)->op=(n:Int):=fun _ q=>q
 by_cases c1:op=1
 ·rw [if_pos c1]at hb;subst c1;cases hb
  exact .inl (calm _ (fun q=>by cases q) in_set rfl rfl)
 rw [if_neg c1]at hb
 by_cases c2:op=2
 ·rw [if_pos c2]at hb;subst c2;cases hb
  exact .inl (calm _ (fun q=>by cases q) in_move rfl rfl)
 rw [if_neg c2]at hb
 by_cases c3:3<=op/\op<=12
 ·rw [if_pos c3]at hb
  obtain ⟨n,rfl⟩: ∃n:Nat,op=(n:Int):=⟨op.toNat,by omega⟩
  cases hb
  refine .inl (calm _ (fun q=>?_) (in_alu n (by omega) (by omega)) rfl rfl)
  have :=of_decide_eq_true q
  omega
 rw [if_neg c3]at hb
 by_cases c4:op=13
 ·rw [if_pos c4]at hb;subst c4;cases hb
  refine .inl (calm _ (fun q=>by cases q) (in_jump.trans ?_) rfl rfl)
  show _=((⟨((k.toNat:Nat):Int),a.r,0⟩:Th),s)
  rw [Int.toNat_of_nonneg hi0]
 rw [if_neg c4]at hb
 by_cases c5:op=14
 ·rw [if_pos c5]at hb;subst c5;cases hb
  refine .inl (calm _ (fun q=>by cases q) (in_zero.trans ?_) rfl rfl)
  show _=((⟨((if a.r ra.toNat=0 then k.toNat else a.o+1:Nat):Int),a.r,0⟩:Th),s)
  split
  ·rw [Int.toNat_of_nonneg hi0]
  ·rfl
 rw [if_neg c5]at hb
 by_cases c6:op=15
 ·rw [if_pos c6]at hb;subst c6;cases hb
  refine .inl (calm _ (fun q=>by cases q) (in_some.trans ?_) rfl rfl)
  show _=((⟨((if a.r ra.toNat=0 then a.o+1 else k.toNat:Nat):Int),a.r,0⟩:Th),s)
  split
  ·rfl
  ·rw [Int.toNat_of_nonneg hi0]
 rw [if_neg c6]at hb
 by_cases c7:op=22
 ·rw [if_pos c7]at hb;subst c7;cases hb
  rw [hst (fun q=>by cases q),in_out]
  refine .inl ⟨⟨set1 (noteM 0 s _) _ rfl,hbl,h.slp,h.ml,h.see,h.buf,?_⟩,Nat.le_succ _⟩
  show outsP (s.evs++[_])=_
  rw [outs_snoc,h.out]
  simp
 rw [if_neg c7]at hb
 by_cases c8:rb=8
 ·rw [if_pos c8]at hb
  subst c8
  cases e:a.V.lookup k.toNat with
  |none=>rw [e]at hb;cases hb
  |some v=>
   rw [e]at hb
   dsimp only at hb
   obtain ⟨hx,hsee⟩:=h.see _ _ e
   obtain ⟨x,rfl⟩: ∃x:Nat,k=(x:Int):=⟨k.toNat,by omega⟩
   rw [Int.toNat_natCast]at hx hsee e hb
   have had:addrF ⟨(a.o:Int),a.r,0⟩ ⟨op,ra,8,rc,(x:Int)⟩=(x:Int):=rfl
   have hst:=hst (fun _=>by rw [had];omega)
   have hmem: ∀y:Nat,y<B.m->y<s.mem.length:=fun y q=>by rw [h.ml];exact q
   have drain:DrainP op->bufM s 0≠[]->RA B (tStep B s 0) a/\bln (tStep B s 0)+1=bln s:=fun hd hne=>by
    rw [hst,in_drain hd hne]
    obtain ⟨k1,_,k3⟩:=h.flush
    refine ⟨k1.eqv ?_ rfl rfl rfl rfl,k3 hne⟩
    show (tflush 0 s).ths.set 0 _=(tflush 0 s).ths
    rw [k1.ths];rfl
   have lock: ∀(u:AV) (w:Int) (ok:Bool) (x':Nat),bufM s 0=[]->insR (tOps B 0) s ⟨(a.o:Int),a.r,0⟩ ⟨op,ra,8,rc,(x:Int)⟩=(⟨(u.o:Int),u.r,0⟩,lockM 0 s (a.o:Int) x w ok)->u.V=(if ok=true then vset a.V x w else a.V)->u.out=a.out->RA B (tStep B s 0) u/\bln (tStep B s 0)<=bln s+1:=fun u w ok _ hne hin hV hout=>by
    rw [hst,hin]
    have q1:(lockM 0 s (a.o:Int) x w ok).ths=s.ths:=by unfold lockM noteM;cases ok<;>rfl
    have q2:(lockM 0 s (a.o:Int) x w ok).bufs=s.bufs:=by unfold lockM noteM;cases ok<;>rfl
    have q3:(lockM 0 s (a.o:Int) x w ok).slp=s.slp:=by unfold lockM noteM;cases ok<;>rfl
    have q4:(lockM 0 s (a.o:Int) x w ok).mem=if ok=true then s.mem.set x w else s.mem:=by unfold lockM noteM;cases ok<;>rfl
    have q5:outsP (lockM 0 s (a.o:Int) x w ok).evs=outsP s.evs:=by
     have :(lockM 0 s (a.o:Int) x w ok).evs=s.evs++[⟨4,0,(a.o:Int),(x:Int),if ok=true then w else s.mem.getD x 0,s.mem.getD x 0,0,ok⟩]:=by unfold lockM noteM;cases ok<;>rfl
     rw [this,outs_snoc]
     simp
    refine ⟨⟨set1 _ _ q1,by show (lockM 0 s (a.o:Int) x w ok).bufs.length=1;rw [q2];exact hbl,q3.trans h.slp,?_,fun y z hyz=>?_,fun e he=>h.buf e ?_,q5.trans (h.out.trans hout.symm)⟩,?_⟩
    ·show (lockM 0 s (a.o:Int) x w ok).mem.length=B.m
     rw [q4]
     cases ok
     ·exact h.ml
     ·show (s.mem.set x w).length=B.m
      rw [List.length_set];exact h.ml
    ·rw [hV]at hyz
     have nob: ∀y,seeM 0 ({(lockM 0 s (a.o:Int) x w ok)with ths:=(lockM 0 s (a.o:Int) x w ok).ths.set 0 ⟨(u.o:Int),u.r,0⟩}:Mst) y=(lockM 0 s (a.o:Int) x w ok).mem.getD y 0:=fun y=>see_mem (by
      show (lockM 0 s (a.o:Int) x w ok).bufs.getD 0 []=[]
      rw [q2];exact hne) y
     show y<B.m/\seeM 0 ({(lockM 0 s (a.o:Int) x w ok)with ths:=(lockM 0 s (a.o:Int) x w ok).ths.set 0 ⟨(u.o:Int),u.r,0⟩}:Mst) y=z
     rw [nob,q4]
     cases ok
     ·have :=h.see y z hyz
      rw [see_mem hne]at this
      exact this
     ·have hyz:(vset a.V x w).lookup y=some z:=hyz
      rw [vset_get]at hyz
      show y<B.m/\(s.mem.set x w).getD y 0=z
      by_cases c:y=x
      ·subst c
       rw [if_pos rfl,e]at hyz
       cases hyz
       refine ⟨hx,?_⟩
       rw [List.getD_eq_getElem?_getD,List.getElem?_set_self (hmem _ hx)];rfl
      ·rw [if_neg c]at hyz
       have :=h.see y z hyz
       rw [see_mem hne]at this
       refine ⟨this.1,?_⟩
       rw [List.getD_eq_getElem?_getD,List.getElem?_set_ne (fun q=>c q.symm),<-List.getD_eq_getElem?_getD]
       exact this.2
    ·have he:e∈(lockM 0 s (a.o:Int) x w ok).bufs.getD 0 []:=he
     rw [q2]at he
     exact he
    ·show ((lockM 0 s (a.o:Int) x w ok).bufs.getD 0 []).length<=_
     rw [q2]
     exact Nat.le_succ _
   by_cases d1:op=16
   ·rw [if_pos d1]at hb;subst d1;cases hb
    rw [hst,in_load had,hsee]
    refine .inl ⟨⟨set1 (noteM 0 s _) _ rfl,hbl,h.slp,h.ml,h.see,h.buf,?_⟩,Nat.le_succ _⟩
    show outsP (s.evs++[_])=_
    rw [outs_snoc,h.out]
    simp
   rw [if_neg d1]at hb
   by_cases d2:op=17
   ·rw [if_pos d2]at hb;subst d2;cases hb
    by_cases hro:((bufM s 0).length:Int)<B.room
    ·rw [hst,in_store had hx hro]
     refine .inl ⟨⟨set1 (noteM 0 _ _) _ rfl,by show (s.bufs.set 0 _).length=1;rw [List.length_set];exact hbl,h.slp,h.ml,fun y z hyz=>?_,fun q hq=>?_,?_⟩,?_⟩
     ·rw [vset_get]at hyz
      show y<B.m/\(if (fnB ((s.bufs.set 0 (bufM s 0++[((x:Int),a.r ra.toNat)])).getD 0 []) (y:Int)).2=true then (fnB ((s.bufs.set 0 (bufM s 0++[((x:Int),a.r ra.toNat)])).getD 0 []) (y:Int)).1 else s.mem.getD y 0)=z
      rw [bfs,fnB_snoc]
      by_cases c:y=x
      ·subst c
       rw [if_pos rfl,e]at hyz
       cases hyz
       rw [if_pos rfl]
       exact ⟨hx,rfl⟩
      ·rw [if_neg c]at hyz
       rw [if_neg (show¬(x:Int)=(y:Int) by omega)]
       exact h.see y z hyz
     ·have hq:q∈(s.bufs.set 0 (bufM s 0++[((x:Int),a.r ra.toNat)])).getD 0 []:=hq
      rw [bfs]at hq
      rcases List.mem_append.1 hq with hq|hq
      ·exact h.buf q hq
      ·rw [List.mem_singleton.1 hq]
       show 0<=(x:Int)/\(x:Int)<(B.m:Int)
       omega
     ·show outsP (s.evs++[_])=_
      rw [outs_snoc,h.out]
      simp
     ·show ((s.bufs.set 0 (bufM s 0++[((x:Int),a.r ra.toNat)])).getD 0 []).length<=_
      rw [bfs,List.length_append]
      exact Nat.le_refl _
    ·rw [hst,in_full hro]
     obtain ⟨k1,_,k3⟩:=h.flush
     refine .inr ⟨k1.eqv ?_ rfl rfl rfl rfl,k3 (fun q=>hro (by rw [q];show (0:Int)<B.room;omega))⟩
     show (tflush 0 s).ths.set 0 _=(tflush 0 s).ths
     rw [k1.ths];rfl
   rw [if_neg d2]at hb
   by_cases hne:bufM s 0=[]
   ·have hsee':s.mem.getD x 0=v:=by rw [<-see_mem hne];exact hsee
    by_cases d3:op=19
    ·rw [if_pos d3]at hb;subst d3;cases hb
     exact .inl (lock _ _ _ 0 hne ((in_swap hne had).trans (by rw [hsee'];rfl)) rfl rfl)
    rw [if_neg d3]at hb
    by_cases d4:op=20
    ·rw [if_pos d4]at hb;subst d4;cases hb
     exact .inl (lock _ _ _ 0 hne ((in_fetch hne had).trans (by rw [hsee'];rfl)) rfl rfl)
    rw [if_neg d4]at hb
    by_cases d5:op=21
    ·rw [if_pos d5]at hb;subst d5;cases hb
     refine .inl (lock _ _ _ 0 hne ((in_cas hne had).trans (by rw [hsee'];rfl)) ?_ rfl)
     show (if v=a.r ra.toNat then _ else _)=(if (v==a.r ra.toNat)=true then _ else _)
     by_cases c:v=a.r ra.toNat
     ·rw [if_pos c,if_pos (by simpa using c)]
     ·rw [if_neg c,if_neg (by simpa using c)]
    rw [if_neg d5]at hb
    by_cases d6:op=24
    ·rw [if_pos d6]at hb;subst d6;cases hb
     have hw:wakeM s x (a.r ra.toNat)=(0,s):=by
      unfold wakeM
      rw [h.slp]
      have :wk (x:Int) (a.r ra.toNat).toNat ([]:List Slp)=([],[]):=by cases (a.r ra.toNat).toNat<;>rfl
      rw [this,<-h.slp]
      rfl
     rw [hst,in_wake hne had,hw]
     refine .inl ⟨⟨set1 (noteM 0 s _) _ rfl,hbl,h.slp,h.ml,h.see,h.buf,?_⟩,Nat.le_succ _⟩
     show outsP (s.evs++[_])=_
     rw [outs_snoc,h.out]
     simp
    rw [if_neg d6]at hb
    cases hb
   ·refine .inr (drain ?_ hne)
    unfold DrainP
    by_cases d3:op=19
    ·omega
    rw [if_neg d3]at hb
    by_cases d4:op=20
    ·omega
    rw [if_neg d4]at hb
    by_cases d5:op=21
    ·omega
    rw [if_neg d5]at hb
    by_cases d6:op=24
    ·omega
    rw [if_neg d6]at hb
    cases hb
 ·rw [if_neg c8]at hb
  cases hb
end
end Go.Proofs.YtmhfpjnkjlhbpaaGreatDoor
