/- seq (plain): the codes of writers and readers, piece by piece; what holds whatever the turns. -/
import Derived.Test.YtmhfpjnkjlhbpaaGreatDoorQf24
namespace Go.Proofs.YtmhfpjnkjlhbpaaGreatDoor
open Go.ChangeShapes Go.WideShapes Go.ChangeAt Go.RowKit Go.Deep
set_option linter.unusedVariables false
set_option maxRecDepth 100000
set_option linter.unusedSimpArgs false
inductive Sg
 |wh|wp (i:Nat)|wt|rh|rl (i:Nat)|rt|ro (i:Nat)
def sgL (t q g:Nat):Sg->List Op
 | .wh=>[.mark 0,.load 4 17,.set 5 ((t:Int)+1),.same 6 4 5,.zero 6 (q+7),.set 7 1,.jump (q+13),.set 4 0,.cas 4 5 17,.some 4 (q+7),.set 4 1,.fetch 4 16,.set 7 0,.mark 1,.load 0 18,.set 1 1,.add 0 0 1]
 | .wp i=>[.mark 6,.load 4 17,.set 5 ((t:Int)+1),.same 6 4 5,.some 6 (q+7),.set 7 2,.jump (q+9),.store 0 (18+i),.set 7 0,.mark 7]
 | .wt=>[.mark 2,.load 4 17,.set 5 ((t:Int)+1),.same 6 4 5,.some 6 (q+7),.set 7 2,.jump (q+12),.set 4 1,.fetch 4 16,.set 4 0,.store 4 17,.set 7 0,.mark 3]
 | .rh=>[.mark 4,.load 4 16,.set 5 1,.and 6 4 5,.some 6 (q+1)]
 | .rl i=>[.load i (18+i)]
 | .rt=>[.load 5 16,.same 6 4 5,.zero 6 g,.set 7 0,.mark 5]
 | .ro i=>[.out i]
def sgLen:Sg->Nat
 | .wh=>17
 | .wp _=>10
 | .wt=>13
 | .rh=>5
 | .rl _=>1
 | .rt=>5
 | .ro _=>1
theorem sgL_len (t q g:Nat) (k:Sg):(sgL t q g k).length=sgLen k:=by cases k<;>rfl
def sgW (N n:Nat):Sg:=if n % (N+2)=0 then .wh else if n % (N+2)<=N then .wp (n % (N+2)-1)else .wt
def sgR (N n:Nat):Sg:=if n % (2*N+2)=0 then .rh else if n % (2*N+2)<=N then .rl (n % (2*N+2)-1)else if n % (2*N+2)=N+1 then .rt else .ro (n % (2*N+2)-(N+2))
def dataQ (v:Int) (a:Nat):Nat->List Ent
 |0=>[]
 |n+1=>(((18+a:Nat):Int),v)::dataQ v (a+1) n
theorem dataQ_snoc (v:Int) (a n:Nat):dataQ v a (n+1)=dataQ v a n++[(((18+(a+n):Nat):Int),v)]:=by
 induction n generalizing a with
 |zero=>rfl
 |succ n ih=>
  show (((18+a:Nat):Int),v)::dataQ v (a+1) (n+1)=(((18+a:Nat):Int),v)::dataQ v (a+1) n++_
  rw [ih (a+1),List.cons_append,show a+1+n=a+(n+1) by omega]
theorem dataQ_miss (v:Int) (a n x:Nat) (hx:x<18):(fnB (dataQ v a n) (x:Int)).2=false:=by
 induction n generalizing a with
 |zero=>rfl
 |succ n ih=>
  unfold dataQ fnB
  rw [ih (a+1),if_neg (by decide),if_neg (by show¬(((18+a:Nat):Int))=(x:Int);omega)]
def ownQ:Option Nat->Int
 |none=>0
 |some t=>(t:Int)+1
def oneQ (c:Option Int) (x:Evt):Option Int:=
 match c with
 |none=>none
 |some i=>if x.kind≠7 then some i else if x.k=1/\x.value=0 then (if 0<=i then none else some x.who)else if x.k=2 then (if i≠x.who then none else some (-1))else some i
def oneF (l:List Evt):Option Int:=l.foldl oneQ (some (-1))
theorem oneF_snoc (l:List Evt) (x:Evt):oneF (l++[x])=oneQ (oneF l) x:=by unfold oneF;rw [List.foldl_append];rfl
def begQ (t:Nat) (s:Nat×List Nat) (x:Evt):Nat×List Nat:=if x.kind=7/\x.k=3 then (s.1+1,s.2)else if x.kind=7/\x.k=4/\x.who=(t:Int)then (s.1,s.2++[s.1])else s
def begF (t:Nat) (l:List Evt):Nat×List Nat:=l.foldl (begQ t) (0,[])
theorem begF_snoc (t:Nat) (l:List Evt) (x:Evt):begF t (l++[x])=begQ t (begF t l) x:=by unfold begF;rw [List.foldl_append];rfl
def nuQ (x:Evt):Prop:=x.kind≠7/\x.kind≠6
theorem oneF_quiet {l m:List Evt} (h: ∀x∈m,x.kind≠7):oneF (l++m)=oneF l:=by
 induction m generalizing l with
 |nil=>rw [List.append_nil]
 |cons x m ih=>
  rw [show l++x::m=(l++[x])++m by simp,ih (fun y hy=>h y (by simp [hy])),oneF_snoc]
  have hx:=h x (by simp)
  cases hq:oneF l with
  |none=>rfl
  |some i=>unfold oneQ;dsimp only;rw [if_pos hx]
theorem begF_quiet {t:Nat} {l m:List Evt} (h: ∀x∈m,x.kind≠7):begF t (l++m)=begF t l:=by
 induction m generalizing l with
 |nil=>rw [List.append_nil]
 |cons x m ih=>
  rw [show l++x::m=(l++[x])++m by simp,ih (fun y hy=>h y (by simp [hy])),begF_snoc]
  have hx:=h x (by simp)
  unfold begQ
  rw [if_neg (fun q=>hx q.1),if_neg (fun q=>hx q.1)]
structure SL where
 (hd odd:Bool)
 (fl V:Nat)
 inn:Bool
 (c m3:Nat)
 vs:List Nat
 bg:List Nat
 O:List Int
 (s:Int)
def outQ (N:Nat) (vs:List Nat):List Int:=vs.flatMap fun v:Nat=>List.replicate N (v:Int)
theorem outQ_snoc (N:Nat) (vs:List Nat) (v:Nat):outQ N (vs++[v])=outQ N vs++List.replicate N (v:Int):=by unfold outQ;rw [List.flatMap_append];simp
structure SFree (L:SL) (c m3:Nat) (b:List Ent):Prop where
 b:(L.hd=false/\b=[])∨(L.hd=true/\b=[(17,0)]/\L.odd=false)
 inn:L.inn=false
 m3:L.m3=m3
 c:L.c=c
structure SHas (L:SL) (c m3:Nat) (b:List Ent):Prop where
 hd:L.hd=true
 odd:L.odd=false
 b:b=[]
 inn:L.inn=false
 m3:L.m3=m3
 c:L.c=c
structure SOdd (L:SL) (c k:Nat) (b:List Ent) (inn:Bool):Prop where
 hd:L.hd=true
 odd:L.odd=true
 fl:L.fl<=k
 b:b=dataQ ((L.V:Int)+1) L.fl (k-L.fl)
 inn:L.inn=inn
 m3:L.m3=c
 c:L.c=c
structure SRd (N:Nat) (L:SL) (b:List Ent) (m:Nat) (cur:List Int):Prop where
 hd:L.hd=false
 inn:L.inn=false
 b:b=[]
 c:L.c=0
 m3:L.m3=0
 vs:L.vs.length=m
 O:L.O=outQ N L.vs++cur
 srt: ∀j,j+1<L.vs.length->L.vs.getD j 0<=L.vs.getD (j+1) 0
 beg: ∀j,j<L.vs.length->L.bg.getD j 0<=L.vs.getD j 0
 le: ∀j,j<L.vs.length->2*((L.vs.getD j 0:Nat):Int)<=L.s
structure SIn (L:SL) (m:Nat):Prop where
 bg:L.bg.length=m+1
 e:2*((L.bg.getD m 0:Nat):Int)<=L.s
structure SGot (L:SL) (m:Nat) (r:Nat->Int):Prop where
 bg:L.bg.length=m+1
 le:r 4<=L.s
 e:2*((L.bg.getD m 0:Nat):Int)<=r 4
 vs: ∀j,j<L.vs.length->2*((L.vs.getD j 0:Nat):Int)<=r 4
structure SVal (N:Nat) (L:SL) (m:Nat) (r:Nat->Int) (v:Nat):Prop where
 bg:L.bg.length=m+1
 r: ∀j,j<N->r j=(v:Int)
 e:L.bg.getD m 0<=v
 vs: ∀j,j<L.vs.length->L.vs.getD j 0<=v
 le:2*(v:Int)<=L.s
def sgA (N:Nat) (L:SL) (m t:Nat) (r:Nat->Int) (b:List Ent):Sg->Nat->Prop
 | .wh,0=>SFree L m m b
 | .wh,1=>SFree L m m b
 | .wh,2=>SFree L m m b/\r 4≠((t:Int)+1)
 | .wh,3=>SFree L m m b/\r 4≠((t:Int)+1)/\r 5=((t:Int)+1)
 | .wh,4=>SFree L m m b/\r 6=0/\r 5=((t:Int)+1)
 | .wh,7=>SFree L m m b/\r 5=((t:Int)+1)
 | .wh,8=>SFree L m m b/\r 5=((t:Int)+1)/\r 4=0
 | .wh,9=>(SFree L m m b/\r 4≠0/\r 5=((t:Int)+1))∨(SHas L m m b/\r 4=0)
 | .wh,10=>SHas L m m b
 | .wh,11=>SHas L m m b/\r 4=1
 | .wh,12=>SOdd L m 0 b false
 | .wh,13=>SOdd L m 0 b false/\r 7=0
 | .wh,14=>SOdd L m 0 b true
 | .wh,15=>SOdd L m 0 b true/\r 0=(L.V:Int)
 | .wh,16=>SOdd L m 0 b true/\r 0=(L.V:Int)/\r 1=1
 | .wp i,0=>SOdd L m i b true/\r 0=(L.V:Int)+1
 | .wp i,1=>SOdd L m i b true/\r 0=(L.V:Int)+1
 | .wp i,2=>SOdd L m i b true/\r 0=(L.V:Int)+1/\r 4=((t:Int)+1)
 | .wp i,3=>SOdd L m i b true/\r 0=(L.V:Int)+1/\r 4=((t:Int)+1)/\r 5=((t:Int)+1)
 | .wp i,4=>SOdd L m i b true/\r 0=(L.V:Int)+1/\r 6=1
 | .wp i,7=>SOdd L m i b true/\r 0=(L.V:Int)+1
 | .wp i,8=>SOdd L m (i+1) b true/\r 0=(L.V:Int)+1
 | .wp i,9=>SOdd L m (i+1) b true/\r 0=(L.V:Int)+1/\r 7=0
 | .wt,0=>SOdd L m N b true
 | .wt,1=>SOdd L m N b false
 | .wt,2=>SOdd L m N b false/\r 4=((t:Int)+1)
 | .wt,3=>SOdd L m N b false/\r 4=((t:Int)+1)/\r 5=((t:Int)+1)
 | .wt,4=>SOdd L m N b false/\r 6=1
 | .wt,7=>SOdd L m N b false
 | .wt,8=>SOdd L m N b false/\r 4=1
 | .wt,9=>SHas L (m+1) m b
 | .wt,10=>SHas L (m+1) m b/\r 4=0
 | .wt,11=>SFree L (m+1) m b
 | .wt,12=>SFree L (m+1) m b/\r 7=0
 | .rh,0=>SRd N L b m []/\L.bg.length=m
 | .rh,1=>SRd N L b m []/\SIn L m
 | .rh,2=>SRd N L b m []/\SGot L m r
 | .rh,3=>SRd N L b m []/\SGot L m r/\r 5=1
 | .rh,4=>SRd N L b m []/\SGot L m r/\r 6=r 4 % 2
 | .rl i,0=>SRd N L b m []/\SGot L m r/\r 4 % 2=0/\ ∀j,j<i->L.s=r 4->2*r j=r 4
 | .rt,0=>SRd N L b m []/\SGot L m r/\r 4 % 2=0/\ ∀j,j<N->L.s=r 4->2*r j=r 4
 | .rt,1=>SRd N L b m []/\SGot L m r/\r 4 % 2=0/\(r 5=r 4-> ∀j,j<N->2*r j=r 4)
 | .rt,2=>SRd N L b m []/\SGot L m r/\r 4 % 2=0/\(r 6≠0-> ∀j,j<N->2*r j=r 4)
 | .rt,3=>SRd N L b m []/\SGot L m r/\r 4 % 2=0/\ ∀j,j<N->2*r j=r 4
 | .rt,4=>SRd N L b m []/\SGot L m r/\r 4 % 2=0/\(∀j,j<N->2*r j=r 4)/\r 7=0
 | .ro i,0=> ∃v:Nat,SRd N L b m (List.replicate i (v:Int))/\SVal N L m r v
 |_,_=>False
def SqLoc (N rd:Nat) (kd:Nat->Sg) (rn:Nat->Nat) (sn:Nat) (bs:Nat->Nat) (isW:Bool) (L:SL) (t:Nat) (th:Th) (b:List Ent):Prop:=
 ∃n o,th.pc=((bs n+o:Nat):Int)/\((n<sn/\(th.st=0∨th.st=1)/\o<sgLen (kd n)/\sgA N L (rn n) t th.regs b (kd n) o)∨(n=sn/\o=0/\(th.st=0∨th.st=2)/\(if isW=true then SFree L rd rd b else SRd N L b rd []/\L.bg.length=rd)))
structure Kd (N rd:Nat) (kd:Nat->Sg) (rn gn:Nat->Nat) (sn:Nat) (bs:Nat->Nat) (isW:Bool):Prop where
 wh: ∀n,n<sn->kd n= .wh->n+1<sn/\kd (n+1)= .wp 0/\rn (n+1)=rn n
 wp: ∀n i,n<sn->kd n= .wp i->i<N/\n+1<sn/\rn (n+1)=rn n/\kd (n+1)=if i+1<N then .wp (i+1)else .wt
 wt: ∀n,n<sn->kd n= .wt->isW=true/\((n+1=sn/\rn n+1=rd)∨(n+1<sn/\kd (n+1)= .wh/\rn (n+1)=rn n+1))
 rh: ∀n,n<sn->kd n= .rh->n+1<sn/\kd (n+1)= .rl 0/\rn (n+1)=rn n
 rl: ∀n i,n<sn->kd n= .rl i->i<N/\n+1<sn/\rn (n+1)=rn n/\kd (n+1)=if i+1<N then .rl (i+1)else .rt
 rt: ∀n,n<sn->kd n= .rt->n+1<sn/\kd (n+1)= .ro 0/\rn (n+1)=rn n/\gn n<sn/\kd (gn n)= .rh/\rn (gn n)=rn n
 ro: ∀n i,n<sn->kd n= .ro i->i<N/\((i+1<N/\n+1<sn/\rn (n+1)=rn n/\kd (n+1)= .ro (i+1))∨(i+1=N/\isW=false/\((n+1=sn/\rn n+1=rd)∨(n+1<sn/\kd (n+1)= .rh/\rn (n+1)=rn n+1))))
 nx: ∀n,bs (n+1)=bs n+sgLen (kd n)
 rnl: ∀n,n<sn->rn n<rd
 st:0<sn->kd 0=(if isW=true then .wh else .rh)/\rn 0=0
 z:sn=0->rd=0
 b0:bs 0=0
structure SG where
 h:Option Nat
 odd:Bool
 (fl V:Nat)
 iw:Option Nat
 (c m3:Nat->Nat)
 vs:Nat->List Nat
def SG.at_ (g:SG) (v:Vw) (t:Nat):SL:=⟨decide (g.h=some t),g.odd,g.fl,g.V,decide (g.iw=some t),g.c t,g.m3 t,g.vs t,(begF t v.evs).2,outE t v.evs,v.mem 16⟩
def fineQ (x:Evt):Prop:=x.kind=7->x.k % 2=1->x.value=0
structure SqC where
 (nt N rd:Nat)
 kd:Nat->Nat->Sg
 (rn gn:Nat->Nat->Nat)
 sn:Nat->Nat
 bs:Nat->Nat->Nat
 isW:Nat->Bool
structure SqC.Ok (C:SqC):Prop where
 n8:C.nt<=8
 N1:1<=C.N
 N3:C.N<=3
 rd:C.rd<=3
 k: ∀t,t<C.nt->Kd C.N C.rd (C.kd t) (C.rn t) (C.gn t) (C.sn t) (C.bs t) (C.isW t)
structure SqI (C:SqC) (v:Vw) (g:SG):Prop where
 ok:C.Ok
 m17:v.mem 17=ownQ g.h
 hlt: ∀u,g.h=some u->u<C.nt
 m16:v.mem 16=2*(g.V:Int)+(b2n g.odd:Int)
 data: ∀i,i<C.N->v.mem (18+i)=(g.V:Int)+(if i<g.fl then 1 else 0)
 ev:g.odd=false->g.fl=0
 od:g.odd=true->g.h≠none
 loc: ∀t,t<C.nt->SqLoc C.N C.rd (C.kd t) (C.rn t) (C.sn t) (C.bs t) (C.isW t) (g.at_ v t) t (v.th t) (v.bf t)
 V:g.V=sumT C.nt g.c
 e3: ∀t,(begF t v.evs).1=sumT C.nt g.m3
 one:oneF v.evs=some (curW g.iw)
 iwl: ∀u,g.iw=some u->u<C.nt
 fine: ∀x∈v.evs,fineQ x
section
variable {C:SqC} {v:Vw} {g:SG} {t:Nat}
theorem sgA_other {N:Nat} {L:SL} {m:Nat} {r:Nat->Int} {b:List Ent} {k:Sg} {o:Nat} (h:sgA N L m t r b k o) {odd:Bool} {fl V:Nat} {s:Int} (hh:L.hd=false) (hs:L.s<=s):sgA N {L with odd:=odd,fl:=fl,V:=V,s:=s} m t r b k o:=by
 have f: ∀{c m3},SFree L c m3 b->SFree {L with odd:=odd,fl:=fl,V:=V,s:=s} c m3 b:=fun q=>⟨q.b.elim (fun z=> .inl z) (fun z=>absurd (z.1.symm.trans hh) (by decide)),q.inn,q.m3,q.c⟩
 have d: ∀{cur},SRd N L b m cur->SRd N {L with odd:=odd,fl:=fl,V:=V,s:=s} b m cur:=fun q=>⟨q.hd,q.inn,q.b,q.c,q.m3,q.vs,q.O,q.srt,q.beg,fun j hj=>Int.le_trans (q.le j hj) hs⟩
 have i:SIn L m->SIn {L with odd:=odd,fl:=fl,V:=V,s:=s} m:=fun q=>⟨q.bg,Int.le_trans q.e hs⟩
 have g:SGot L m r->SGot {L with odd:=odd,fl:=fl,V:=V,s:=s} m r:=fun q=>⟨q.bg,Int.le_trans q.le hs,q.e,q.vs⟩
 have w: ∀{v},SVal N L m r v->SVal N {L with odd:=odd,fl:=fl,V:=V,s:=s} m r v:=fun q=>⟨q.bg,q.r,q.e,q.vs,Int.le_trans q.le hs⟩
 have no1: ∀{c m3} {p:Prop},SHas L c m3 b->p:=fun q=>absurd (q.hd.symm.trans hh) (by decide)
 have no2: ∀{c k inn} {p:Prop},SOdd L c k b inn->p:=fun q=>absurd (q.hd.symm.trans hh) (by decide)
 unfold sgA at h⊢
 split at h
 all_goals first
  |exact h.elim
  |exact f h
  |exact no1 h
  |exact no2 h
  |exact ⟨f h.1,h.2⟩
  |exact no1 h.1
  |exact no2 h.1
  |exact h.elim (fun q=> .inl ⟨f q.1,q.2⟩) (fun q=>no1 q.1)
  |exact ⟨d h.1,h.2⟩
  |exact ⟨d h.1,i h.2⟩
  |exact ⟨d h.1,g h.2⟩
  |exact ⟨d h.1,g h.2.1,h.2.2⟩
  |exact ⟨d h.1,g h.2.1,h.2.2.1,fun j hj q=>h.2.2.2 j hj (by have q1:=h.2.1.le;have q2:s=r 4:=q;omega)⟩
  |(obtain ⟨x,q1,q2⟩:=h;exact ⟨x,d q1,w q2⟩)
  |exact ⟨h.1,d h.2.1,w h.2.2⟩
theorem SqLoc.other {N rd:Nat} {kd:Nat->Sg} {rn:Nat->Nat} {sn:Nat} {bs:Nat->Nat} {isW:Bool} {L:SL} {th:Th} {b:List Ent} (h:SqLoc N rd kd rn sn bs isW L t th b) {odd:Bool} {fl V:Nat} {s:Int} (hh:L.hd=false) (hs:L.s<=s):SqLoc N rd kd rn sn bs isW {L with odd:=odd,fl:=fl,V:=V,s:=s} t th b:=by
 obtain ⟨n,o,hp,h|h⟩:=h
 ·exact ⟨n,o,hp,.inl ⟨h.1,h.2.1,h.2.2.1,sgA_other h.2.2.2 hh hs⟩⟩
 ·refine ⟨n,o,hp,.inr ⟨h.1,h.2.1,h.2.2.1,?_⟩⟩
  have q:=h.2.2.2
  cases isW with
  |true=>
   rw [if_pos rfl]at q⊢
   exact ⟨q.b.elim (fun z=> .inl z) (fun z=>absurd (z.1.symm.trans hh) (by decide)),q.inn,q.m3,q.c⟩
  |false=>
   rw [if_neg (by decide)]at q⊢
   exact ⟨⟨q.1.hd,q.1.inn,q.1.b,q.1.c,q.1.m3,q.1.vs,q.1.O,q.1.srt,q.1.beg,fun j hj=>Int.le_trans (q.1.le j hj) hs⟩,q.2⟩
theorem SqI.turn (H:SqI C v g) (ht:t<C.nt) {th:Th} {b:List Ent} {mem:Nat->Int} {l:List Evt} {g':SG}
 (hh: ∀u,u<C.nt->u≠t->(g.h≠some u/\g'.h≠some u)∨(g.h=some u/\g'.h=some u/\g'.odd=g.odd/\g'.fl=g.fl/\g'.V=g.V/\mem 16=v.mem 16)) (hs:v.mem 16<=mem 16)
 (hiw: ∀u,u≠t->(g'.iw=some u↔g.iw=some u)) (hc: ∀u,u≠t->g'.c u=g.c u) (hm3: ∀u,u≠t->g'.m3 u=g.m3 u) (hvs: ∀u,u≠t->g'.vs u=g.vs u)
 (hbg: ∀u,u≠t->(begF u (v.evs++l)).2=(begF u v.evs).2) (ho: ∀u,u≠t->outE u (v.evs++l)=outE u v.evs)
 (m17:mem 17=ownQ g'.h) (hlt: ∀u,g'.h=some u->u<C.nt) (m16:mem 16=2*(g'.V:Int)+(b2n g'.odd:Int)) (data: ∀i,i<C.N->mem (18+i)=(g'.V:Int)+(if i<g'.fl then 1 else 0))
 (ev:g'.odd=false->g'.fl=0) (od:g'.odd=true->g'.h≠none) (V:g'.V=sumT C.nt g'.c) (e3: ∀t,(begF t (v.evs++l)).1=sumT C.nt g'.m3) (one:oneF (v.evs++l)=some (curW g'.iw)) (iwl: ∀u,g'.iw=some u->u<C.nt) (fine: ∀x∈l,fineQ x)
 (hloc:SqLoc C.N C.rd (C.kd t) (C.rn t) (C.sn t) (C.bs t) (C.isW t) ⟨decide (g'.h=some t),g'.odd,g'.fl,g'.V,decide (g'.iw=some t),g'.c t,g'.m3 t,g'.vs t,(begF t (v.evs++l)).2,outE t (v.evs++l),mem 16⟩ t th b):SqI C (v.mv t th b mem l) g':=by
 refine ⟨H.ok,m17,hlt,m16,data,ev,od,fun u hu=>?_,V,e3,one,iwl,fun x hx=>(List.mem_append.1 hx).elim (H.fine x) (fine x)⟩
 by_cases c:u=t
 ·subst c
  show SqLoc C.N C.rd (C.kd u) (C.rn u) (C.sn u) (C.bs u) (C.isW u) _ u (upd v.th u th u) (upd v.bf u b u)
  rw [upd_same,upd_same];exact hloc
 ·show SqLoc C.N C.rd (C.kd u) (C.rn u) (C.sn u) (C.bs u) (C.isW u) _ u (upd v.th t th u) (upd v.bf t b u)
  rw [upd_ne _ _ _ c,upd_ne _ _ _ c]
  have e:g'.at_ (v.mv t th b mem l) u=⟨decide (g'.h=some u),g'.odd,g'.fl,g'.V,decide (g.iw=some u),g.c u,g.m3 u,g.vs u,(begF u v.evs).2,outE u v.evs,mem 16⟩:=by
   unfold SG.at_ Vw.mv
   dsimp only
   rw [hc u c,hm3 u c,hvs u c,hbg u c,ho u c]
   congr 1
   exact decide_eq_decide.2 (hiw u c)
  rw [e]
  rcases hh u hu c with ⟨h1,h2⟩|⟨h1,h2,h3,h4,h5,h6⟩
  ·have :=(H.loc u hu).other (odd:=g'.odd) (fl:=g'.fl) (V:=g'.V) (s:=mem 16) (decide_eq_false h1) hs
   unfold SG.at_ at this
   dsimp only at this
   rw [decide_eq_false h1]at this
   rw [decide_eq_false h2]
   exact this
  ·have :=H.loc u hu
   unfold SG.at_ at this
   rw [decide_eq_true h1]at this
   rw [decide_eq_true h2,h3,h4,h5,h6]
   exact this
theorem SqI.quiet (H:SqI C v g) (ht:t<C.nt) {th:Th} {b:List Ent} {l:List Evt} (hl: ∀x∈l,nuQ x) (hloc:SqLoc C.N C.rd (C.kd t) (C.rn t) (C.sn t) (C.bs t) (C.isW t) (g.at_ v t) t th b):SqI C (v.mv t th b v.mem l) g:=by
 have ho: ∀u,outE u (v.evs++l)=outE u v.evs:=fun u=>outE_quiet (fun x hx=> .inl (hl x hx).2)
 have hb: ∀u,begF u (v.evs++l)=begF u v.evs:=fun u=>begF_quiet (fun x hx=>(hl x hx).1)
 refine H.turn ht (fun u hu hne=>?_) (Int.le_refl _) (fun _ _=>Iff.rfl) (fun _ _=>rfl) (fun _ _=>rfl) (fun _ _=>rfl) (fun u _=>by rw [hb]) (fun u _=>ho u) H.m17 H.hlt H.m16 H.data H.ev H.od H.V (fun u=>by rw [hb];exact H.e3 u) ((oneF_quiet (fun x hx=>(hl x hx).1)).trans H.one) H.iwl (fun x hx q=>absurd q (hl x hx).1) (by rw [hb,ho];exact hloc)
 by_cases c:g.h=some u
 ·exact .inr ⟨c,c,rfl,rfl,rfl,rfl⟩
 ·exact .inl ⟨c,c⟩
theorem SqI.note (H:SqI C v g) (ht:t<C.nt) {th:Th} {b:List Ent} (x:Evt) (h7:x.kind=7) (hk:x.k≠1/\x.k≠2/\x.k≠3/\x.k≠4) (hf:x.k % 2=1->x.value=0) (hloc:SqLoc C.N C.rd (C.kd t) (C.rn t) (C.sn t) (C.bs t) (C.isW t) (g.at_ v t) t th b):SqI C (v.mv t th b v.mem [x]) g:=by
 have ho: ∀u,outE u (v.evs++[x])=outE u v.evs:=fun u=>outE_quiet (fun y hy=> .inl (by rw [List.mem_singleton.1 hy,h7];decide))
 have hb: ∀u,begF u (v.evs++[x])=begF u v.evs:=fun u=>by rw [begF_snoc];unfold begQ;rw [if_neg (fun q=>hk.2.2.1 q.2),if_neg (fun q=>hk.2.2.2 q.2.1)]
 refine H.turn ht (fun u hu hne=>?_) (Int.le_refl _) (fun _ _=>Iff.rfl) (fun _ _=>rfl) (fun _ _=>rfl) (fun _ _=>rfl) (fun u _=>by rw [hb]) (fun u _=>ho u) H.m17 H.hlt H.m16 H.data H.ev H.od H.V (fun u=>by rw [hb];exact H.e3 u) ?_ H.iwl (fun y hy _=>by rw [List.mem_singleton.1 hy];exact hf) (by rw [hb,ho];exact hloc)
 ·by_cases c:g.h=some u
  ·exact .inr ⟨c,c,rfl,rfl,rfl,rfl⟩
  ·exact .inl ⟨c,c⟩
 ·rw [oneF_snoc,H.one]
  unfold oneQ
  dsimp only
  rw [if_neg (fun q=>q h7),if_neg (fun q=>hk.1 q.1),if_neg hk.2.1]
theorem SqI.slp (H:SqI C v g) (l:List Slp):SqI C {v with slp:=l} g:=⟨H.ok,H.m17,H.hlt,H.m16,H.data,H.ev,H.od,H.loc,H.V,H.e3,H.one,H.iwl,H.fine⟩
theorem SqLoc.sum {N rd:Nat} {kd:Nat->Sg} {rn:Nat->Nat} {sn:Nat} {bs:Nat->Nat} {isW:Bool} {L:SL} {th:Th} {b:List Ent} (h:SqLoc N rd kd rn sn bs isW L t th b) (hr: ∀n,n<sn->rn n<rd):(L.inn=true->L.hd=true)/\L.m3<=L.c/\L.c<=rd:=by
 have f1: ∀{c m3},SFree L c m3 b->m3<=c->c<=rd->(L.inn=true->L.hd=true)/\L.m3<=L.c/\L.c<=rd:=fun q h1 h2=>⟨fun z=>absurd (z.symm.trans q.inn) (by decide),by rw [q.c,q.m3];exact h1,by rw [q.c];exact h2⟩
 have f2: ∀{c m3},SHas L c m3 b->m3<=c->c<=rd->(L.inn=true->L.hd=true)/\L.m3<=L.c/\L.c<=rd:=fun q h1 h2=>⟨fun z=>absurd (z.symm.trans q.inn) (by decide),by rw [q.c,q.m3];exact h1,by rw [q.c];exact h2⟩
 have f3: ∀{c k i},SOdd L c k b i->c<=rd->(L.inn=true->L.hd=true)/\L.m3<=L.c/\L.c<=rd:=fun q h2=>⟨fun _=>q.hd,by rw [q.c,q.m3];exact Nat.le_refl _,by rw [q.c];exact h2⟩
 have f4: ∀{m cur},SRd N L b m cur->(L.inn=true->L.hd=true)/\L.m3<=L.c/\L.c<=rd:=fun q=>⟨fun z=>absurd (z.symm.trans q.inn) (by decide),by rw [q.c,q.m3];exact Nat.le_refl _,by rw [q.c];exact Nat.zero_le _⟩
 obtain ⟨n,o,hp,h|h⟩:=h
 ·have h0:=hr n h.1
  have h1:rn n<=rd:=Nat.le_of_lt h0
  have hA:=h.2.2.2
  unfold sgA at hA
  split at hA
  all_goals first
   |exact hA.elim
   |exact f1 hA (Nat.le_refl _) h1
   |exact f1 hA.1 (Nat.le_refl _) h1
   |exact f1 hA (Nat.le_succ _) h0
   |exact f1 hA.1 (Nat.le_succ _) h0
   |exact f2 hA (Nat.le_refl _) h1
   |exact f2 hA.1 (Nat.le_refl _) h1
   |exact f2 hA (Nat.le_succ _) h0
   |exact f2 hA.1 (Nat.le_succ _) h0
   |exact f3 hA h1
   |exact f3 hA.1 h1
   |exact f4 hA.1
   |exact hA.elim (fun q=>f1 q.1 (Nat.le_refl _) h1) (fun q=>f2 q.1 (Nat.le_refl _) h1)
   |exact hA.elim (fun v q=>f4 q.1)
 ·have q:=h.2.2.2
  cases isW with
  |true=>rw [if_pos rfl]at q;exact f1 q (Nat.le_refl _) (Nat.le_refl _)
  |false=>rw [if_neg (by decide)]at q;exact f4 q.1
theorem SqI.sums (H:SqI C v g) (ht:t<C.nt):(g.iw=some t->g.h=some t)/\g.m3 t<=g.c t/\g.c t<=3:=by
 have q:=(H.loc t ht).sum (H.ok.k t ht).rnl
 exact ⟨fun z=>of_decide_eq_true (q.1 (decide_eq_true z)),q.2.1,Nat.le_trans q.2.2 H.ok.rd⟩
theorem sumT_le2 {W:Nat} {f g:Nat->Nat} (h: ∀t,t<W->f t<=g t):sumT W f<=sumT W g:=by
 induction W with
 |zero=>exact Nat.le_refl _
 |succ W ih=>
  have h1:=ih (fun t ht=>h t (by omega))
  have h2:=h W (by omega)
  rw [sumT_succ,sumT_succ];omega
theorem SqI.small (H:SqI C v g):g.V<=24/\sumT C.nt g.m3<=g.V:=by
 have h1:=sumT_le (W:=C.nt) (f:=g.c) (k:=3) (fun t ht=>(H.sums ht).2.2)
 have h2:=sumT_le2 (W:=C.nt) (f:=g.m3) (g:=g.c) (fun t ht=>(H.sums ht).2.1)
 have :=H.ok.n8
 have :=H.V
 exact ⟨by omega,by omega⟩
theorem b2n_le (b:Bool):b2n b<=1:=by cases b<;>decide
theorem SqI.s49 (H:SqI C v g):0<=v.mem 16/\v.mem 16<=49:=by
 have h1:=H.small.1
 have h2:=b2n_le g.odd
 have :=H.m16
 omega
theorem ownQ_ne {h:Option Nat} (q:h≠some t):ownQ h≠(t:Int)+1:=by
 cases h with
 |none=>show (0:Int)≠_;omega
 |some u=>show (u:Int)+1≠_;intro e;exact q (by congr 1;omega)
theorem SqI.own (H:SqI C v g) {c m3:Nat} (h:SFree (g.at_ v t) c m3 (v.bf t)):seeV (v.bf t) v.mem 17≠(t:Int)+1:=by
 rcases h.b with ⟨h1,h2⟩|⟨h1,h2,h3⟩
 ·rw [h2,seeV_nil,H.m17]
  exact ownQ_ne (of_decide_eq_false h1)
 ·rw [h2]
  show (0:Int)≠_
  omega
theorem seeV_data {x:Int} {a n y:Nat} {m:Nat->Int} (hy:y<18):seeV (dataQ x a n) m y=m y:=by
 unfold seeV
 have h:=dataQ_miss x a n y hy
 rw [show fnB (dataQ x a n) (y:Int)=((fnB (dataQ x a n) (y:Int)).1,(fnB (dataQ x a n) (y:Int)).2) from rfl,h]
 rfl
theorem SqI.mine (H:SqI C v g) {c k:Nat} {i:Bool} (h:SOdd (g.at_ v t) c k (v.bf t) i):seeV (v.bf t) v.mem 17=(t:Int)+1:=by
 have e:g.h=some t:=of_decide_eq_true h.hd
 rw [h.b,seeV_data (by decide),H.m17,e];rfl
theorem SqI.first (H:SqI C v g) {c:Nat} {i:Bool} (h:SOdd (g.at_ v t) c 0 (v.bf t) i):seeV (v.bf t) v.mem 18=(g.V:Int):=by
 have hf:g.fl<=0:=h.fl
 have e:v.bf t=[]:=by rw [h.b,Nat.zero_sub];rfl
 have :=H.data 0 H.ok.N1
 rw [if_neg (by omega)]at this
 rw [e,seeV_nil]
 exact this.trans (Int.add_zero _)
theorem SGot.to {L:SL} {m:Nat} {r r':Nat->Int} (h:SGot L m r) (e:r' 4=r 4):SGot L m r':=⟨h.bg,by rw [e];exact h.le,by rw [e];exact h.e,fun j hj=>by rw [e];exact h.vs j hj⟩
theorem SGot.in_ {L:SL} {m:Nat} {r:Nat->Int} (h:SGot L m r):SIn L m:=⟨h.bg,Int.le_trans h.e h.le⟩
theorem swh_0 (H:SqI C v g) (ht:t<C.nt) {n:Nat} {r:Nat->Int} (hn:n<C.sn t) (hk:C.kd t n= .wh) (hA:sgA C.N (g.at_ v t) (C.rn t n) t r (v.bf t) (.wh) 0): ∃g',SqI C (execV t v (C.bs t n+0) r (.mark 0)) g':=by
 exact ⟨g,H.note ht _ rfl ⟨(by show ((0:Nat):Int)≠1;decide),(by show ((0:Nat):Int)≠2;decide),(by show ((0:Nat):Int)≠3;decide),(by show ((0:Nat):Int)≠4;decide)⟩ (fun q=>absurd q (by show¬((0:Nat):Int)% 2=1;decide)) ⟨n,1,rfl,.inl ⟨hn,.inl rfl,by rw [hk];show 1<17;decide,by rw [hk];dsimp only [sgA];exact hA⟩⟩⟩
theorem swh_1 (H:SqI C v g) (ht:t<C.nt) {n:Nat} {r:Nat->Int} (hn:n<C.sn t) (hk:C.kd t n= .wh) (hA:sgA C.N (g.at_ v t) (C.rn t n) t r (v.bf t) (.wh) 1): ∃g',SqI C (execV t v (C.bs t n+1) r (.load 4 17)) g':=by
 exact ⟨g,H.quiet ht (fun x hx=>by rw [List.mem_singleton.1 hx];exact ⟨(by decide:(1:Int)≠7),(by decide:(1:Int)≠6)⟩) ⟨n,2,rfl,.inl ⟨hn,.inl rfl,by rw [hk];show 2<17;decide,by rw [hk];dsimp only [sgA];exact ⟨hA,by rw [updR_at];exact H.own hA⟩⟩⟩⟩
theorem swh_2 (H:SqI C v g) (ht:t<C.nt) {n:Nat} {r:Nat->Int} (hn:n<C.sn t) (hk:C.kd t n= .wh) (hA:sgA C.N (g.at_ v t) (C.rn t n) t r (v.bf t) (.wh) 2): ∃g',SqI C (execV t v (C.bs t n+2) r (.set 5 ((t:Int)+1))) g':=by
 exact ⟨g,H.quiet ht (fun x hx=>by cases hx) ⟨n,3,rfl,.inl ⟨hn,.inl rfl,by rw [hk];show 3<17;decide,by rw [hk];dsimp only [sgA];exact ⟨hA.1,by rw [updR_ot _ _ _ _ (by decide)];exact hA.2,updR_at _ _ _⟩⟩⟩⟩
theorem swh_3 (H:SqI C v g) (ht:t<C.nt) {n:Nat} {r:Nat->Int} (hn:n<C.sn t) (hk:C.kd t n= .wh) (hA:sgA C.N (g.at_ v t) (C.rn t n) t r (v.bf t) (.wh) 3): ∃g',SqI C (execV t v (C.bs t n+3) r (.same 6 4 5)) g':=by
 exact ⟨g,H.quiet ht (fun x hx=>by cases hx) ⟨n,4,rfl,.inl ⟨hn,.inl rfl,by rw [hk];show 4<17;decide,by rw [hk];dsimp only [sgA];exact ⟨hA.1,by rw [updR_at,hA.2.2,if_neg hA.2.1],by rw [updR_ot _ _ _ _ (by decide)];exact hA.2.2⟩⟩⟩⟩
theorem swh_4 (H:SqI C v g) (ht:t<C.nt) {n:Nat} {r:Nat->Int} (hn:n<C.sn t) (hk:C.kd t n= .wh) (hA:sgA C.N (g.at_ v t) (C.rn t n) t r (v.bf t) (.wh) 4): ∃g',SqI C (execV t v (C.bs t n+4) r (.zero 6 (C.bs t n+7))) g':=by
 dsimp only [execV]
 by_cases hz:r 6=0
 ·rw [if_pos hz]
  exact ⟨g,H.quiet ht (fun x hx=>by cases hx) ⟨n,7,rfl,.inl ⟨hn,.inl rfl,by rw [hk];show 7<17;decide,by rw [hk];dsimp only [sgA];exact ⟨hA.1,hA.2.2⟩⟩⟩⟩
 ·rw [if_neg hz]
  exact absurd hA.2.1 hz
theorem swh_7 (H:SqI C v g) (ht:t<C.nt) {n:Nat} {r:Nat->Int} (hn:n<C.sn t) (hk:C.kd t n= .wh) (hA:sgA C.N (g.at_ v t) (C.rn t n) t r (v.bf t) (.wh) 7): ∃g',SqI C (execV t v (C.bs t n+7) r (.set 4 0)) g':=by
 exact ⟨g,H.quiet ht (fun x hx=>by cases hx) ⟨n,8,rfl,.inl ⟨hn,.inl rfl,by rw [hk];show 8<17;decide,by rw [hk];dsimp only [sgA];exact ⟨hA.1,by rw [updR_ot _ _ _ _ (by decide)];exact hA.2,updR_at _ _ _⟩⟩⟩⟩
theorem swh_9 (H:SqI C v g) (ht:t<C.nt) {n:Nat} {r:Nat->Int} (hn:n<C.sn t) (hk:C.kd t n= .wh) (hA:sgA C.N (g.at_ v t) (C.rn t n) t r (v.bf t) (.wh) 9): ∃g',SqI C (execV t v (C.bs t n+9) r (.some 4 (C.bs t n+7))) g':=by
 dsimp only [execV]
 by_cases hz:r 4=0
 ·rw [if_pos hz]
  exact ⟨g,H.quiet ht (fun x hx=>by cases hx) ⟨n,10,rfl,.inl ⟨hn,.inl rfl,by rw [hk];show 10<17;decide,by rw [hk];dsimp only [sgA];exact (hA.elim (fun q=>absurd hz q.2.1) (fun q=>q.1))⟩⟩⟩
 ·rw [if_neg hz]
  exact ⟨g,H.quiet ht (fun x hx=>by cases hx) ⟨n,7,rfl,.inl ⟨hn,.inl rfl,by rw [hk];show 7<17;decide,by rw [hk];dsimp only [sgA];exact (hA.elim (fun q=>⟨q.1,q.2.2⟩) (fun q=>absurd q.2 hz))⟩⟩⟩
theorem swh_10 (H:SqI C v g) (ht:t<C.nt) {n:Nat} {r:Nat->Int} (hn:n<C.sn t) (hk:C.kd t n= .wh) (hA:sgA C.N (g.at_ v t) (C.rn t n) t r (v.bf t) (.wh) 10): ∃g',SqI C (execV t v (C.bs t n+10) r (.set 4 1)) g':=by
 exact ⟨g,H.quiet ht (fun x hx=>by cases hx) ⟨n,11,rfl,.inl ⟨hn,.inl rfl,by rw [hk];show 11<17;decide,by rw [hk];dsimp only [sgA];exact ⟨hA,updR_at _ _ _⟩⟩⟩⟩
theorem swh_12 (H:SqI C v g) (ht:t<C.nt) {n:Nat} {r:Nat->Int} (hn:n<C.sn t) (hk:C.kd t n= .wh) (hA:sgA C.N (g.at_ v t) (C.rn t n) t r (v.bf t) (.wh) 12): ∃g',SqI C (execV t v (C.bs t n+12) r (.set 7 0)) g':=by
 exact ⟨g,H.quiet ht (fun x hx=>by cases hx) ⟨n,13,rfl,.inl ⟨hn,.inl rfl,by rw [hk];show 13<17;decide,by rw [hk];dsimp only [sgA];exact ⟨hA,updR_at _ _ _⟩⟩⟩⟩
theorem swh_14 (H:SqI C v g) (ht:t<C.nt) {n:Nat} {r:Nat->Int} (hn:n<C.sn t) (hk:C.kd t n= .wh) (hA:sgA C.N (g.at_ v t) (C.rn t n) t r (v.bf t) (.wh) 14): ∃g',SqI C (execV t v (C.bs t n+14) r (.load 0 18)) g':=by
 exact ⟨g,H.quiet ht (fun x hx=>by rw [List.mem_singleton.1 hx];exact ⟨(by decide:(1:Int)≠7),(by decide:(1:Int)≠6)⟩) ⟨n,15,rfl,.inl ⟨hn,.inl rfl,by rw [hk];show 15<17;decide,by rw [hk];dsimp only [sgA];exact ⟨hA,by rw [updR_at];exact H.first hA⟩⟩⟩⟩
theorem swh_15 (H:SqI C v g) (ht:t<C.nt) {n:Nat} {r:Nat->Int} (hn:n<C.sn t) (hk:C.kd t n= .wh) (hA:sgA C.N (g.at_ v t) (C.rn t n) t r (v.bf t) (.wh) 15): ∃g',SqI C (execV t v (C.bs t n+15) r (.set 1 1)) g':=by
 exact ⟨g,H.quiet ht (fun x hx=>by cases hx) ⟨n,16,rfl,.inl ⟨hn,.inl rfl,by rw [hk];show 16<17;decide,by rw [hk];dsimp only [sgA];exact ⟨hA.1,by rw [updR_ot _ _ _ _ (by decide)];exact hA.2,updR_at _ _ _⟩⟩⟩⟩
theorem swp_0 (H:SqI C v g) (ht:t<C.nt) {n:Nat} {i:Nat} {r:Nat->Int} (hn:n<C.sn t) (hk:C.kd t n= .wp i) (hA:sgA C.N (g.at_ v t) (C.rn t n) t r (v.bf t) (.wp i) 0): ∃g',SqI C (execV t v (C.bs t n+0) r (.mark 6)) g':=by
 exact ⟨g,H.note ht _ rfl ⟨(by show ((6:Nat):Int)≠1;decide),(by show ((6:Nat):Int)≠2;decide),(by show ((6:Nat):Int)≠3;decide),(by show ((6:Nat):Int)≠4;decide)⟩ (fun q=>absurd q (by show¬((6:Nat):Int)% 2=1;decide)) ⟨n,1,rfl,.inl ⟨hn,.inl rfl,by rw [hk];show 1<10;decide,by rw [hk];dsimp only [sgA];exact hA⟩⟩⟩
theorem swp_1 (H:SqI C v g) (ht:t<C.nt) {n:Nat} {i:Nat} {r:Nat->Int} (hn:n<C.sn t) (hk:C.kd t n= .wp i) (hA:sgA C.N (g.at_ v t) (C.rn t n) t r (v.bf t) (.wp i) 1): ∃g',SqI C (execV t v (C.bs t n+1) r (.load 4 17)) g':=by
 exact ⟨g,H.quiet ht (fun x hx=>by rw [List.mem_singleton.1 hx];exact ⟨(by decide:(1:Int)≠7),(by decide:(1:Int)≠6)⟩) ⟨n,2,rfl,.inl ⟨hn,.inl rfl,by rw [hk];show 2<10;decide,by rw [hk];dsimp only [sgA];exact ⟨hA.1,by rw [updR_ot _ _ _ _ (by decide)];exact hA.2,by rw [updR_at];exact H.mine hA.1⟩⟩⟩⟩
theorem swp_2 (H:SqI C v g) (ht:t<C.nt) {n:Nat} {i:Nat} {r:Nat->Int} (hn:n<C.sn t) (hk:C.kd t n= .wp i) (hA:sgA C.N (g.at_ v t) (C.rn t n) t r (v.bf t) (.wp i) 2): ∃g',SqI C (execV t v (C.bs t n+2) r (.set 5 ((t:Int)+1))) g':=by
 exact ⟨g,H.quiet ht (fun x hx=>by cases hx) ⟨n,3,rfl,.inl ⟨hn,.inl rfl,by rw [hk];show 3<10;decide,by rw [hk];dsimp only [sgA];exact ⟨hA.1,by rw [updR_ot _ _ _ _ (by decide)];exact hA.2.1,by rw [updR_ot _ _ _ _ (by decide)];exact hA.2.2,updR_at _ _ _⟩⟩⟩⟩
theorem swp_3 (H:SqI C v g) (ht:t<C.nt) {n:Nat} {i:Nat} {r:Nat->Int} (hn:n<C.sn t) (hk:C.kd t n= .wp i) (hA:sgA C.N (g.at_ v t) (C.rn t n) t r (v.bf t) (.wp i) 3): ∃g',SqI C (execV t v (C.bs t n+3) r (.same 6 4 5)) g':=by
 exact ⟨g,H.quiet ht (fun x hx=>by cases hx) ⟨n,4,rfl,.inl ⟨hn,.inl rfl,by rw [hk];show 4<10;decide,by rw [hk];dsimp only [sgA];exact ⟨hA.1,by rw [updR_ot _ _ _ _ (by decide)];exact hA.2.1,by rw [updR_at,hA.2.2.1,hA.2.2.2,if_pos rfl]⟩⟩⟩⟩
theorem swp_4 (H:SqI C v g) (ht:t<C.nt) {n:Nat} {i:Nat} {r:Nat->Int} (hn:n<C.sn t) (hk:C.kd t n= .wp i) (hA:sgA C.N (g.at_ v t) (C.rn t n) t r (v.bf t) (.wp i) 4): ∃g',SqI C (execV t v (C.bs t n+4) r (.some 6 (C.bs t n+7))) g':=by
 dsimp only [execV]
 by_cases hz:r 6=0
 ·rw [if_pos hz]
  exact absurd (hz.symm.trans hA.2.2) (by decide)
 ·rw [if_neg hz]
  exact ⟨g,H.quiet ht (fun x hx=>by cases hx) ⟨n,7,rfl,.inl ⟨hn,.inl rfl,by rw [hk];show 7<10;decide,by rw [hk];dsimp only [sgA];exact ⟨hA.1,hA.2.1⟩⟩⟩⟩
theorem swp_8 (H:SqI C v g) (ht:t<C.nt) {n:Nat} {i:Nat} {r:Nat->Int} (hn:n<C.sn t) (hk:C.kd t n= .wp i) (hA:sgA C.N (g.at_ v t) (C.rn t n) t r (v.bf t) (.wp i) 8): ∃g',SqI C (execV t v (C.bs t n+8) r (.set 7 0)) g':=by
 exact ⟨g,H.quiet ht (fun x hx=>by cases hx) ⟨n,9,rfl,.inl ⟨hn,.inl rfl,by rw [hk];show 9<10;decide,by rw [hk];dsimp only [sgA];exact ⟨hA.1,by rw [updR_ot _ _ _ _ (by decide)];exact hA.2,updR_at _ _ _⟩⟩⟩⟩
theorem swt_1 (H:SqI C v g) (ht:t<C.nt) {n:Nat} {r:Nat->Int} (hn:n<C.sn t) (hk:C.kd t n= .wt) (hA:sgA C.N (g.at_ v t) (C.rn t n) t r (v.bf t) (.wt) 1): ∃g',SqI C (execV t v (C.bs t n+1) r (.load 4 17)) g':=by
 exact ⟨g,H.quiet ht (fun x hx=>by rw [List.mem_singleton.1 hx];exact ⟨(by decide:(1:Int)≠7),(by decide:(1:Int)≠6)⟩) ⟨n,2,rfl,.inl ⟨hn,.inl rfl,by rw [hk];show 2<13;decide,by rw [hk];dsimp only [sgA];exact ⟨hA,by rw [updR_at];exact H.mine hA⟩⟩⟩⟩
theorem swt_2 (H:SqI C v g) (ht:t<C.nt) {n:Nat} {r:Nat->Int} (hn:n<C.sn t) (hk:C.kd t n= .wt) (hA:sgA C.N (g.at_ v t) (C.rn t n) t r (v.bf t) (.wt) 2): ∃g',SqI C (execV t v (C.bs t n+2) r (.set 5 ((t:Int)+1))) g':=by
 exact ⟨g,H.quiet ht (fun x hx=>by cases hx) ⟨n,3,rfl,.inl ⟨hn,.inl rfl,by rw [hk];show 3<13;decide,by rw [hk];dsimp only [sgA];exact ⟨hA.1,by rw [updR_ot _ _ _ _ (by decide)];exact hA.2,updR_at _ _ _⟩⟩⟩⟩
theorem swt_3 (H:SqI C v g) (ht:t<C.nt) {n:Nat} {r:Nat->Int} (hn:n<C.sn t) (hk:C.kd t n= .wt) (hA:sgA C.N (g.at_ v t) (C.rn t n) t r (v.bf t) (.wt) 3): ∃g',SqI C (execV t v (C.bs t n+3) r (.same 6 4 5)) g':=by
 exact ⟨g,H.quiet ht (fun x hx=>by cases hx) ⟨n,4,rfl,.inl ⟨hn,.inl rfl,by rw [hk];show 4<13;decide,by rw [hk];dsimp only [sgA];exact ⟨hA.1,by rw [updR_at,hA.2.1,hA.2.2,if_pos rfl]⟩⟩⟩⟩
theorem swt_4 (H:SqI C v g) (ht:t<C.nt) {n:Nat} {r:Nat->Int} (hn:n<C.sn t) (hk:C.kd t n= .wt) (hA:sgA C.N (g.at_ v t) (C.rn t n) t r (v.bf t) (.wt) 4): ∃g',SqI C (execV t v (C.bs t n+4) r (.some 6 (C.bs t n+7))) g':=by
 dsimp only [execV]
 by_cases hz:r 6=0
 ·rw [if_pos hz]
  exact absurd (hz.symm.trans hA.2) (by decide)
 ·rw [if_neg hz]
  exact ⟨g,H.quiet ht (fun x hx=>by cases hx) ⟨n,7,rfl,.inl ⟨hn,.inl rfl,by rw [hk];show 7<13;decide,by rw [hk];dsimp only [sgA];exact hA.1⟩⟩⟩
theorem swt_7 (H:SqI C v g) (ht:t<C.nt) {n:Nat} {r:Nat->Int} (hn:n<C.sn t) (hk:C.kd t n= .wt) (hA:sgA C.N (g.at_ v t) (C.rn t n) t r (v.bf t) (.wt) 7): ∃g',SqI C (execV t v (C.bs t n+7) r (.set 4 1)) g':=by
 exact ⟨g,H.quiet ht (fun x hx=>by cases hx) ⟨n,8,rfl,.inl ⟨hn,.inl rfl,by rw [hk];show 8<13;decide,by rw [hk];dsimp only [sgA];exact ⟨hA,updR_at _ _ _⟩⟩⟩⟩
theorem swt_9 (H:SqI C v g) (ht:t<C.nt) {n:Nat} {r:Nat->Int} (hn:n<C.sn t) (hk:C.kd t n= .wt) (hA:sgA C.N (g.at_ v t) (C.rn t n) t r (v.bf t) (.wt) 9): ∃g',SqI C (execV t v (C.bs t n+9) r (.set 4 0)) g':=by
 exact ⟨g,H.quiet ht (fun x hx=>by cases hx) ⟨n,10,rfl,.inl ⟨hn,.inl rfl,by rw [hk];show 10<13;decide,by rw [hk];dsimp only [sgA];exact ⟨hA,updR_at _ _ _⟩⟩⟩⟩
theorem swt_10 (H:SqI C v g) (ht:t<C.nt) {n:Nat} {r:Nat->Int} (hn:n<C.sn t) (hk:C.kd t n= .wt) (hA:sgA C.N (g.at_ v t) (C.rn t n) t r (v.bf t) (.wt) 10): ∃g',SqI C (execV t v (C.bs t n+10) r (.store 4 17)) g':=by
 exact ⟨g,H.quiet ht (fun x hx=>by rw [List.mem_singleton.1 hx];exact ⟨(by decide:(2:Int)≠7),(by decide:(2:Int)≠6)⟩) ⟨n,11,rfl,.inl ⟨hn,.inl rfl,by rw [hk];show 11<13;decide,by rw [hk];dsimp only [sgA];exact ⟨.inr ⟨hA.1.hd,by rw [hA.1.b,hA.2];rfl,hA.1.odd⟩,hA.1.inn,hA.1.m3,hA.1.c⟩⟩⟩⟩
theorem swt_11 (H:SqI C v g) (ht:t<C.nt) {n:Nat} {r:Nat->Int} (hn:n<C.sn t) (hk:C.kd t n= .wt) (hA:sgA C.N (g.at_ v t) (C.rn t n) t r (v.bf t) (.wt) 11): ∃g',SqI C (execV t v (C.bs t n+11) r (.set 7 0)) g':=by
 exact ⟨g,H.quiet ht (fun x hx=>by cases hx) ⟨n,12,rfl,.inl ⟨hn,.inl rfl,by rw [hk];show 12<13;decide,by rw [hk];dsimp only [sgA];exact ⟨hA,updR_at _ _ _⟩⟩⟩⟩
theorem srh_2 (H:SqI C v g) (ht:t<C.nt) {n:Nat} {r:Nat->Int} (hn:n<C.sn t) (hk:C.kd t n= .rh) (hA:sgA C.N (g.at_ v t) (C.rn t n) t r (v.bf t) (.rh) 2): ∃g',SqI C (execV t v (C.bs t n+2) r (.set 5 1)) g':=by
 exact ⟨g,H.quiet ht (fun x hx=>by cases hx) ⟨n,3,rfl,.inl ⟨hn,.inl rfl,by rw [hk];show 3<5;decide,by rw [hk];dsimp only [sgA];exact ⟨hA.1,hA.2.to (updR_ot _ _ _ _ (by decide)),updR_at _ _ _⟩⟩⟩⟩
theorem srt_3 (H:SqI C v g) (ht:t<C.nt) {n:Nat} {r:Nat->Int} (hn:n<C.sn t) (hk:C.kd t n= .rt) (hA:sgA C.N (g.at_ v t) (C.rn t n) t r (v.bf t) (.rt) 3): ∃g',SqI C (execV t v (C.bs t n+3) r (.set 7 0)) g':=by
 exact ⟨g,H.quiet ht (fun x hx=>by cases hx) ⟨n,4,rfl,.inl ⟨hn,.inl rfl,by rw [hk];show 4<5;decide,by rw [hk];dsimp only [sgA];exact ⟨hA.1,hA.2.1.to (updR_ot _ _ _ _ (by decide)),by rw [updR_ot _ _ _ _ (by decide)];exact hA.2.2.1,(fun j hj=>by have :=H.ok.N3;rw [updR_ot _ _ _ _ (by omega),updR_ot _ _ _ _ (by decide)];exact hA.2.2.2 j hj),updR_at _ _ _⟩⟩⟩⟩
theorem sgLen_pos (k:Sg):0<sgLen k:=by
 cases k
 all_goals first
  |exact (by decide:0<17)
  |exact (by decide:0<10)
  |exact (by decide:0<13)
  |exact (by decide:0<5)
  |exact (by decide:0<1)
theorem SqLoc.nxt {N rd:Nat} {kd:Nat->Sg} {rn:Nat->Nat} {sn:Nat} {bs:Nat->Nat} {isW:Bool} {L:SL} {th:Th} {b:List Ent} {n:Nat} (hpc:th.pc=((bs n+sgLen (kd n):Nat):Int)) (hx:bs (n+1)=bs n+sgLen (kd n)) (hn:n+1<sn) (hst:th.st=0) (hA:sgA N L (rn (n+1)) t th.regs b (kd (n+1)) 0):SqLoc N rd kd rn sn bs isW L t th b:=
 ⟨n+1,0,by rw [hpc,hx,Nat.add_zero],.inl ⟨hn,.inl hst,sgLen_pos _,hA⟩⟩
theorem SqLoc.fin {N rd:Nat} {kd:Nat->Sg} {rn:Nat->Nat} {sn:Nat} {bs:Nat->Nat} {isW:Bool} {L:SL} {th:Th} {b:List Ent} {n:Nat} (hpc:th.pc=((bs n+sgLen (kd n):Nat):Int)) (hx:bs (n+1)=bs n+sgLen (kd n)) (hn:n+1=sn) (hst:th.st=0) (hA:if isW=true then SFree L rd rd b else SRd N L b rd []/\L.bg.length=rd):SqLoc N rd kd rn sn bs isW L t th b:=
 ⟨n+1,0,by rw [hpc,hx,Nat.add_zero],.inr ⟨hn,rfl,.inl hst,hA⟩⟩
theorem nq {x:Evt} (h:x.kind≠7): ∀y∈[x],y.kind≠7:=fun y hy=>by rw [List.mem_singleton.1 hy];exact h
theorem dataQ_nil {x:Int} {a n:Nat} (h:dataQ x a n=[]):n=0:=by
 cases n with
 |zero=>rfl
 |succ n=>cases h
theorem SqI.hOf (H:SqI C v g) {L:SL} (e:L=g.at_ v t) (h:L.hd=true):g.h=some t:=by rw [e]at h;exact of_decide_eq_true h
theorem only (h:g.h=some t) {g':SG} (h':g'.h=some t∨g'.h=none) {P:Nat->Prop}: ∀u,u<C.nt->u≠t->(g.h≠some u/\g'.h≠some u)∨P u:=by
 intro u _ hne
 refine .inl ⟨by rw [h];simp [Ne.symm hne],?_⟩
 rcases h' with e|e<;>rw [e]<;>simp [Ne.symm hne]
theorem sumT_one {W:Nat} {f:Nat->Nat} (ht:t<W):sumT W (upd f t (f t+1))=sumT W f+1:=by
 have :=sumT_upd (W:=W) (t:=t) (f:=f) (g:=upd f t (f t+1)) ht (fun u _ hu=>upd_ne _ _ _ hu)
 rw [upd_same]at this
 omega
theorem bits_one {x:Int} (h0:0<=x) (h1:x<=49):bits .and .u32 x 1=x % 2:=by
 obtain ⟨n,rfl⟩:=Int.eq_ofNat_of_zero_le h0
 have : ∀n:Fin 50,bits .and .u32 ((n.val:Nat):Int) 1=((n.val:Nat):Int)% 2:=by decide+kernel
 exact this ⟨n,by omega⟩
theorem swh_8 (H:SqI C v g) (ht:t<C.nt) {n:Nat} {r:Nat->Int} (hn:n<C.sn t) (hk:C.kd t n= .wh) (hd:v.bf t=[]) (hA:sgA C.N (g.at_ v t) (C.rn t n) t r (v.bf t) (.wh) 8): ∃g',SqI C (execV t v (C.bs t n+8) r (.cas 4 5 17)) g':=by
 obtain ⟨hf,h5,h4⟩:=hA
 dsimp only [execV]
 by_cases hz:v.mem 17=r 4
 ·rw [if_pos hz]
  have h0:g.h=none:=by
   have e:=H.m17
   rw [hz,h4]at e
   cases hh:g.h with
   |none=>rfl
   |some u=>rw [hh]at e;have e2:(0:Int)=(u:Int)+1:=e;omega
  have ho:g.odd=false:=by
   cases hh:g.odd with
   |false=>rfl
   |true=>exact absurd h0 (H.od hh)
  have e16:upd v.mem 17 (r 5) 16=v.mem 16:=upd_ne _ _ _ (by decide)
  refine ⟨{g with h:=some t},H.turn ht (fun u hu hne=> .inl ⟨by rw [h0];simp,by simp [Ne.symm hne]⟩) (by rw [e16];exact Int.le_refl _) (fun _ _=>Iff.rfl) (fun _ _=>rfl) (fun _ _=>rfl) (fun _ _=>rfl) (fun u _=>by rw [(begF_quiet (nq (by show (4:Int)≠7;decide)))]) (fun u _=>(outE_quiet (fun x hx=> .inl (by rw [List.mem_singleton.1 hx];show (4:Int)≠6;decide)))) (by rw [upd_same];exact h5) (fun u hu=>by rw [<-Option.some.inj hu];exact ht) (e16.trans H.m16) (fun i hi=>(upd_ne _ _ _ (by omega)).trans (H.data i hi)) H.ev (fun _ q=>by cases q) H.V (fun u=>by rw [(begF_quiet (nq (by show (4:Int)≠7;decide)))];exact H.e3 u) ((oneF_quiet (nq (by show (4:Int)≠7;decide))).trans H.one) H.iwl (fun x hx q=>absurd q (by rw [List.mem_singleton.1 hx];show (4:Int)≠7;decide)) ⟨n,9,rfl,.inl ⟨hn,.inl rfl,by rw [hk];show 9<17;decide,by rw [hk];dsimp only [sgA];exact .inr ⟨⟨decide_eq_true rfl,ho,hd,hf.inn,hf.m3,hf.c⟩,by rw [updR_at];exact hz.trans h4⟩⟩⟩⟩
 ·rw [if_neg hz]
  exact ⟨g,H.quiet ht (fun x hx=>by rw [List.mem_singleton.1 hx];exact ⟨(by decide:(4:Int)≠7),(by decide:(4:Int)≠6)⟩) ⟨n,9,rfl,.inl ⟨hn,.inl rfl,by rw [hk];show 9<17;decide,by rw [hk];dsimp only [sgA];exact (.inl ⟨hf,by rw [updR_at];rw [h4]at hz;exact hz,by rw [updR_ot _ _ _ _ (by decide)];exact h5⟩)⟩⟩⟩
theorem swh_11 (H:SqI C v g) (ht:t<C.nt) {n:Nat} {r:Nat->Int} (hn:n<C.sn t) (hk:C.kd t n= .wh) (hd:v.bf t=[]) (hA:sgA C.N (g.at_ v t) (C.rn t n) t r (v.bf t) (.wh) 11): ∃g',SqI C (execV t v (C.bs t n+11) r (.fetch 4 16)) g':=by
 obtain ⟨h1,h4⟩:=hA
 have hw:g.h=some t:=H.hOf rfl h1.hd
 have ho:g.odd=false:=h1.odd
 have hfl:=H.ev ho
 have hm:=H.m16
 rw [ho]at hm
 have hsm:=H.small.1
 have e0:b2n false=0:=rfl
 dsimp only [execV]
 obtain ⟨z,hz⟩: ∃z,(v.mem 16+r 4)% 4294967296=z:=⟨_,rfl⟩
 rw [hz]
 have hz2:z=2*(g.V:Int)+1:=by rw [<-hz,hm,h4,e0];omega
 have e17:upd v.mem 16 z 17=v.mem 17:=upd_ne _ _ _ (by decide)
 refine ⟨{g with odd:=true},H.turn ht (only hw (.inl hw)) (by rw [upd_same,hz2,hm,e0];omega) (fun _ _=>Iff.rfl) (fun _ _=>rfl) (fun _ _=>rfl) (fun _ _=>rfl) (fun u _=>by rw [(begF_quiet (nq (by show (4:Int)≠7;decide)))]) (fun u _=>(outE_quiet (fun x hx=> .inl (by rw [List.mem_singleton.1 hx];show (4:Int)≠6;decide)))) (e17.trans H.m17) H.hlt (by rw [upd_same];exact hz2) (fun i hi=>(upd_ne _ _ _ (by omega)).trans (H.data i hi)) (fun q=>by cases q) (fun _=>by show g.h≠none;rw [hw];simp) H.V (fun u=>by rw [(begF_quiet (nq (by show (4:Int)≠7;decide)))];exact H.e3 u) ((oneF_quiet (nq (by show (4:Int)≠7;decide))).trans H.one) H.iwl (fun x hx q=>absurd q (by rw [List.mem_singleton.1 hx];show (4:Int)≠7;decide)) ⟨n,12,rfl,.inl ⟨hn,.inl rfl,by rw [hk];show 12<17;decide,by rw [hk];dsimp only [sgA];exact ⟨h1.hd,rfl,Nat.le_of_eq hfl,by rw [hd,Nat.zero_sub];rfl,h1.inn,h1.m3,h1.c⟩⟩⟩⟩
theorem swh_13 (H:SqI C v g) (ht:t<C.nt) {n:Nat} {r:Nat->Int} (hn:n<C.sn t) (hk:C.kd t n= .wh) (hA:sgA C.N (g.at_ v t) (C.rn t n) t r (v.bf t) (.wh) 13): ∃g',SqI C (execV t v (C.bs t n+13) r (.mark 1)) g':=by
 obtain ⟨h1,h7⟩:=hA
 have hw:g.h=some t:=H.hOf rfl h1.hd
 have hi:g.iw≠some t:=of_decide_eq_false h1.inn
 have h0:g.iw=none:=by
  cases h:g.iw with
  |none=>rfl
  |some u=>
   have :=(H.sums (H.iwl u h)).1 h
   rw [hw]at this
   rw [h]at hi
   exact absurd this.symm hi
 have eb: ∀u,begF u (v.evs++[⟨7,(t:Int),((C.bs t n+13:Nat):Int),0,r 7,0,((1:Nat):Int),false⟩])=begF u v.evs:=fun u=>by rw [begF_snoc];rfl
 refine ⟨{g with iw:=some t},H.turn ht (only hw (.inl hw)) (Int.le_refl _) (fun u hu=>⟨fun q=>absurd (Option.some.inj q).symm hu,fun q=>by rw [h0]at q;cases q⟩) (fun _ _=>rfl) (fun _ _=>rfl) (fun _ _=>rfl) (fun u _=>by rw [eb]) (fun u _=>(outE_quiet (fun x hx=> .inl (by rw [List.mem_singleton.1 hx];show (7:Int)≠6;decide)))) H.m17 H.hlt H.m16 H.data H.ev H.od H.V (fun u=>by rw [eb];exact H.e3 u) ?_ (fun u hu=>by rw [<-Option.some.inj hu];exact ht) (fun x hx _ _=>by rw [List.mem_singleton.1 hx];exact h7) ⟨n,14,rfl,.inl ⟨hn,.inl rfl,by rw [hk];show 14<17;decide,by rw [hk];dsimp only [sgA];exact ⟨h1.hd,h1.odd,h1.fl,h1.b,decide_eq_true rfl,h1.m3,h1.c⟩⟩⟩⟩
 rw [oneF_snoc,H.one,h0]
 unfold oneQ
 dsimp only [curW]
 rw [if_neg (by decide),if_pos ⟨by decide,h7⟩,if_neg (by decide)]
theorem swh_16 (H:SqI C v g) (ht:t<C.nt) {n:Nat} {r:Nat->Int} (hn:n<C.sn t) (hk:C.kd t n= .wh) (hA:sgA C.N (g.at_ v t) (C.rn t n) t r (v.bf t) (.wh) 16): ∃g',SqI C (execV t v (C.bs t n+16) r (.add 0 0 1)) g':=by
 obtain ⟨h1,h0,h3⟩:=hA
 have K:=H.ok.k t ht
 obtain ⟨k1,k2,k3⟩:=K.wh n hn hk
 have hsm:=H.small.1
 exact ⟨g,H.quiet ht (fun x hx=>by cases hx) (SqLoc.nxt (by rw [hk];rfl) (K.nx n) k1 rfl (by rw [k2,k3];dsimp only [sgA];exact ⟨h1,by have e:(g.at_ v t).V=g.V:=rfl;rw [e]at h0⊢;rw [updR_at,h0,h3];omega⟩))⟩
theorem swp_7 (H:SqI C v g) (ht:t<C.nt) {n:Nat} {i:Nat} {r:Nat->Int} (hn:n<C.sn t) (hk:C.kd t n= .wp i) (hA:sgA C.N (g.at_ v t) (C.rn t n) t r (v.bf t) (.wp i) 7): ∃g',SqI C (execV t v (C.bs t n+7) r (.store 0 (18+i))) g':=by
 have hI:=((H.ok.k t ht).wp n i hn hk).1
 obtain ⟨h1,h0⟩:=hA
 have hf:=h1.fl
 exact ⟨g,H.quiet ht (fun x hx=>by rw [List.mem_singleton.1 hx];exact ⟨(by decide:(2:Int)≠7),(by decide:(2:Int)≠6)⟩) ⟨n,8,rfl,.inl ⟨hn,.inl rfl,by rw [hk];show 8<10;decide,by rw [hk];dsimp only [sgA];exact ⟨⟨h1.hd,h1.odd,Nat.le_trans hf (Nat.le_succ _),by rw [h1.b,h0,show i+1-(g.at_ v t).fl=(i-(g.at_ v t).fl)+1 by omega,dataQ_snoc,show (g.at_ v t).fl+(i-(g.at_ v t).fl)=i by omega],h1.inn,h1.m3,h1.c⟩,h0⟩⟩⟩⟩
theorem swp_9 (H:SqI C v g) (ht:t<C.nt) {n:Nat} {i:Nat} {r:Nat->Int} (hn:n<C.sn t) (hk:C.kd t n= .wp i) (hA:sgA C.N (g.at_ v t) (C.rn t n) t r (v.bf t) (.wp i) 9): ∃g',SqI C (execV t v (C.bs t n+9) r (.mark 7)) g':=by
 obtain ⟨h1,h0,h7⟩:=hA
 have K:=H.ok.k t ht
 obtain ⟨k0,k1,k2,k3⟩:=K.wp n i hn hk
 refine ⟨g,H.note ht _ rfl ⟨(by show ((7:Nat):Int)≠1;decide),(by show ((7:Nat):Int)≠2;decide),(by show ((7:Nat):Int)≠3;decide),(by show ((7:Nat):Int)≠4;decide)⟩ (fun _=>h7) (SqLoc.nxt (by rw [hk];rfl) (K.nx n) k1 rfl ?_)⟩
 rw [k3,k2]
 by_cases c:i+1<C.N
 ·rw [if_pos c];exact ⟨h1,h0⟩
 ·rw [if_neg c];have e:i+1=C.N:=by omega
  rw [e]at h1;exact h1
theorem swt_0 (H:SqI C v g) (ht:t<C.nt) {n:Nat} {r:Nat->Int} (hn:n<C.sn t) (hk:C.kd t n= .wt) (hA:sgA C.N (g.at_ v t) (C.rn t n) t r (v.bf t) (.wt) 0): ∃g',SqI C (execV t v (C.bs t n+0) r (.mark 2)) g':=by
 have h1:=hA
 have hw:g.h=some t:=H.hOf rfl h1.hd
 have hi:g.iw=some t:=of_decide_eq_true h1.inn
 have eb: ∀u,begF u (v.evs++[⟨7,(t:Int),((C.bs t n+0:Nat):Int),0,r 7,0,((2:Nat):Int),false⟩])=begF u v.evs:=fun u=>by rw [begF_snoc];rfl
 refine ⟨{g with iw:=none},H.turn ht (only hw (.inl hw)) (Int.le_refl _) (fun u hu=>⟨(fun q=>by cases q),fun q=>by rw [hi]at q;exact absurd (Option.some.inj q).symm hu⟩) (fun _ _=>rfl) (fun _ _=>rfl) (fun _ _=>rfl) (fun u _=>by rw [eb]) (fun u _=>(outE_quiet (fun x hx=> .inl (by rw [List.mem_singleton.1 hx];show (7:Int)≠6;decide)))) H.m17 H.hlt H.m16 H.data H.ev H.od H.V (fun u=>by rw [eb];exact H.e3 u) ?_ (fun u hu=>by cases hu) (fun x hx _ q=>by rw [List.mem_singleton.1 hx]at q;exact absurd q (by show¬((2:Nat):Int)% 2=1;decide)) ⟨n,1,rfl,.inl ⟨hn,.inl rfl,by rw [hk];show 1<13;decide,by rw [hk];dsimp only [sgA];exact ⟨h1.hd,h1.odd,h1.fl,h1.b,decide_eq_false (show¬(none:Option Nat)=some t from fun q=>by cases q),h1.m3,h1.c⟩⟩⟩⟩
 rw [oneF_snoc,H.one,hi]
 unfold oneQ
 dsimp only [curW]
 rw [if_neg (by decide),if_neg (fun q=>absurd q.1 (by decide)),if_pos (by decide),if_neg (fun q=>q rfl)]
theorem swt_8 (H:SqI C v g) (ht:t<C.nt) {n:Nat} {r:Nat->Int} (hn:n<C.sn t) (hk:C.kd t n= .wt) (hd:v.bf t=[]) (hA:sgA C.N (g.at_ v t) (C.rn t n) t r (v.bf t) (.wt) 8): ∃g',SqI C (execV t v (C.bs t n+8) r (.fetch 4 16)) g':=by
 obtain ⟨h1,h4⟩:=hA
 have hw:g.h=some t:=H.hOf rfl h1.hd
 have ho:g.odd=true:=h1.odd
 have hcc:upd g.c t (g.c t+1) t=C.rn t n+1:=by
  rw [upd_same];exact congrArg (· +1) h1.c
 have hfl:g.fl=C.N:=by
  have e:=h1.b
  rw [hd]at e
  have e1:=dataQ_nil e.symm
  have e2:=h1.fl
  have e3:(g.at_ v t).fl=g.fl:=rfl
  omega
 have hm:=H.m16
 rw [ho]at hm
 have hsm:=H.small.1
 have e0:b2n false=0:=rfl
 have e1:b2n true=1:=rfl
 dsimp only [execV]
 obtain ⟨z,hz⟩: ∃z,(v.mem 16+r 4)% 4294967296=z:=⟨_,rfl⟩
 rw [hz]
 have hz2:z=2*((g.V+1:Nat):Int):=by rw [<-hz,hm,h4,e1];omega
 have e17:upd v.mem 16 z 17=v.mem 17:=upd_ne _ _ _ (by decide)
 refine ⟨{g with odd:=false,fl:=0,V:=g.V+1,c:=upd g.c t (g.c t+1)},H.turn ht (only hw (.inl hw)) (by rw [upd_same,hz2,hm,e1];omega) (fun _ _=>Iff.rfl) (fun u hu=>upd_ne _ _ _ hu) (fun _ _=>rfl) (fun _ _=>rfl) (fun u _=>by rw [(begF_quiet (nq (by show (4:Int)≠7;decide)))]) (fun u _=>(outE_quiet (fun x hx=> .inl (by rw [List.mem_singleton.1 hx];show (4:Int)≠6;decide)))) (e17.trans H.m17) H.hlt (by rw [upd_same,e0];rw [hz2];rfl) (fun i hi=>?_) (fun _=>rfl) (fun q=>by cases q) (by rw [sumT_one ht,<-H.V]) (fun u=>by rw [(begF_quiet (nq (by show (4:Int)≠7;decide)))];exact H.e3 u) ((oneF_quiet (nq (by show (4:Int)≠7;decide))).trans H.one) H.iwl (fun x hx q=>absurd q (by rw [List.mem_singleton.1 hx];show (4:Int)≠7;decide)) ⟨n,9,rfl,.inl ⟨hn,.inl rfl,by rw [hk];show 9<13;decide,by rw [hk];dsimp only [sgA];exact ⟨h1.hd,rfl,hd,h1.inn,h1.m3,hcc⟩⟩⟩⟩
 ·rw [upd_ne _ _ _ (by omega),H.data i hi,hfl,if_pos hi];show _=((g.V+1:Nat):Int)+(if i<0 then 1 else 0);rw [if_neg (by omega)];omega
theorem swt_12 (H:SqI C v g) (ht:t<C.nt) {n:Nat} {r:Nat->Int} (hn:n<C.sn t) (hk:C.kd t n= .wt) (hA:sgA C.N (g.at_ v t) (C.rn t n) t r (v.bf t) (.wt) 12): ∃g',SqI C (execV t v (C.bs t n+12) r (.mark 3)) g':=by
 obtain ⟨h1,h7⟩:=hA
 have K:=H.ok.k t ht
 obtain ⟨kw,kk⟩:=K.wt n hn hk
 have eb: ∀u,begF u (v.evs++[⟨7,(t:Int),((C.bs t n+12:Nat):Int),0,r 7,0,((3:Nat):Int),false⟩])=((begF u v.evs).1+1,(begF u v.evs).2):=fun u=>by rw [begF_snoc];rfl
 refine ⟨{g with m3:=upd g.m3 t (g.m3 t+1)},H.turn ht (fun u hu hne=>?_) (Int.le_refl _) (fun _ _=>Iff.rfl) (fun _ _=>rfl) (fun u hu=>upd_ne _ _ _ hu) (fun _ _=>rfl) (fun u _=>by rw [eb]) (fun u _=>(outE_quiet (fun x hx=> .inl (by rw [List.mem_singleton.1 hx];show (7:Int)≠6;decide)))) H.m17 H.hlt H.m16 H.data H.ev H.od H.V (fun u=>by rw [eb,sumT_one ht];exact congrArg (· +1) (H.e3 u)) ?_ H.iwl (fun x hx _ _=>by rw [List.mem_singleton.1 hx];exact h7) ?_⟩
 ·by_cases c:g.h=some u
  ·exact .inr ⟨c,c,rfl,rfl,rfl,rfl⟩
  ·exact .inl ⟨c,c⟩
 ·rw [oneF_snoc,H.one]
  unfold oneQ
  dsimp only
  rw [if_neg (by decide),if_neg (fun q=>absurd q.1 (by decide)),if_neg (by decide)]
 ·have F:SFree ⟨decide (g.h=some t),g.odd,g.fl,g.V,decide (g.iw=some t),g.c t,upd g.m3 t (g.m3 t+1) t,g.vs t,(begF t (v.evs++[⟨7,(t:Int),((C.bs t n+12:Nat):Int),0,r 7,0,((3:Nat):Int),false⟩])).2,outE t (v.evs++[⟨7,(t:Int),((C.bs t n+12:Nat):Int),0,r 7,0,((3:Nat):Int),false⟩]),v.mem 16⟩ (C.rn t n+1) (C.rn t n+1) (v.bf t):=⟨h1.b,h1.inn,by rw [upd_same];exact congrArg (· +1) h1.m3,h1.c⟩
  rcases kk with ⟨k1,k2⟩|⟨k1,k2,k3⟩
  ·exact SqLoc.fin (by rw [hk];rfl) (K.nx n) k1 rfl (by rw [if_pos kw,<-k2];exact F)
  ·exact SqLoc.nxt (by rw [hk];rfl) (K.nx n) k1 rfl (by rw [k2,k3];exact F)
theorem srh_0 (H:SqI C v g) (ht:t<C.nt) {n:Nat} {r:Nat->Int} (hn:n<C.sn t) (hk:C.kd t n= .rh) (hA:sgA C.N (g.at_ v t) (C.rn t n) t r (v.bf t) (.rh) 0): ∃g',SqI C (execV t v (C.bs t n+0) r (.mark 4)) g':=by
 obtain ⟨h1,hl⟩:=hA
 obtain ⟨x,hx⟩: ∃x,x=(⟨7,(t:Int),((C.bs t n+0:Nat):Int),0,r 7,0,((4:Nat):Int),false⟩:Evt):=⟨_,rfl⟩
 have e7:x.kind=7:=by rw [hx]
 have e4:x.k=4:=by rw [hx];rfl
 have ew:x.who=(t:Int):=by rw [hx]
 have eb1: ∀u,u≠t->begF u (v.evs++[x])=begF u v.evs:=fun u hu=>by rw [begF_snoc];unfold begQ;rw [if_neg (fun q=>by have :=q.2;omega),if_neg (fun q=>by have :=q.2.2;omega)]
 have eb2:begF t (v.evs++[x])=((begF t v.evs).1,(begF t v.evs).2++[(begF t v.evs).1]):=by rw [begF_snoc];unfold begQ;rw [if_neg (fun q=>by have :=q.2;omega),if_pos ⟨e7,e4,ew⟩]
 have eo: ∀u,outE u (v.evs++[x])=outE u v.evs:=fun u=>outE_quiet (fun y hy=> .inl (by rw [List.mem_singleton.1 hy,e7];decide))
 have hv:=H.e3 t
 have hsm:=H.small.2
 have hm:=H.m16
 have hl':((begF t v.evs).2).length=C.rn t n:=hl
 have F1:SRd C.N ⟨decide (g.h=some t),g.odd,g.fl,g.V,decide (g.iw=some t),g.c t,g.m3 t,g.vs t,(begF t (v.evs++[x])).2,outE t (v.evs++[x]),v.mem 16⟩ (v.bf t) (C.rn t n) []:=by
  refine ⟨h1.hd,h1.inn,h1.b,h1.c,h1.m3,h1.vs,?_,h1.srt,fun j hj=>?_,h1.le⟩
  ·show outE t (v.evs++[x])=_;rw [eo];exact h1.O
  ·show (begF t (v.evs++[x])).2.getD j 0<=_
   rw [eb2]
   have hj2:j<((begF t v.evs).2).length:=by have e:(g.vs t).length=C.rn t n:=h1.vs;have hj':j<(g.vs t).length:=hj;omega
   have :=h1.beg j hj
   simp only [List.getD_eq_getElem?_getD]at this⊢
   rw [List.getElem?_append_left hj2];exact this
 have F2:SIn ⟨decide (g.h=some t),g.odd,g.fl,g.V,decide (g.iw=some t),g.c t,g.m3 t,g.vs t,(begF t (v.evs++[x])).2,outE t (v.evs++[x]),v.mem 16⟩ (C.rn t n):=by
  refine ⟨?_,?_⟩
  ·show (begF t (v.evs++[x])).2.length=_;rw [eb2];simp [hl']
  ·show 2*(((begF t (v.evs++[x])).2.getD (C.rn t n) 0:Nat):Int)<=v.mem 16
   rw [eb2,List.getD_eq_getElem?_getD,List.getElem?_append_right (Nat.le_of_eq hl'),hl',Nat.sub_self]
   show 2*(((begF t v.evs).1:Nat):Int)<=_
   omega
 dsimp only [execV]
 rw [<-hx]
 refine ⟨g,H.turn ht (fun u hu hne=>?_) (Int.le_refl _) (fun _ _=>Iff.rfl) (fun _ _=>rfl) (fun _ _=>rfl) (fun _ _=>rfl) (fun u hu=>by rw [eb1 u hu]) (fun u _=>eo u) H.m17 H.hlt H.m16 H.data H.ev H.od H.V (fun u=>?_) ?_ H.iwl (fun y hy _ q=>by rw [List.mem_singleton.1 hy]at q;omega) ⟨n,1,rfl,.inl ⟨hn,.inl rfl,by rw [hk];show 1<5;decide,by rw [hk];dsimp only [sgA];exact ⟨F1,F2⟩⟩⟩⟩
 ·by_cases c:g.h=some u
  ·exact .inr ⟨c,c,rfl,rfl,rfl,rfl⟩
  ·exact .inl ⟨c,c⟩
 ·by_cases c:u=t
  ·rw [c,eb2];exact hv
  ·rw [eb1 u c];exact H.e3 u
 ·rw [oneF_snoc,H.one]
  unfold oneQ
  dsimp only
  rw [if_neg (fun q=>q e7),if_neg (fun q=>by have :=q.1;omega),if_neg (by omega)]
theorem srh_1 (H:SqI C v g) (ht:t<C.nt) {n:Nat} {r:Nat->Int} (hn:n<C.sn t) (hk:C.kd t n= .rh) (hA:sgA C.N (g.at_ v t) (C.rn t n) t r (v.bf t) (.rh) 1): ∃g',SqI C (execV t v (C.bs t n+1) r (.load 4 16)) g':=by
 exact ⟨g,H.quiet ht (fun x hx=>by rw [List.mem_singleton.1 hx];exact ⟨(by decide:(1:Int)≠7),(by decide:(1:Int)≠6)⟩) ⟨n,2,rfl,.inl ⟨hn,.inl rfl,by rw [hk];show 2<5;decide,by rw [hk];dsimp only [sgA];exact ⟨hA.1,(by have e:updR r 4 (seeV (v.bf t) v.mem 16) 4=v.mem 16:=(by rw [updR_at,show v.bf t=[] from hA.1.b,seeV_nil]);exact ⟨hA.2.bg,by rw [e];exact Int.le_refl _,by rw [e];exact hA.2.e,fun j hj=>by rw [e];exact hA.1.le j hj⟩)⟩⟩⟩⟩
theorem srh_3 (H:SqI C v g) (ht:t<C.nt) {n:Nat} {r:Nat->Int} (hn:n<C.sn t) (hk:C.kd t n= .rh) (hA:sgA C.N (g.at_ v t) (C.rn t n) t r (v.bf t) (.rh) 3): ∃g',SqI C (execV t v (C.bs t n+3) r (.and 6 4 5)) g':=by
 exact ⟨g,H.quiet ht (fun x hx=>by cases hx) ⟨n,4,rfl,.inl ⟨hn,.inl rfl,by rw [hk];show 4<5;decide,by rw [hk];dsimp only [sgA];exact ⟨hA.1,hA.2.1.to (updR_ot _ _ _ _ (by decide)),by have h1:=hA.2.1.le;have h2:=hA.2.1.e;have h3:=H.s49;have h4:(g.at_ v t).s=v.mem 16:=rfl;rw [updR_at,updR_ot _ _ _ _ (by decide),hA.2.2];exact bits_one (by omega) (by omega)⟩⟩⟩⟩
theorem srh_4 (H:SqI C v g) (ht:t<C.nt) {n:Nat} {r:Nat->Int} (hn:n<C.sn t) (hk:C.kd t n= .rh) (hA:sgA C.N (g.at_ v t) (C.rn t n) t r (v.bf t) (.rh) 4): ∃g',SqI C (execV t v (C.bs t n+4) r (.some 6 (C.bs t n+1))) g':=by
 obtain ⟨h1,h2,h3⟩:=hA
 have K:=H.ok.k t ht
 obtain ⟨k1,k2,k3⟩:=K.rh n hn hk
 dsimp only [execV]
 by_cases hz:r 6=0
 ·rw [if_pos hz]
  exact ⟨g,H.quiet ht (fun x hx=>by cases hx) (SqLoc.nxt (by rw [hk];rfl) (K.nx n) k1 rfl (by rw [k2,k3];dsimp only [sgA];exact ⟨h1,h2,h3.symm.trans hz,fun j hj=>absurd hj (by omega)⟩))⟩
 ·rw [if_neg hz]
  exact ⟨g,H.quiet ht (fun x hx=>by cases hx) ⟨n,1,rfl,.inl ⟨hn,.inl rfl,by rw [hk];show 1<5;decide,by rw [hk];dsimp only [sgA];exact ⟨h1,h2.in_⟩⟩⟩⟩
theorem srl_0 (H:SqI C v g) (ht:t<C.nt) {n:Nat} {i:Nat} {r:Nat->Int} (hn:n<C.sn t) (hk:C.kd t n= .rl i) (hA:sgA C.N (g.at_ v t) (C.rn t n) t r (v.bf t) (.rl i) 0): ∃g',SqI C (execV t v (C.bs t n+0) r (.load i (18+i))) g':=by
 obtain ⟨h1,h2,h3,h4⟩:=hA
 have K:=H.ok.k t ht
 obtain ⟨k0,k1,k2,k3⟩:=K.rl n i hn hk
 have hN:=H.ok.N3
 have hs:(g.at_ v t).s=v.mem 16:=rfl
 have hb:v.bf t=[]:=h1.b
 have hx:v.mem 16=r 4->2*seeV (v.bf t) v.mem (18+i)=r 4:=fun q=>by
  have e:=H.m16
  have eo:g.odd=false:=by
   cases hh:g.odd with
   |false=>rfl
   |true=>rw [hh]at e;have e1:b2n true=1:=rfl;omega
  have ef:=H.ev eo
  have ed:=H.data i k0
  rw [ef,if_neg (by omega)]at ed
  rw [eo]at e
  have e0:b2n false=0:=rfl
  rw [hb,seeV_nil,ed];omega
 refine ⟨g,H.quiet ht (fun x hx=>by rw [List.mem_singleton.1 hx];exact ⟨(by decide:(1:Int)≠7),(by decide:(1:Int)≠6)⟩) (SqLoc.nxt (by rw [hk];rfl) (K.nx n) k1 rfl ?_)⟩
 have e4: ∀x,updR r i x 4=r 4:=fun x=>updR_ot _ _ _ _ (by omega)
 have hA: ∀j,j<i+1->(g.at_ v t).s=updR r i (seeV (v.bf t) v.mem (18+i)) 4->2*updR r i (seeV (v.bf t) v.mem (18+i)) j=updR r i (seeV (v.bf t) v.mem (18+i)) 4:=fun j hj q=>by
  rw [e4]at q⊢
  by_cases c:j=i
  ·rw [c,updR_at];exact hx q
  ·rw [updR_ot _ _ _ _ c];exact h4 j (by omega) q
 have hg:=h2.to (r':=updR r i (seeV (v.bf t) v.mem (18+i))) (updR_ot _ _ _ _ (by omega))
 have hv:updR r i (seeV (v.bf t) v.mem (18+i)) 4 % 2=0:=by rw [e4];exact h3
 rw [k3,k2]
 by_cases c:i+1<C.N
 ·rw [if_pos c];exact ⟨h1,hg,hv,hA⟩
 ·rw [if_neg c];have e:i+1=C.N:=by omega
  rw [e]at hA;exact ⟨h1,hg,hv,hA⟩
theorem srt_0 (H:SqI C v g) (ht:t<C.nt) {n:Nat} {r:Nat->Int} (hn:n<C.sn t) (hk:C.kd t n= .rt) (hA:sgA C.N (g.at_ v t) (C.rn t n) t r (v.bf t) (.rt) 0): ∃g',SqI C (execV t v (C.bs t n+0) r (.load 5 16)) g':=by
 exact ⟨g,H.quiet ht (fun x hx=>by rw [List.mem_singleton.1 hx];exact ⟨(by decide:(1:Int)≠7),(by decide:(1:Int)≠6)⟩) ⟨n,1,rfl,.inl ⟨hn,.inl rfl,by rw [hk];show 1<5;decide,by rw [hk];dsimp only [sgA];exact ⟨hA.1,hA.2.1.to (updR_ot _ _ _ _ (by decide)),by rw [updR_ot _ _ _ _ (by decide)];exact hA.2.2.1,(fun q j hj=>by have :=H.ok.N3;rw [updR_at,show v.bf t=[] from hA.1.b,seeV_nil,updR_ot _ _ _ _ (by decide)]at q;rw [updR_ot _ _ _ _ (by omega),updR_ot _ _ _ _ (by decide)];exact hA.2.2.2 j hj q)⟩⟩⟩⟩
theorem srt_1 (H:SqI C v g) (ht:t<C.nt) {n:Nat} {r:Nat->Int} (hn:n<C.sn t) (hk:C.kd t n= .rt) (hA:sgA C.N (g.at_ v t) (C.rn t n) t r (v.bf t) (.rt) 1): ∃g',SqI C (execV t v (C.bs t n+1) r (.same 6 4 5)) g':=by
 exact ⟨g,H.quiet ht (fun x hx=>by cases hx) ⟨n,2,rfl,.inl ⟨hn,.inl rfl,by rw [hk];show 2<5;decide,by rw [hk];dsimp only [sgA];exact ⟨hA.1,hA.2.1.to (updR_ot _ _ _ _ (by decide)),by rw [updR_ot _ _ _ _ (by decide)];exact hA.2.2.1,(fun q j hj=>by have :=H.ok.N3;rw [updR_at]at q;rw [updR_ot _ _ _ _ (by omega),updR_ot _ _ _ _ (by decide)];exact hA.2.2.2 (Classical.byContradiction fun z=>q (if_neg (fun y=>z y.symm))) j hj)⟩⟩⟩⟩
theorem srt_2 (H:SqI C v g) (ht:t<C.nt) {n:Nat} {r:Nat->Int} (hn:n<C.sn t) (hk:C.kd t n= .rt) (hA:sgA C.N (g.at_ v t) (C.rn t n) t r (v.bf t) (.rt) 2): ∃g',SqI C (execV t v (C.bs t n+2) r (.zero 6 (C.bs t (C.gn t n)+1))) g':=by
 obtain ⟨h1,h2,h3,h4⟩:=hA
 have K:=H.ok.k t ht
 obtain ⟨k1,k2,k3,k4,k5,k6⟩:=K.rt n hn hk
 dsimp only [execV]
 by_cases hz:r 6=0
 ·rw [if_pos hz]
  exact ⟨g,H.quiet ht (fun x hx=>by cases hx) ⟨C.gn t n,1,rfl,.inl ⟨k4,.inl rfl,by rw [k5];show 1<5;decide,by rw [k5,k6];dsimp only [sgA];exact ⟨h1,h2.in_⟩⟩⟩⟩
 ·rw [if_neg hz]
  exact ⟨g,H.quiet ht (fun x hx=>by cases hx) ⟨n,3,rfl,.inl ⟨hn,.inl rfl,by rw [hk];show 3<5;decide,by rw [hk];dsimp only [sgA];exact ⟨h1,h2,h3,h4 hz⟩⟩⟩⟩
theorem srt_4 (H:SqI C v g) (ht:t<C.nt) {n:Nat} {r:Nat->Int} (hn:n<C.sn t) (hk:C.kd t n= .rt) (hA:sgA C.N (g.at_ v t) (C.rn t n) t r (v.bf t) (.rt) 4): ∃g',SqI C (execV t v (C.bs t n+4) r (.mark 5)) g':=by
 obtain ⟨h1,h2,h3,h4,h7⟩:=hA
 have K:=H.ok.k t ht
 obtain ⟨k1,k2,k3,k4,k5,k6⟩:=K.rt n hn hk
 have he:=h2.e
 have hle:=h2.le
 obtain ⟨z,hz⟩: ∃z:Nat,r 4=2*(z:Int):=⟨(r 4/2).toNat,by omega⟩
 refine ⟨g,H.note ht _ rfl ⟨(by show ((5:Nat):Int)≠1;decide),(by show ((5:Nat):Int)≠2;decide),(by show ((5:Nat):Int)≠3;decide),(by show ((5:Nat):Int)≠4;decide)⟩ (fun _=>h7) (SqLoc.nxt (by rw [hk];rfl) (K.nx n) k1 rfl ?_)⟩
 rw [k2,k3]
 have hr: ∀j,j<C.N->r j=(z:Int):=fun j hj=>by have :=h4 j hj;omega
 have hb:(g.at_ v t).bg.getD (C.rn t n) 0<=z:=by omega
 have hvs: ∀j,j<(g.at_ v t).vs.length->(g.at_ v t).vs.getD j 0<=z:=fun j hj=>by have :=h2.vs j hj;omega
 exact ⟨z,h1,h2.bg,hr,hb,hvs,by omega⟩
theorem sro_0 (H:SqI C v g) (ht:t<C.nt) {n:Nat} {i:Nat} {r:Nat->Int} (hn:n<C.sn t) (hk:C.kd t n= .ro i) (hA:sgA C.N (g.at_ v t) (C.rn t n) t r (v.bf t) (.ro i) 0): ∃g',SqI C (execV t v (C.bs t n+0) r (.out i)) g':=by
 obtain ⟨z,h1,h2⟩:=hA
 have K:=H.ok.k t ht
 obtain ⟨k0,kk⟩:=K.ro n i hn hk
 have hi:=h2.r i k0
 obtain ⟨x,hx⟩: ∃x,x=(⟨6,(t:Int),((C.bs t n+0:Nat):Int),0,r i,0,0,false⟩:Evt):=⟨_,rfl⟩
 have e6:x.kind=6:=by rw [hx]
 have ew:x.who=(t:Int):=by rw [hx]
 have ev:x.value=(z:Int):=by rw [hx];exact hi
 have eb: ∀u,begF u (v.evs++[x])=begF u v.evs:=fun u=>begF_quiet (nq (by rw [e6];decide))
 have eo1: ∀u,u≠t->outE u (v.evs++[x])=outE u v.evs:=fun u hu=>outE_quiet (fun y hy=> .inr (by rw [List.mem_singleton.1 hy,ew];omega))
 have eo2:outE t (v.evs++[x])=outE t v.evs++[(z:Int)]:=by rw [outE_snoc e6 ew,ev]
 have e1:oneF (v.evs++[x])=some (curW g.iw):=(oneF_quiet (nq (by rw [e6];decide))).trans H.one
 have ef: ∀y∈[x],fineQ y:=fun y hy q=>by rw [List.mem_singleton.1 hy,e6]at q;cases q
 have hh: ∀(g':SG),g'.h=g.h->g'.odd=g.odd->g'.fl=g.fl->g'.V=g.V-> ∀u,u<C.nt->u≠t->(g.h≠some u/\g'.h≠some u)∨(g.h=some u/\g'.h=some u/\g'.odd=g.odd/\g'.fl=g.fl/\g'.V=g.V/\v.mem 16=v.mem 16):=fun g' q1 q2 q3 q4 u _ _=>by
  by_cases c:g.h=some u
  ·exact .inr ⟨c,q1.trans c,q2,q3,q4,rfl⟩
  ·exact .inl ⟨c,by rw [q1];exact c⟩
 have hO:outE t v.evs=outQ C.N (g.vs t)++List.replicate i (z:Int):=h1.O
 have hr:List.replicate i (z:Int)++[(z:Int)]=List.replicate (i+1) (z:Int):=by rw [List.replicate_succ']
 dsimp only [execV]
 rw [<-hx]
 rcases kk with ⟨c,k1,k2,k3⟩|⟨c,kw,kk⟩
 ·refine ⟨g,H.turn ht (hh g rfl rfl rfl rfl) (Int.le_refl _) (fun _ _=>Iff.rfl) (fun _ _=>rfl) (fun _ _=>rfl) (fun _ _=>rfl) (fun u _=>by rw [eb]) eo1 H.m17 H.hlt H.m16 H.data H.ev H.od H.V (fun u=>by rw [eb];exact H.e3 u) e1 H.iwl ef (SqLoc.nxt (by rw [hk];rfl) (K.nx n) k1 rfl ?_)⟩
  rw [k3,k2]
  refine ⟨z,⟨h1.hd,h1.inn,h1.b,h1.c,h1.m3,h1.vs,?_,h1.srt,?_,h1.le⟩,⟨?_,h2.r,?_,h2.vs,h2.le⟩⟩
  ·show outE t (v.evs++[x])=_;rw [eo2,hO,List.append_assoc,hr]
  ·rw [eb];exact h1.beg
  ·rw [eb];exact h2.bg
  ·rw [eb];exact h2.e
 ·have hv:(g.vs t).length=C.rn t n:=h1.vs
  have gl: ∀j,j<(g.vs t).length->(g.vs t++[z]).getD j 0=(g.vs t).getD j 0:=fun j hj=>by simp only [List.getD_eq_getElem?_getD];rw [List.getElem?_append_left hj]
  have gr:(g.vs t++[z]).getD (g.vs t).length 0=z:=by simp
  refine ⟨{g with vs:=upd g.vs t (g.vs t++[z])},H.turn ht (hh _ rfl rfl rfl rfl) (Int.le_refl _) (fun _ _=>Iff.rfl) (fun _ _=>rfl) (fun _ _=>rfl) (fun u hu=>upd_ne _ _ _ hu) (fun u _=>by rw [eb]) eo1 H.m17 H.hlt H.m16 H.data H.ev H.od H.V (fun u=>by rw [eb];exact H.e3 u) e1 H.iwl ef ?_⟩
  dsimp only
  rw [eb,eo2,upd_same]
  have F:SRd C.N ⟨decide (g.h=some t),g.odd,g.fl,g.V,decide (g.iw=some t),g.c t,g.m3 t,g.vs t++[z],(begF t v.evs).2,outE t v.evs++[(z:Int)],v.mem 16⟩ (v.bf t) (C.rn t n+1) []/\((begF t v.evs).2).length=C.rn t n+1:=by
   refine ⟨⟨h1.hd,h1.inn,h1.b,h1.c,h1.m3,?_,?_,fun j hj=>?_,fun j hj=>?_,fun j hj=>?_⟩,h2.bg⟩
   ·show (g.vs t++[z]).length=_;simp [hv]
   ·show outE t v.evs++[(z:Int)]=outQ C.N (g.vs t++[z])++[];rw [List.append_nil,outQ_snoc,hO,List.append_assoc,hr,c]
   ·replace hj:j+1<(g.vs t++[z]).length:=hj
    rw [List.length_append,List.length_singleton]at hj
    show (g.vs t++[z]).getD j 0<=(g.vs t++[z]).getD (j+1) 0
    by_cases q:j+1<(g.vs t).length
    ·rw [gl j (by omega),gl (j+1) q];exact h1.srt j q
    ·have e:j+1=(g.vs t).length:=by omega
     rw [gl j (by omega),e,gr];exact h2.vs j (by show j<(g.vs t).length;omega)
   ·replace hj:j<(g.vs t++[z]).length:=hj
    rw [List.length_append,List.length_singleton]at hj
    show ((begF t v.evs).2).getD j 0<=(g.vs t++[z]).getD j 0
    by_cases q:j<(g.vs t).length
    ·rw [gl j q];exact h1.beg j q
    ·have e:j=(g.vs t).length:=by omega
     rw [e,gr,hv];exact h2.e
   ·replace hj:j<(g.vs t++[z]).length:=hj
    rw [List.length_append,List.length_singleton]at hj
    show 2*(((g.vs t++[z]).getD j 0:Nat):Int)<=v.mem 16
    by_cases q:j<(g.vs t).length
    ·rw [gl j q];exact h1.le j q
    ·have e:j=(g.vs t).length:=by omega
     rw [e,gr];exact h2.le
  rcases kk with ⟨k1,k2⟩|⟨k1,k2,k3⟩
  ·exact SqLoc.fin (by rw [hk];rfl) (K.nx n) k1 rfl (by rw [if_neg (by rw [kw];decide),<-k2];exact F)
  ·exact SqLoc.nxt (by rw [hk];rfl) (K.nx n) k1 rfl (by rw [k2,k3];exact F)
theorem SFree.fl {L:SL} {c m3:Nat} {x:Ent} {l:List Ent} (h:SFree L c m3 (x::l)):x=(17,0)/\L.hd=true/\L.odd=false/\SFree {L with hd:=false} c m3 l:=by
 rcases h.b with ⟨_,q⟩|⟨q1,q2,q3⟩
 ·cases q
 ·injection q2 with q4 q5
  exact ⟨q4,q1,q3,.inl ⟨rfl,q5⟩,h.inn,h.m3,h.c⟩
theorem SHas.no {L:SL} {c m3:Nat} {x:Ent} {l:List Ent} {p:Prop} (h:SHas L c m3 (x::l)):p:=absurd h.b (by simp)
theorem SRd.no {N:Nat} {L:SL} {m:Nat} {cur:List Int} {x:Ent} {l:List Ent} {p:Prop} (h:SRd N L (x::l) m cur):p:=absurd h.b (by simp)
theorem SOdd.fl1 {L:SL} {c k:Nat} {i:Bool} {x:Ent} {l:List Ent} (h:SOdd L c k (x::l) i):x=(((18+L.fl:Nat):Int),(L.V:Int)+1)/\L.hd=true/\L.odd=true/\SOdd {L with fl:=L.fl+1} c k l i:=by
 have q:=h.b
 cases hj:k-L.fl with
 |zero=>rw [hj]at q;cases q
 |succ j=>
  rw [hj]at q
  injection q with q1 q2
  have hf:=h.fl
  exact ⟨q1,h.hd,h.odd,h.hd,h.odd,by show L.fl+1<=k;omega,by show l=dataQ _ (L.fl+1) (k-(L.fl+1));rw [show k-(L.fl+1)=j by omega];exact q2,h.inn,h.m3,h.c⟩
theorem sgA_fl {N:Nat} {L:SL} {m:Nat} {r:Nat->Int} {x:Ent} {l:List Ent} {k:Sg} {o:Nat} (h:sgA N L m t r (x::l) k o):
 (x=(17,0)/\L.hd=true/\L.odd=false/\sgA N {L with hd:=false} m t r l k o)∨(x=(((18+L.fl:Nat):Int),(L.V:Int)+1)/\L.hd=true/\L.odd=true/\sgA N {L with fl:=L.fl+1} m t r l k o):=by
 unfold sgA at h⊢
 split at h
 all_goals first
  |exact h.elim
  |exact h.no
  |exact h.1.no
  |exact .inl h.fl
  |(obtain ⟨q1,q2,q3,q4⟩:=h.1.fl;exact .inl ⟨q1,q2,q3,q4,h.2⟩)
  |exact .inr h.fl1
  |(obtain ⟨q1,q2,q3,q4⟩:=h.1.fl1;exact .inr ⟨q1,q2,q3,q4,h.2⟩)
  |(rcases h with h|h;obtain ⟨q1,q2,q3,q4⟩:=h.1.fl;exact .inl ⟨q1,q2,q3,.inl ⟨q4,h.2⟩⟩;exact h.1.no)
  |(obtain ⟨z,q1,q2⟩:=h;exact q1.no)
theorem SqLoc.fl {N rd:Nat} {kd:Nat->Sg} {rn:Nat->Nat} {sn:Nat} {bs:Nat->Nat} {isW:Bool} {L:SL} {th:Th} {x:Ent} {l:List Ent} (h:SqLoc N rd kd rn sn bs isW L t th (x::l)):
 (x=(17,0)/\L.hd=true/\L.odd=false/\SqLoc N rd kd rn sn bs isW {L with hd:=false} t th l)∨(x=(((18+L.fl:Nat):Int),(L.V:Int)+1)/\L.hd=true/\L.odd=true/\SqLoc N rd kd rn sn bs isW {L with fl:=L.fl+1} t th l):=by
 obtain ⟨n,o,hp,h|h⟩:=h
 ·rcases sgA_fl h.2.2.2 with ⟨q1,q2,q3,q4⟩|⟨q1,q2,q3,q4⟩
  ·exact .inl ⟨q1,q2,q3,n,o,hp,.inl ⟨h.1,h.2.1,h.2.2.1,q4⟩⟩
  ·exact .inr ⟨q1,q2,q3,n,o,hp,.inl ⟨h.1,h.2.1,h.2.2.1,q4⟩⟩
 ·have q:=h.2.2.2
  cases isW with
  |true=>
   rw [if_pos rfl]at q
   obtain ⟨q1,q2,q3,q4⟩:=q.fl
   exact .inl ⟨q1,q2,q3,n,o,hp,.inr ⟨h.1,h.2.1,h.2.2.1,by rw [if_pos rfl];exact q4⟩⟩
  |false=>rw [if_neg (by decide)]at q;exact q.1.no
theorem SqI.flush (H:SqI C v g) (ht:t<C.nt) (hb:v.bf t≠[]): ∃g',SqI C (flushV t v) g':=by
 unfold flushV
 cases hc:v.bf t with
 |nil=>exact absurd hc hb
 |cons x l=>
  have hl:=H.loc t ht
  rw [hc]at hl
  obtain ⟨y,hy⟩: ∃y,y=(⟨3,(t:Int),0,x.1,x.2,0,0,false⟩:Evt):=⟨_,rfl⟩
  have e3:y.kind=3:=by rw [hy]
  have k7: ∀z∈[y],z.kind≠7:=nq (by rw [e3];decide)
  have ho: ∀u,outE u (v.evs++[y])=outE u v.evs:=fun u=>outE_quiet (fun z hz=> .inl (by rw [List.mem_singleton.1 hz,e3];decide))
  have hb': ∀u,begF u (v.evs++[y])=begF u v.evs:=fun u=>begF_quiet k7
  have hf: ∀z∈[y],fineQ z:=fun z hz q=>absurd q (k7 z hz)
  have one:=(oneF_quiet (l:=v.evs) k7).trans H.one
  have K: ∃g',SqI C (v.mv t (v.th t) l (upd v.mem x.1.toNat x.2) [y]) g':=by
   rcases hl.fl with ⟨q1,q2,q3,q4⟩|⟨q1,q2,q3,q4⟩
   ·have hw:g.h=some t:=H.hOf rfl q2
    have ho':g.odd=false:=q3
    have em:upd v.mem x.1.toNat x.2=upd v.mem 17 0:=by rw [q1];rfl
    rw [em]
    have e16:upd v.mem 17 (0:Int) 16=v.mem 16:=upd_ne _ _ _ (by decide)
    refine ⟨{g with h:=none},H.turn ht (only hw (.inr rfl)) (by rw [e16];exact Int.le_refl _) (fun _ _=>Iff.rfl) (fun _ _=>rfl) (fun _ _=>rfl) (fun _ _=>rfl) (fun u _=>by rw [hb']) (fun u _=>ho u) (by rw [upd_same];rfl) (fun u q=>by cases q) (e16.trans H.m16) (fun i hi=>(upd_ne _ _ _ (by omega)).trans (H.data i hi)) H.ev (fun q=>by rw [ho']at q;cases q) H.V (fun u=>by rw [hb'];exact H.e3 u) one H.iwl hf ?_⟩
    dsimp only
    rw [hb',ho,e16]
    exact q4
   ·have hw:g.h=some t:=H.hOf rfl q2
    have em:upd v.mem x.1.toNat x.2=upd v.mem (18+g.fl) ((g.V:Int)+1):=by rw [q1];rfl
    rw [em]
    have e16:upd v.mem (18+g.fl) ((g.V:Int)+1) 16=v.mem 16:=upd_ne _ _ _ (by omega)
    refine ⟨{g with fl:=g.fl+1},H.turn ht (only hw (.inl hw)) (by rw [e16];exact Int.le_refl _) (fun _ _=>Iff.rfl) (fun _ _=>rfl) (fun _ _=>rfl) (fun _ _=>rfl) (fun u _=>by rw [hb']) (fun u _=>ho u) ((upd_ne _ _ _ (by omega)).trans H.m17) H.hlt (e16.trans H.m16) (fun i hi=>?_) (fun q=>by have q3':g.odd=true:=q3;rw [q3']at q;cases q) H.od H.V (fun u=>by rw [hb'];exact H.e3 u) one H.iwl hf ?_⟩
    ·have :=H.data i hi
     by_cases c:i=g.fl
     ·rw [c,upd_same];show _=(g.V:Int)+(if g.fl<g.fl+1 then 1 else 0);rw [if_pos (by omega)]
     ·rw [upd_ne _ _ _ (by omega),this]
      show _=(g.V:Int)+(if i<g.fl+1 then 1 else 0)
      by_cases c2:i<g.fl
      ·rw [if_pos c2,if_pos (by omega)]
      ·rw [if_neg c2,if_neg (by omega)]
    ·dsimp only
     rw [hb',ho,e16]
     exact q4
  obtain ⟨g',K⟩:=K
  refine ⟨g',?_⟩
  unfold Vw.mv at K
  rw [upd_self,hy]at K
  exact K
theorem sq_exec (H:SqI C v g) (ht:t<C.nt) {n o:Nat} {r:Nat->Int} (hn:n<C.sn t) (ho:o<sgLen (C.kd t n)) (hA:sgA C.N (g.at_ v t) (C.rn t n) t r (v.bf t) (C.kd t n) o):
 ∃op,(sgL t (C.bs t n) (C.bs t (C.gn t n)+1) (C.kd t n))[o]?=some op/\((op.drains=true->v.bf t=[])-> ∃g',SqI C (execV t v (C.bs t n+o) r op) g'):=by
 obtain ⟨k,hk⟩: ∃k,C.kd t n=k:=⟨_,rfl⟩
 rw [hk]at ho hA⊢
 match k,o,hk,ho,hA with
 | .wh,0,hk,_,hA=>exact ⟨_,rfl,fun _=>swh_0 H ht hn hk hA⟩
 | .wh,1,hk,_,hA=>exact ⟨_,rfl,fun _=>swh_1 H ht hn hk hA⟩
 | .wh,2,hk,_,hA=>exact ⟨_,rfl,fun _=>swh_2 H ht hn hk hA⟩
 | .wh,3,hk,_,hA=>exact ⟨_,rfl,fun _=>swh_3 H ht hn hk hA⟩
 | .wh,4,hk,_,hA=>exact ⟨_,rfl,fun _=>swh_4 H ht hn hk hA⟩
 | .wh,5,_,_,hA=>exact hA.elim
 | .wh,6,_,_,hA=>exact hA.elim
 | .wh,7,hk,_,hA=>exact ⟨_,rfl,fun _=>swh_7 H ht hn hk hA⟩
 | .wh,8,hk,_,hA=>exact ⟨_,rfl,fun hd=>swh_8 H ht hn hk (hd rfl) hA⟩
 | .wh,9,hk,_,hA=>exact ⟨_,rfl,fun _=>swh_9 H ht hn hk hA⟩
 | .wh,10,hk,_,hA=>exact ⟨_,rfl,fun _=>swh_10 H ht hn hk hA⟩
 | .wh,11,hk,_,hA=>exact ⟨_,rfl,fun hd=>swh_11 H ht hn hk (hd rfl) hA⟩
 | .wh,12,hk,_,hA=>exact ⟨_,rfl,fun _=>swh_12 H ht hn hk hA⟩
 | .wh,13,hk,_,hA=>exact ⟨_,rfl,fun _=>swh_13 H ht hn hk hA⟩
 | .wh,14,hk,_,hA=>exact ⟨_,rfl,fun _=>swh_14 H ht hn hk hA⟩
 | .wh,15,hk,_,hA=>exact ⟨_,rfl,fun _=>swh_15 H ht hn hk hA⟩
 | .wh,16,hk,_,hA=>exact ⟨_,rfl,fun _=>swh_16 H ht hn hk hA⟩
 | .wh,o+17,_,ho,_=>exact absurd ho (by show¬o+17<17;omega)
 | .wp i,0,hk,_,hA=>exact ⟨_,rfl,fun _=>swp_0 H ht hn hk hA⟩
 | .wp i,1,hk,_,hA=>exact ⟨_,rfl,fun _=>swp_1 H ht hn hk hA⟩
 | .wp i,2,hk,_,hA=>exact ⟨_,rfl,fun _=>swp_2 H ht hn hk hA⟩
 | .wp i,3,hk,_,hA=>exact ⟨_,rfl,fun _=>swp_3 H ht hn hk hA⟩
 | .wp i,4,hk,_,hA=>exact ⟨_,rfl,fun _=>swp_4 H ht hn hk hA⟩
 | .wp i,5,_,_,hA=>exact hA.elim
 | .wp i,6,_,_,hA=>exact hA.elim
 | .wp i,7,hk,_,hA=>exact ⟨_,rfl,fun _=>swp_7 H ht hn hk hA⟩
 | .wp i,8,hk,_,hA=>exact ⟨_,rfl,fun _=>swp_8 H ht hn hk hA⟩
 | .wp i,9,hk,_,hA=>exact ⟨_,rfl,fun _=>swp_9 H ht hn hk hA⟩
 | .wp _,o+10,_,ho,_=>exact absurd ho (by show¬o+10<10;omega)
 | .wt,0,hk,_,hA=>exact ⟨_,rfl,fun _=>swt_0 H ht hn hk hA⟩
 | .wt,1,hk,_,hA=>exact ⟨_,rfl,fun _=>swt_1 H ht hn hk hA⟩
 | .wt,2,hk,_,hA=>exact ⟨_,rfl,fun _=>swt_2 H ht hn hk hA⟩
 | .wt,3,hk,_,hA=>exact ⟨_,rfl,fun _=>swt_3 H ht hn hk hA⟩
 | .wt,4,hk,_,hA=>exact ⟨_,rfl,fun _=>swt_4 H ht hn hk hA⟩
 | .wt,5,_,_,hA=>exact hA.elim
 | .wt,6,_,_,hA=>exact hA.elim
 | .wt,7,hk,_,hA=>exact ⟨_,rfl,fun _=>swt_7 H ht hn hk hA⟩
 | .wt,8,hk,_,hA=>exact ⟨_,rfl,fun hd=>swt_8 H ht hn hk (hd rfl) hA⟩
 | .wt,9,hk,_,hA=>exact ⟨_,rfl,fun _=>swt_9 H ht hn hk hA⟩
 | .wt,10,hk,_,hA=>exact ⟨_,rfl,fun _=>swt_10 H ht hn hk hA⟩
 | .wt,11,hk,_,hA=>exact ⟨_,rfl,fun _=>swt_11 H ht hn hk hA⟩
 | .wt,12,hk,_,hA=>exact ⟨_,rfl,fun _=>swt_12 H ht hn hk hA⟩
 | .wt,o+13,_,ho,_=>exact absurd ho (by show¬o+13<13;omega)
 | .rh,0,hk,_,hA=>exact ⟨_,rfl,fun _=>srh_0 H ht hn hk hA⟩
 | .rh,1,hk,_,hA=>exact ⟨_,rfl,fun _=>srh_1 H ht hn hk hA⟩
 | .rh,2,hk,_,hA=>exact ⟨_,rfl,fun _=>srh_2 H ht hn hk hA⟩
 | .rh,3,hk,_,hA=>exact ⟨_,rfl,fun _=>srh_3 H ht hn hk hA⟩
 | .rh,4,hk,_,hA=>exact ⟨_,rfl,fun _=>srh_4 H ht hn hk hA⟩
 | .rh,o+5,_,ho,_=>exact absurd ho (by show¬o+5<5;omega)
 | .rl i,0,hk,_,hA=>exact ⟨_,rfl,fun _=>srl_0 H ht hn hk hA⟩
 | .rl _,o+1,_,ho,_=>exact absurd ho (by show¬o+1<1;omega)
 | .rt,0,hk,_,hA=>exact ⟨_,rfl,fun _=>srt_0 H ht hn hk hA⟩
 | .rt,1,hk,_,hA=>exact ⟨_,rfl,fun _=>srt_1 H ht hn hk hA⟩
 | .rt,2,hk,_,hA=>exact ⟨_,rfl,fun _=>srt_2 H ht hn hk hA⟩
 | .rt,3,hk,_,hA=>exact ⟨_,rfl,fun _=>srt_3 H ht hn hk hA⟩
 | .rt,4,hk,_,hA=>exact ⟨_,rfl,fun _=>srt_4 H ht hn hk hA⟩
 | .rt,o+5,_,ho,_=>exact absurd ho (by show¬o+5<5;omega)
 | .ro i,0,hk,_,hA=>exact ⟨_,rfl,fun _=>sro_0 H ht hn hk hA⟩
 | .ro _,o+1,_,ho,_=>exact absurd ho (by show¬o+1<1;omega)
theorem SqLoc.run {N rd:Nat} {kd:Nat->Sg} {rn:Nat->Nat} {sn:Nat} {bs:Nat->Nat} {isW:Bool} {L:SL} {th:Th} {b:List Ent} (h:SqLoc N rd kd rn sn bs isW L t th b):SqLoc N rd kd rn sn bs isW L t ⟨th.pc,th.regs,0⟩ b:=by
 obtain ⟨n,o,hp,h|h⟩:=h
 ·exact ⟨n,o,hp,.inl ⟨h.1,.inl rfl,h.2.2⟩⟩
 ·exact ⟨n,o,hp,.inr ⟨h.1,h.2.1,.inl rfl,h.2.2.2⟩⟩
def SqC.In (C:SqC) (B:MB):Prop:=B.codes.length=C.nt/\ ∀t,t<C.nt->Coded B t (C.sn t) (C.bs t) (fun n=>sgL t (C.bs t n) (C.bs t (C.gn t n)+1) (C.kd t n))
theorem sq_pick {B:MB} {s:Mst} (hw:Wf B s) (hC:C.In B) (H: ∃g,SqI C (vw s) g) (x:Int×Int): ∃g,SqI C (vw (tPick B s x)) g:=by
 refine pick_keeps (I:=fun v=> ∃g,SqI C v g) hw H (fun t ht hb=>?_) (fun t ht hst=>?_) (fun t ht _=>?_) x
 ·obtain ⟨g,H⟩:=H
  exact H.flush (by rw [<-hC.1];exact ht) hb
 ·obtain ⟨g,H⟩:=H
  have ht':t<C.nt:=by rw [<-hC.1];exact ht
  obtain ⟨n,o,hpc,hl|hl⟩:=H.loc t ht'
  ·obtain ⟨op,hop,hk⟩:=sq_exec H ht' hl.1 hl.2.2.1 hl.2.2.2
   exact .inl ⟨C.bs t n+o,_,op,(hC.2 t ht').at_ hw ht hl.1 hop (Th.parts hpc hst),fun h1 _=>hk h1⟩
  ·have h0:o=0:=hl.2.1
   rw [h0]at hpc
   refine .inr ⟨?_,g,H.quiet ht' (fun x hx=>by rw [List.mem_singleton.1 hx];exact ⟨(by decide:(12:Int)≠7),(by decide:(12:Int)≠6)⟩) ⟨n,0,hpc,.inr ⟨hl.1,rfl,.inr rfl,hl.2.2.2⟩⟩⟩
   rw [(hC.2 t ht').len]
   have hpc':(thM s t).pc=((C.bs t n+0:Nat):Int):=hpc
   rw [hpc',hl.1]
   exact Int.le_refl _
 ·obtain ⟨g,H⟩:=H
  have ht':t<C.nt:=by rw [<-hC.1];exact ht
  exact ⟨g,(H.quiet ht' (fun x hx=>by rw [List.mem_singleton.1 hx];exact ⟨(by decide:(11:Int)≠7),(by decide:(11:Int)≠6)⟩) (H.loc t ht').run).slp _⟩
theorem sq_run {B:MB} (hB:MBok B) (hC:C.In B) (l:List (Int×Int)) {s:Mst} (hw:Wf B s) (H: ∃g,SqI C (vw s) g): ∃g,SqI C (vw (tRun B s l)) g:=
 (run_keeps (I:=fun s=> ∃g,SqI C (vw s) g) hB (fun s x hw H=>sq_pick hw hC H x) l s hw H).2
theorem sq_start (hok:C.Ok) (h1: ∀t,v.th t=tha) (h2: ∀t,v.bf t=[]) (h3: ∀i,v.mem i=0) (h4:v.evs=[]):SqI C v ⟨none,false,0,0,none,fun _=>0,fun _=>0,fun _=>[]⟩:=by
 have hz:sumT C.nt (fun _=>0)=0:=by
  have :=sumT_le (W:=C.nt) (f:=fun _=>0) (k:=0) (fun t _=>Nat.le_refl _)
  omega
 refine ⟨hok,h3 17,(fun u q=>by cases q),h3 16,fun i hi=>(h3 _).trans ?_,fun _=>rfl,(fun q=>by cases q),fun t ht=>?_,hz.symm,fun t=>by rw [h4];exact hz.symm,by rw [h4];rfl,(fun u q=>by cases q),by rw [h4];intro x hx;cases hx⟩
 ·show (0:Int)=((0:Nat):Int)+(if i<0 then 1 else 0)
  rw [if_neg (by omega)];rfl
 ·have K:=hok.k t ht
  rw [h1,h2]
  have eA:SG.at_ ⟨none,false,0,0,none,fun _=>0,fun _=>0,fun _=>[]⟩ v t=⟨false,false,0,0,false,0,0,[],[],[],0⟩:=by
   unfold SG.at_
   rw [h4,h3]
   rfl
  rw [eA]
  refine ⟨0,0,by rw [K.b0];rfl,?_⟩
  have F:SFree ⟨false,false,0,0,false,0,0,[],[],[],0⟩ 0 0 []:=⟨.inl ⟨rfl,rfl⟩,rfl,rfl,rfl⟩
  have R:SRd C.N ⟨false,false,0,0,false,0,0,[],[],[],0⟩ [] 0 []/\(SL.bg ⟨false,false,0,0,false,0,0,[],[],[],0⟩).length=0:=⟨⟨rfl,rfl,rfl,rfl,rfl,rfl,rfl,fun j hj=>absurd hj (by simp),fun j hj=>absurd hj (by simp),fun j hj=>absurd hj (by simp)⟩,rfl⟩
  rcases Nat.eq_zero_or_pos (C.sn t)with c|c
  ·refine .inr ⟨c.symm,rfl,.inl rfl,?_⟩
   rw [K.z c]
   split
   ·exact F
   ·exact R
  ·obtain ⟨k1,k2⟩:=K.st c
   refine .inl ⟨c,.inl rfl,sgLen_pos _,?_⟩
   rw [k1,k2]
   cases hW:C.isW t with
   |true=>exact F
   |false=>exact R
end
end Go.Proofs.YtmhfpjnkjlhbpaaGreatDoor
