/- law19: awake. Marks (plain): who begins a call ends it before it begins another one. barrier (plain): what the calls of threads say that enter it: nobody left ahead of the last one. -/
import Derived.Test.YtmhfpjnkjlhbpaaGreatDoorQf34
import Derived.Test.YtmhfpjnkjlhbpaaGreatDoorQf31
import Derived.Test.YtmhfpjnkjlhbpaaGreatDoorQf24
namespace Go.Proofs.YtmhfpjnkjlhbpaaGreatDoor
open Go.ChangeShapes Go.WideShapes Go.ChangeAt Go.RowKit Go.Deep
set_option linter.unusedVariables false
set_option maxRecDepth 100000
set_option linter.unusedSimpArgs false
theorem read2_len:(BB.e.sread 16 2).close.out.length=10:=by kernel_rfl
set_option maxHeartbeats 1000000 in
theorem awake19 (W:World) (hT:Tab W):Calls Tryz.prog 14 #[] W fun e W'=>e= .returned (.bool true)/\Below W.heap.size W W':=by
 have cC:=code_read 2 1 16 0 0 (by decide) (by decide) (by decide) (by decide) (by decide) W hT
 go_enter Tryz.func14,Tryz.ntmps14
 go_wp2_with fail
 refine cC.mono ?_
 rintro e W1 ⟨⟨v,rfl,og,cap,cs,rfl,_⟩,hB⟩
 rw [read2_len]
 clear cC
 go_wp2
 go_ret
 exact ⟨rfl,hB⟩
def mkK (S:Nat->Bool) (c:Option Nat) (k:Nat):Option Nat:=match c with
 |none=>none
 |some 0=>if k % 2=0/\S (k/2)=true then some (k/2+1)else none
 |some (s+1)=>if k=2*s+1 then some 0 else none
def mkQ (S:Nat->Bool) (t:Nat) (c:Option Nat) (x:Evt):Option Nat:=if x.kind=7/\x.who=(t:Int)then mkK S c x.k.toNat else c
def mkF (S:Nat->Bool) (t:Nat) (l:List Evt):Option Nat:=l.foldl (mkQ S t) (some 0)
theorem mkF_snoc (S:Nat->Bool) (t:Nat) (l:List Evt) (x:Evt):mkF S t (l++[x])=mkQ S t (mkF S t l) x:=by unfold mkF;rw [List.foldl_append];rfl
theorem mkF_quiet {S:Nat->Bool} {t:Nat} {l m:List Evt} (h: ∀x∈m,x.kind≠7∨x.who≠(t:Int)):mkF S t (l++m)=mkF S t l:=by
 induction m generalizing l with
 |nil=>rw [List.append_nil]
 |cons x m ih=>
  rw [show l++x::m=(l++[x])++m by simp,ih (fun y hy=>h y (by simp [hy])),mkF_snoc]
  unfold mkQ
  rw [if_neg (fun q=>(h x (by simp)).elim (fun z=>z q.1) (fun z=>z q.2))]
def opK (S:Nat->Bool) (c:Option Nat):Op->Option Nat
 | .mark k=>mkK S c k
 |_=>c
def icA (S:Nat->Bool) (l:List Op):Option Nat:=l.foldl (opK S) (some 0)
def ic (S:Nat->Bool) (l:List Op) (p:Nat):Option Nat:=icA S (l.take p)
theorem ic_succ {S:Nat->Bool} {l:List Op} {p:Nat} {op:Op} (h:l[p]?=some op):ic S l (p+1)=opK S (ic S l p) op:=by
 obtain ⟨h1,h2⟩:=List.getElem?_eq_some_iff.1 h
 unfold ic icA
 rw [List.take_succ_eq_append_getElem h1,List.foldl_append,h2];rfl
def Op.goes:Op->Option Nat
 | .jump k| .zero _ k| .some _ k=>Option.some k
 |_=>none
structure MkOk (S:Nat->Bool) (l:List Op):Prop where
 jump: ∀p op k,l[p]?=some op->op.goes=some k->k<=l.length/\ic S l k=ic S l p
 ok: ∀p,p<=l.length->ic S l p≠none
def icS (S:Nat->Bool):Option Nat->List Op->List (Option Nat)
 |c,[]=>[c]
 |c,o::l=>c::icS S (opK S c o) l
theorem icS_get (S:Nat->Bool) (l:List Op): ∀(c:Option Nat) (p:Nat),p<=l.length->(icS S c l)[p]?=some ((l.take p).foldl (opK S) c):=by
 induction l with
 |nil=>intro c p hp;obtain rfl:p=0:=Nat.le_zero.1 hp;rfl
 |cons o l ih=>
  intro c p hp
  cases p with
  |zero=>rfl
  |succ p=>
   show (icS S (opK S c o) l)[p]?=_
   rw [ih _ p (by simpa using hp)];rfl
def chkG (C:List (Option Nat)):List Op->List (Option Nat)->Bool
 |[],_=>true
 |o::l,c::cs=>(match o.goes with
   |none=>true
   |some k=>C[k]?==some c)&&chkG C l cs
 |_::_,[]=>false
def chkM (S:Nat->Bool) (l:List Op):Bool:=(icS S (some 0) l).all Option.isSome&&chkG (icS S (some 0) l) l (icS S (some 0) l)
theorem icS_len (S:Nat->Bool) (l:List Op): ∀c,(icS S c l).length=l.length+1:=by
 induction l with
 |nil=>intro c;rfl
 |cons o l ih=>intro c;show (icS S (opK S c o) l).length+1=_;rw [ih];rfl
theorem chkG_at {C:List (Option Nat)}: ∀{l:List Op} {cs:List (Option Nat)},chkG C l cs=true-> ∀p op k,l[p]?=some op->op.goes=some k->C[k]?=cs[p]?/\p<cs.length
 |[],_,_,p,op,k,h1,_=>by simp at h1
 |_::_,[],h,_,_,_,_,_=>by cases h
 |o::l,c::cs,h,p,op,k,h1,h2=>by
  unfold chkG at h
  rw [Bool.and_eq_true]at h
  cases p with
  |zero=>
   obtain rfl:o=op:=by simpa using h1
   rw [h2]at h
   exact ⟨by simpa using h.1,by simp⟩
  |succ p=>
   obtain ⟨a,b⟩:=chkG_at h.2 p op k (by simpa using h1) h2
   exact ⟨by simpa using a,by simpa using b⟩
theorem chkM_ok {S:Nat->Bool} {l:List Op} (h:chkM S l=true):MkOk S l:=by
 unfold chkM at h
 rw [Bool.and_eq_true,List.all_eq_true]at h
 have g: ∀p,p<=l.length->(icS S (some 0) l)[p]?=some (ic S l p):=fun p hp=>icS_get S l _ p hp
 refine ⟨fun p op k h1 h2=>?_,fun p hp=>?_⟩
 ·obtain ⟨a,b⟩:=chkG_at h.2 p op k h1 h2
  have hp:p<l.length:=(List.getElem?_eq_some_iff.1 h1).1
  rw [g p (by omega)]at a
  have hk:=(List.getElem?_eq_some_iff.1 a).1
  rw [icS_len]at hk
  rw [g k (by omega)]at a
  exact ⟨by omega,Option.some.inj a⟩
 ·have :=h.1 (ic S l p) (List.mem_of_getElem? (g p hp))
  intro e
  rw [e]at this
  cases this
structure Flat (B:MB) (t:Nat) (l:List Op):Prop where
 len:(B.codes.getD t cdd).len=l.length
 F: ∀(p:Nat) (op:Op),l[p]?=some op->(B.codes.getD t cdd).F p=op.ins
 ok: ∀op∈l,rightB op.ins (B.codes.getD t cdd).len=true/\ ∀x,op.word=some x->x<B.m
theorem piece_at {rd:Nat} {bs:Nat->Nat} {ln:Nat->Nat} (h0:bs 0=0) (h: ∀n,n<rd->bs (n+1)=bs n+ln n) (p:Nat) (hp:p<bs rd): ∃n o,n<rd/\o<ln n/\p=bs n+o:=by
 induction rd with
 |zero=>omega
 |succ rd ih=>
  rcases Nat.lt_or_ge p (bs rd)with c|c
  ·obtain ⟨n,o,h1,h2⟩:=ih (fun n hn=>h n (by omega)) c
   exact ⟨n,o,by omega,h2⟩
  ·have :=h rd (by omega)
   exact ⟨rd,p-bs rd,by omega,by omega,by omega⟩
theorem Coded.flat {B:MB} {t rd:Nat} {bs:Nat->Nat} {code:Nat->List Op} (h:Coded B t rd bs code) (h0:bs 0=0):Flat B t (codeOf code rd):=by
 refine ⟨by rw [h.len,codeOf_len h0 h.next],fun p op hp=>?_,fun op hop=>?_⟩
 ·have hl:=(List.getElem?_eq_some_iff.1 hp).1
  rw [codeOf_len h0 h.next]at hl
  obtain ⟨n,o,hn,ho,rfl⟩:=piece_at h0 h.next p hl
  have e:=List.getElem?_eq_getElem ho
  rw [codeOf_get h0 h.next n hn o _ e]at hp
  rw [h.F n hn o _ e,Option.some.inj hp]
 ·obtain ⟨n,hn,h2⟩:=codeOf_mem hop
  exact h.ok n hn op h2
theorem Flat.at_ {B:MB} {s:Mst} {t:Nat} {l:List Op} (h:Flat B t l) (hw:Wf B s) (ht:t<B.codes.length) {p:Nat} {r:Nat->Int} {op:Op} (hop:l[p]?=some op) (hth:thM s t=⟨((p:Nat):Int),r,0⟩):At B s t p r op:=by
 obtain ⟨h1,h2⟩:=List.getElem?_eq_some_iff.1 hop
 have hm:op∈l:=by rw [<-h2];exact List.getElem_mem h1
 exact ⟨hth,by rw [h.len];exact h1,h.F p op hop,(h.ok op hm).1,hw.th ht,hw.bf ht,hw.m,(h.ok op hm).2,hw.room,fun b hb e he=>(hw.ok.ok.buf b hb e he).1,fun x hx=>hw.ok.ok.slp.lo x hx⟩
theorem exec_marks (S:Nat->Bool) (t:Nat) (v:Vw) (p:Nat) (r:Nat->Int) (op:Op): ∃m,(execV t v p r op).evs=v.evs++m/\(∀u,u≠t->((execV t v p r op).th u).pc=(v.th u).pc)/\
 (((execV t v p r op).th t).pc=((p+1:Nat):Int)∨ ∃k,op.goes=some k/\((execV t v p r op).th t).pc=(k:Int))/\(∀x∈m,x.who=(t:Int))/\mkF S t (v.evs++m)=opK S (mkF S t v.evs) op:=by
 have quiet: ∀{m:List Evt} {c:Op},(∀x∈m,x.kind≠7)->opK S (mkF S t v.evs) c=mkF S t v.evs->mkF S t (v.evs++m)=opK S (mkF S t v.evs) c:=fun h e=>by rw [e];exact mkF_quiet (fun x hx=> .inl (h x hx))
 have mv: ∀{th:Th} {b:List Ent} {mem:Nat->Int} {l:List Evt},((v.mv t th b mem l).th t)=th/\ ∀u,u≠t->((v.mv t th b mem l).th u).pc=(v.th u).pc:=fun {th b mem l}=>⟨upd_same _ _ _,fun u hu=>congrArg Th.pc (upd_ne v.th t th hu)⟩
 have n0: ∀x∈([]:List Evt),x.who=(t:Int):=fun x hx=>by cases hx
 have n1: ∀{y:Evt},y.who=(t:Int)-> ∀x∈[y],x.who=(t:Int):=fun h x hx=>by rw [List.mem_singleton.1 hx];exact h
 have k0: ∀x∈([]:List Evt),x.kind≠7:=fun x hx=>by cases hx
 have k1: ∀{y:Evt},y.kind≠7-> ∀x∈[y],x.kind≠7:=fun h x hx=>by rw [List.mem_singleton.1 hx];exact h
 cases op with
 |set a k=>exact ⟨_,rfl,mv.2,.inl (by rw [show execV t v p r (.set a k)=v.mv t _ _ _ _ from rfl,mv.1]),n0,quiet k0 rfl⟩
 |move a b=>exact ⟨_,rfl,mv.2,.inl (by rw [show execV t v p r (.move a b)=v.mv t _ _ _ _ from rfl,mv.1]),n0,quiet k0 rfl⟩
 |add a b c=>exact ⟨_,rfl,mv.2,.inl (by rw [show execV t v p r (.add a b c)=v.mv t _ _ _ _ from rfl,mv.1]),n0,quiet k0 rfl⟩
 |and a b c=>exact ⟨_,rfl,mv.2,.inl (by rw [show execV t v p r (.and a b c)=v.mv t _ _ _ _ from rfl,mv.1]),n0,quiet k0 rfl⟩
 |same a b c=>exact ⟨_,rfl,mv.2,.inl (by rw [show execV t v p r (.same a b c)=v.mv t _ _ _ _ from rfl,mv.1]),n0,quiet k0 rfl⟩
 |jump k=>exact ⟨_,rfl,mv.2,.inr ⟨k,rfl,by rw [show execV t v p r (.jump k)=v.mv t _ _ _ _ from rfl,mv.1]⟩,n0,quiet k0 rfl⟩
 |zero a k=>
  refine ⟨_,rfl,mv.2,?_,n0,quiet k0 rfl⟩
  rw [show execV t v p r (.zero a k)=v.mv t ⟨if r a=0 then (k:Int)else ((p+1:Nat):Int),r,0⟩ _ _ _ from rfl,mv.1]
  dsimp only
  split
  ·exact .inr ⟨k,rfl,rfl⟩
  ·exact .inl rfl
 |some a k=>
  refine ⟨_,rfl,mv.2,?_,n0,quiet k0 rfl⟩
  rw [show execV t v p r (.some a k)=v.mv t ⟨if r a=0 then ((p+1:Nat):Int)else (k:Int),r,0⟩ _ _ _ from rfl,mv.1]
  dsimp only
  split
  ·exact .inl rfl
  ·exact .inr ⟨k,rfl,rfl⟩
 |load a x=>exact ⟨_,rfl,mv.2,.inl (by rw [show execV t v p r (.load a x)=v.mv t _ _ _ _ from rfl,mv.1]),n1 rfl,quiet (k1 (by show (1:Int)≠7;decide)) rfl⟩
 |store a x=>exact ⟨_,rfl,mv.2,.inl (by rw [show execV t v p r (.store a x)=v.mv t _ _ _ _ from rfl,mv.1]),n1 rfl,quiet (k1 (by show (2:Int)≠7;decide)) rfl⟩
 |swap a x=>exact ⟨_,rfl,mv.2,.inl (by rw [show execV t v p r (.swap a x)=v.mv t _ _ _ _ from rfl,mv.1]),n1 rfl,quiet (k1 (by show (4:Int)≠7;decide)) rfl⟩
 |fetch a x=>exact ⟨_,rfl,mv.2,.inl (by rw [show execV t v p r (.fetch a x)=v.mv t _ _ _ _ from rfl,mv.1]),n1 rfl,quiet (k1 (by show (4:Int)≠7;decide)) rfl⟩
 |cas a c x=>
  by_cases g:v.mem x=r a
  ·rw [show execV t v p r (.cas a c x)=_ from if_pos g]
   exact ⟨_,rfl,mv.2,.inl (by rw [mv.1]),n1 rfl,quiet (k1 (by show (4:Int)≠7;decide)) rfl⟩
  ·rw [show execV t v p r (.cas a c x)=_ from if_neg g]
   exact ⟨_,rfl,mv.2,.inl (by rw [mv.1]),n1 rfl,quiet (k1 (by show (4:Int)≠7;decide)) rfl⟩
 |out a=>exact ⟨_,rfl,mv.2,.inl (by rw [show execV t v p r (.out a)=v.mv t _ _ _ _ from rfl,mv.1]),n1 rfl,quiet (k1 (by show (6:Int)≠7;decide)) rfl⟩
 |wait a x=>
  by_cases g:v.mem x=r a
  ·rw [show execV t v p r (.wait a x)=_ from if_pos g]
   exact ⟨_,rfl,fun u hu=>congrArg Th.pc (upd_ne v.th t _ hu),.inl (congrArg Th.pc (upd_same v.th t _)),n1 rfl,quiet (k1 (by show (8:Int)≠7;decide)) rfl⟩
  ·rw [show execV t v p r (.wait a x)=_ from if_neg g]
   exact ⟨_,rfl,mv.2,.inl (by rw [mv.1]),n1 rfl,quiet (k1 (by show (8:Int)≠7;decide)) rfl⟩
 |wake a x=>
  refine ⟨_,rfl,fun u hu=>?_,.inl (congrArg Th.pc (upd_same _ _ _)),n1 rfl,quiet (k1 (by show (9:Int)≠7;decide)) rfl⟩
  have e:(execV t v p r (.wake a x)).th u=runV (wk (x:Int) (r a).toNat v.slp).2 v.th u:=upd_ne _ _ _ hu
  rw [e]
  unfold runV
  split<;>rfl
 |mark k=>
  refine ⟨_,rfl,mv.2,.inl (by rw [show execV t v p r (.mark k)=v.mv t _ _ _ _ from rfl,mv.1]),n1 rfl,?_⟩
  rw [mkF_snoc]
  unfold mkQ
  rw [if_pos ⟨rfl,rfl⟩]
  show mkK S _ ((k:Int).toNat)=mkK S _ k
  rw [Int.toNat_natCast]
def MkI (n:Nat) (S:Nat->Nat->Bool) (L:Nat->List Op) (v:Vw):Prop:= ∀t,t<n-> ∃p:Nat,(v.th t).pc=(p:Int)/\p<=(L t).length/\mkF (S t) t v.evs=ic (S t) (L t) p
section
variable {B:MB} {s:Mst} {n:Nat} {S:Nat->Nat->Bool} {L:Nat->List Op} {v v':Vw}
theorem MkI.stay (H:MkI n S L v) {t:Nat} {m:List Evt} (hev:v'.evs=v.evs++m) (hm: ∀x∈m,x.who=(t:Int)) (hpc: ∀u,u≠t->(v'.th u).pc=(v.th u).pc) (ht:t<n-> ∃p:Nat,(v'.th t).pc=(p:Int)/\p<=(L t).length/\mkF (S t) t v'.evs=ic (S t) (L t) p):MkI n S L v':=fun u hu=>by
 by_cases c:u=t
 ·subst c;exact ht hu
 ·obtain ⟨p,h1,h2,h3⟩:=H u hu
  refine ⟨p,(hpc u c).trans h1,h2,?_⟩
  rw [hev,mkF_quiet (fun x hx=> .inr (by rw [hm x hx];omega))];exact h3
theorem MkI.calm (H:MkI n S L v) {t:Nat} {m:List Evt} (hev:v'.evs=v.evs++m) (hm: ∀x∈m,x.who=(t:Int)/\x.kind≠7) (hpc: ∀u,(v'.th u).pc=(v.th u).pc):MkI n S L v':=
 H.stay hev (fun x hx=>(hm x hx).1) (fun u _=>hpc u) (fun ht=>by
  obtain ⟨p,h1,h2,h3⟩:=H t ht
  exact ⟨p,(hpc t).trans h1,h2,by rw [hev,mkF_quiet (fun x hx=> .inl (hm x hx).2)];exact h3⟩)
theorem MkI.pick (hw:Wf B s) (hL: ∀t,t<B.codes.length->Flat B t (L t)/\MkOk (S t) (L t)) (H:MkI B.codes.length S L (vw s)) (x:Int×Int):MkI B.codes.length S L (vw (tPick B s x)):=by
 have mv: ∀{t:Nat} {th:Th} {b:List Ent} {mem:Nat->Int} {l:List Evt},th.pc=((vw s).th t).pc-> ∀u,(((vw s).mv t th b mem l).th u).pc=((vw s).th u).pc:=fun {t th b mem l} e u=>by
  by_cases c:u=t
  ·rw [c];exact (congrArg Th.pc (upd_same (vw s).th t th)).trans e
  ·exact congrArg Th.pc (upd_ne (vw s).th t th c)
 refine pick_keeps (I:=MkI B.codes.length S L) hw H (fun t ht hb=>?_) (fun t ht hst=>?_) (fun t ht _=>?_) x
 ·unfold flushV
  cases hbt:(vw s).bf t with
  |nil=>exact absurd hbt hb
  |cons y l=>exact H.calm (m:=[⟨3,(t:Int),0,y.1,y.2,0,0,false⟩]) rfl (fun x hx=>by rw [List.mem_singleton.1 hx];exact ⟨rfl,by show (3:Int)≠7;decide⟩) (fun _=>rfl)
 ·obtain ⟨p,h1,h2,h3⟩:=H t ht
  obtain ⟨hF,hM⟩:=hL t ht
  rcases Nat.lt_or_ge p (L t).length with c|c
  ·obtain ⟨op,hop⟩: ∃op,(L t)[p]?=some op:=⟨_,List.getElem?_eq_getElem c⟩
   refine .inl ⟨p,(thM s t).regs,op,hF.at_ hw ht hop (by
    have h1':(thM s t).pc=(p:Int):=h1
    rw [<-hst,<-h1']),fun _ _=>?_⟩
   obtain ⟨m,e1,e2,e3,e4,e5⟩:=exec_marks (S t) t (vw s) p (thM s t).regs op
   refine H.stay e1 e4 e2 (fun _=>?_)
   rw [e1,e5,h3,<-ic_succ hop]
   rcases e3 with e3|⟨k,g1,g2⟩
   ·exact ⟨p+1,e3,c,rfl⟩
   ·obtain ⟨q1,q2⟩:=hM.jump p op k hop g1
    refine ⟨k,g2,q1,?_⟩
    rw [q2,ic_succ hop]
    cases op<;>first|rfl|cases g1
  ·refine .inr ⟨by rw [hF.len];have h1':(thM s t).pc=(p:Int):=h1;omega,?_⟩
   exact H.calm (m:=[⟨12,(t:Int),(thM s t).pc,0,0,0,0,false⟩]) rfl (fun x hx=>by rw [List.mem_singleton.1 hx];exact ⟨rfl,by show (12:Int)≠7;decide⟩) (mv rfl)
 ·exact H.calm (m:=[⟨11,(t:Int),0,0,0,0,0,false⟩]) rfl (fun x hx=>by rw [List.mem_singleton.1 hx];exact ⟨rfl,by show (11:Int)≠7;decide⟩) (mv (b:=[]) (mem:=(vw s).mem) (l:=[]) rfl)
theorem mk_run (hB:MBok B) (hL: ∀t,t<B.codes.length->Flat B t (L t)/\MkOk (S t) (L t)) (l:List (Int×Int)) (hw:Wf B s) (H:MkI B.codes.length S L (vw s)):MkI B.codes.length S L (vw (tRun B s l)):=
 (run_keeps (I:=fun s=>MkI B.codes.length S L (vw s)) hB (fun s x hw H=>MkI.pick hw hL H x) l s hw H).2
theorem mk_start (h1: ∀t,v.th t=tha) (h4:v.evs=[]):MkI n S L v:=fun t _=>⟨0,by rw [h1];rfl,Nat.zero_le _,by rw [h4];rfl⟩
theorem MkI.fine (H:MkI n S L v) (hL: ∀t,t<n->MkOk (S t) (L t)) {t:Nat} (ht:t<n):mkF (S t) t v.evs≠none:=by
 obtain ⟨p,_,h2,h3⟩:=H t ht
 rw [h3]
 exact (hL t ht).ok p h2
end
theorem mkQ_none (S:Nat->Bool) (t:Nat) (x:Evt):mkQ S t none x=none:=by unfold mkQ mkK;split<;>rfl
theorem mkF_take {S:Nat->Bool} {t:Nat} {l:List Evt} (h:mkF S t l≠none) (n:Nat):mkF S t (l.take n)≠none:=fun e=>h (by
 have :mkF S t l=(l.drop n).foldl (mkQ S t) (mkF S t (l.take n)):=by unfold mkF;rw [<-List.foldl_append,List.take_append_drop]
 rw [this,e]
 generalize l.drop n=m
 induction m with
 |nil=>rfl
 | cons x m ih => exact (congrArg (List.foldl (mkQ S t) · m) (mkQ_none S t x)).trans ih)
theorem take_getD {l:List Evt} {n:Nat} (h:n<l.length):l.take (n+1)=l.take n++[l.getD n ev0]:=by
 rw [List.take_succ_eq_append_getElem h,List.getD_eq_getElem?_getD,List.getElem?_eq_getElem h];rfl
theorem site_of {S:Nat->Bool} {t:Nat} {l:List Evt} (h:mkF S t l≠none) {i:Nat} (hi:i<l.length) (h7:(l.getD i ev0).kind=7) (hw:(l.getD i ev0).who=(t:Int)) (he:(l.getD i ev0).k.toNat % 2=0):S ((l.getD i ev0).k.toNat/2)=true:=by
 have h1:=mkF_take h (i+1)
 rw [take_getD hi,mkF_snoc]at h1
 unfold mkQ at h1
 rw [if_pos ⟨h7,hw⟩]at h1
 unfold mkK at h1
 split at h1
 ·exact absurd rfl h1
 ·by_cases z:(l.getD i ev0).k.toNat % 2=0/\S ((l.getD i ev0).k.toNat/2)=true
  ·exact z.2
  ·exact absurd (if_neg z) h1
 ·exact absurd (if_neg (by omega)) h1
theorem ended_of {S:Nat->Bool} {t:Nat} {l:List Evt} (hk:EvK l) (h:mkF S t l≠none) {i j:Nat} (hij:i<j) (hj:j<l.length) (hki:(evF l i).kind=7) (hei:(evF l i).k % 2=0) (hwi:(evF l i).who=(t:Int)) (hkj:(evF l j).kind=7) (hej:(evF l j).k % 2=0) (hwj:(evF l j).who=(t:Int)):0<=(oneS (evF l) l.length i).1.ended:=by
 have at_: ∀e,e<l.length->(evF l e).kind=(l.getD e ev0).kind/\(evF l e).who=(l.getD e ev0).who/\(evF l e).k=(l.getD e ev0).k:=fun e he=>by
  obtain ⟨x,h1,h2,h3,h4,h5⟩:=evF_at hk he
  have :l.getD e ev0=x:=by rw [List.getD_eq_getElem?_getD,h1];rfl
  rw [this];exact ⟨h2,h3,h5⟩
 have knn: ∀e,e<l.length->0<=(l.getD e ev0).k:=fun e he=>(hk _ (getD_mem he)).1
 have st: ∀d,i+1+d<=l.length->((oneS (evF l) (i+1+d) i).2=true/\mkF S t (l.take (i+1+d))=some (((evF l i).k/2).toNat+1))∨((oneS (evF l) (i+1+d) i).2=false/\0<=(oneS (evF l) (i+1+d) i).1.ended):=by
  intro d
  induction d with
  |zero=>
   intro hd
   refine .inl ⟨by rw [Nat.add_zero,oneS_new],?_⟩
   have hi:i<l.length:=by omega
   have h1:=mkF_take h (i+1)
   rw [Nat.add_zero]
   rw [take_getD hi,mkF_snoc]at h1⊢
   obtain ⟨a1,a2,a3⟩:=at_ i hi
   have hn:=knn i hi
   unfold mkQ at h1⊢
   rw [if_pos ⟨by rw [<-a1];exact hki,by rw [<-a2];exact hwi⟩]at h1⊢
   rw [a3]at hei⊢
   unfold mkK at h1⊢
   split at h1
   ·exact absurd rfl h1
   ·by_cases z:(l.getD i ev0).k.toNat % 2=0/\S ((l.getD i ev0).k.toNat/2)=true
    ·rw [if_pos z]
     congr 2
     omega
    ·exact absurd (if_neg z) h1
   ·rename_i s _
    exfalso
    refine h1 (if_neg ?_)
    omega
  |succ d ih=>
   intro hd
   have hlt:i+1+d<l.length:=by omega
   obtain ⟨a1,a2,a3⟩:=at_ (i+1+d) hlt
   have hw:=oneS_whoB (evF l) (i+1+d) i
   have hn:=knn (i+1+d) hlt
   have hn2:=knn i (by omega)
   have hb3:=(at_ i (by omega)).2.2
   rw [<-Nat.add_assoc,oneS_succ (evF l) _ i (by omega)]
   rcases ih (by omega)with ⟨o,hm⟩|⟨o,he⟩
   ·have h1:=mkF_take h (i+1+d+1)
    rw [take_getD hlt,mkF_snoc]at h1⊢
    unfold ostep
    rw [if_neg (by rw [o];decide)]
    dsimp only
    by_cases c1:(evF l (i+1+d)).who=(t:Int)
    ·rw [if_neg (by rw [hw.1,c1,hwi];simp)]
     by_cases c2:(evF l (i+1+d)).kind=7
     ·rw [if_neg (by simpa using c2)]
      unfold mkQ at h1⊢
      rw [if_pos ⟨by rw [<-a1];exact c2,by rw [<-a2];exact c1⟩,hm]at h1
      unfold mkK at h1
      dsimp only at h1
      have hk1:(l.getD (i+1+d) ev0).k.toNat=2*((evF l i).k/2).toNat+1:=by
       by_cases z:(l.getD (i+1+d) ev0).k.toNat=2*((evF l i).k/2).toNat+1
       ·exact z
       ·exact absurd (if_neg z) h1
      have hk2:(evF l (i+1+d)).k=2*((evF l i).k/2)+1:=by rw [a3];rw [hb3]at hk1⊢;omega
      rw [if_neg (by omega),if_pos (by rw [hw.2.2];omega)]
      exact .inr ⟨rfl,by show (0:Int)<=((i+1+d:Nat):Int);omega⟩
     ·rw [if_pos c2]
      refine .inl ⟨by split<;>first|rfl|exact o,?_⟩
      unfold mkQ
      rw [if_neg (fun q=>c2 (by rw [a1];exact q.1))];exact hm
    ·rw [if_pos (by rw [hw.1,hwi];exact c1)]
     refine .inl ⟨o,?_⟩
     unfold mkQ
     rw [if_neg (fun q=>c1 (by rw [a2];exact q.2))];exact hm
   ·rw [ostep_off o]
    exact .inr ⟨o,he⟩
 have hc:(oneS (evF l) (i+1+(j-i)) i).2=false/\0<=(oneS (evF l) (i+1+(j-i)) i).1.ended:=by
  rcases st (j-i) (by omega)with ⟨o,hm⟩|z
  ·exfalso
   have e:i+1+(j-i)=j+1:=by omega
   rw [e]at hm o
   have h1:=mkF_take h (j+1)
   obtain ⟨a1,a2,a3⟩:=at_ j hj
   rw [oneS_succ (evF l) _ i hij]at o
   have hw:=oneS_whoB (evF l) j i
   unfold ostep at o
   by_cases q:(oneS (evF l) j i).2=false
   ·rw [if_pos q]at o;rw [q]at o;cases o
   ·rw [if_neg q]at o
    dsimp only at o
    rw [if_neg (by rw [hw.1,hwj,hwi];simp),if_neg (by simpa using hkj),if_pos hej]at o
    cases o
  ·exact z
 have stay: ∀d,oneS (evF l) (i+1+(j-i)+d) i=oneS (evF l) (i+1+(j-i)) i:=fun d=>by
  induction d with
  |zero=>rfl
  |succ d ih=>rw [<-Nat.add_assoc,oneS_succ (evF l) _ i (by omega),ih,ostep_off hc.1]
 have :=stay (l.length-(i+1+(j-i)))
 rw [show i+1+(j-i)+(l.length-(i+1+(j-i)))=l.length by omega]at this
 rw [this]
 exact hc.2
def cF (f:Nat->Bool) (n:Nat):Nat:=((List.range n).filter f).length
theorem cF_succ (f:Nat->Bool) (n:Nat):cF f (n+1)=cF f n+(if f n=true then 1 else 0):=by
 unfold cF
 rw [List.range_succ,List.filter_append,List.length_append]
 by_cases h:f n=true
 ·rw [if_pos h,List.filter_cons_of_pos h];rfl
 ·rw [if_neg h,List.filter_cons_of_neg h];rfl
theorem cF_congr {f g:Nat->Bool} {n:Nat} (h: ∀e,e<n->f e=g e):cF f n=cF g n:=by
 induction n with
 |zero=>rfl
 |succ n ih=>rw [cF_succ,cF_succ,ih (fun e he=>h e (by omega)),h n (by omega)]
theorem cF_mono (f:Nat->Bool) {n m:Nat} (h:n<=m):cF f n<=cF f m:=by
 induction m with
 |zero=>rw [Nat.le_zero.1 h];exact Nat.le_refl _
 |succ m ih=>
  rcases Nat.lt_or_ge n (m+1)with c|c
  ·rw [cF_succ];have :=ih (by omega);omega
  ·rw [Nat.le_antisymm h c];exact Nat.le_refl _
theorem take_filter (p:Nat->Bool): ∀(n k:Nat),k<((List.range n).filter p).length-> ∃e,e<n/\p e=true/\((List.range n).filter p)[k]?=some e/\((List.range n).filter p).take k=(List.range e).filter p
 |0,k,h=>absurd h (by simp)
 |n+1,k,h=>by
  rw [List.range_succ,List.filter_append]at h⊢
  rcases Nat.lt_or_ge k ((List.range n).filter p).length with c|c
  ·obtain ⟨e,h1,h2,h3,h4⟩:=take_filter p n k c
   exact ⟨e,by omega,h2,by rw [List.getElem?_append_left c];exact h3,by rw [List.take_append_of_le_length (by omega)];exact h4⟩
  ·by_cases hp:p n=true
   ·rw [List.filter_cons_of_pos hp,List.length_append]at h
    have hk:k=((List.range n).filter p).length:=by
     have :(n::List.filter p []).length=1:=rfl
     omega
    subst hk
    rw [List.filter_cons_of_pos hp]
    exact ⟨n,by omega,hp,by rw [List.getElem?_append_right (Nat.le_refl _),Nat.sub_self];rfl,List.take_left' rfl⟩
   ·rw [List.filter_cons_of_neg hp,List.length_append]at h
    have :([]:List Nat).length=0:=rfl
    simp at h
    omega
theorem cF_and (p Q:Nat->Bool) (n:Nat):(((List.range n).filter p).filter Q).length=cF (fun e=>p e&&Q e) n:=by
 unfold cF
 rw [List.filter_filter]
 congr 1
 exact List.filter_congr (fun e _=>Bool.and_comm _ _)
end Go.Proofs.YtmhfpjnkjlhbpaaGreatDoor
