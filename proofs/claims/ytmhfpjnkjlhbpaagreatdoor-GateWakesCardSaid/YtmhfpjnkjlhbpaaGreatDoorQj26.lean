/- Machines of threads (plain): what a pick does, seen as functions of threads and words. Machines of threads (plain): codes of rounds; what holds whatever is picked. A machine with buffers (plain): the numbers that its events tell are words; how many events there are. -/
import Derived.Test.YtmhfpjnkjlhbpaaGreatDoorQj25
namespace Go.Proofs.YtmhfpjnkjlhbpaaGreatDoor
open Go.ChangeShapes Go.WideShapes Go.ChangeAt Go.RowKit Go.Deep
set_option linter.unusedVariables false
set_option maxRecDepth 100000
set_option linter.unusedSimpArgs false
def upd {α:Type} (f:Nat->α) (t:Nat) (x:α):Nat->α:=fun u=>if u=t then x else f u
theorem upd_same {α:Type} (f:Nat->α) (t:Nat) (x:α):upd f t x t=x:=if_pos rfl
theorem upd_ne {α:Type} (f:Nat->α) (t:Nat) (x:α) {u:Nat} (h:u≠t):upd f t x u=f u:=if_neg h
structure Vw where
 th:Nat->Th
 bf:Nat->List Ent
 mem:Nat->Int
 slp:List Slp
 evs:List Evt
def memM (s:Mst):Nat->Int:=fun a=>s.mem.getD a 0
def vw (s:Mst):Vw:=⟨thM s,bufM s,memM s,s.slp,s.evs⟩
def Vw.mv (v:Vw) (t:Nat) (th:Th) (b:List Ent) (mem:Nat->Int) (l:List Evt):Vw:=⟨upd v.th t th,upd v.bf t b,mem,v.slp,v.evs++l⟩
def seeV (b:List Ent) (mem:Nat->Int) (x:Nat):Int:=if (fnB b (x:Int)).2=true then (fnB b (x:Int)).1 else mem x
theorem seeV_nil (mem:Nat->Int) (x:Nat):seeV [] mem x=mem x:=rfl
def runV (ws:List Int) (f:Nat->Th):Nat->Th:=fun u=>if (u:Int)∈ws then {f u with st:=0}else f u
def flushV (t:Nat) (v:Vw):Vw:=match v.bf t with
 |[]=>v
 |x::l=>⟨v.th,upd v.bf t l,upd v.mem x.1.toNat x.2,v.slp,v.evs++[⟨3,(t:Int),0,x.1,x.2,0,0,false⟩]⟩
inductive Op
 |set (a:Nat) (k:Int)|move (a b:Nat)|add (a b c:Nat)|and (a b c:Nat)|same (a b c:Nat)
 |jump (k:Nat)|zero (a k:Nat)|some (a k:Nat)|load (a x:Nat)|store (a x:Nat)|swap (a x:Nat)|fetch (a x:Nat)|cas (a c x:Nat)
 |out (a:Nat)|wait (a x:Nat)|wake (a x:Nat)|mark (k:Nat)
def Op.ins:Op->Ins
 | .set a k=>⟨1,a,0,0,k⟩
 | .move a b=>⟨2,a,b,0,0⟩
 | .add a b c=>⟨3,a,b,c,0⟩
 | .and a b c=>⟨6,a,b,c,0⟩
 | .same a b c=>⟨12,a,b,c,0⟩
 | .jump k=>⟨13,0,0,0,k⟩
 | .zero a k=>⟨14,a,0,0,k⟩
 | .some a k=>⟨15,a,0,0,k⟩
 | .load a x=>⟨16,a,8,0,x⟩
 | .store a x=>⟨17,a,8,0,x⟩
 | .swap a x=>⟨19,a,8,0,x⟩
 | .fetch a x=>⟨20,a,8,0,x⟩
 | .cas a c x=>⟨21,a,8,c,x⟩
 | .out a=>⟨22,a,0,0,0⟩
 | .wait a x=>⟨23,a,8,0,x⟩
 | .wake a x=>⟨24,a,8,0,x⟩
 | .mark k=>⟨27,7,0,0,k⟩
def Op.word:Op->Option Nat
 | .load _ x| .store _ x| .swap _ x| .fetch _ x| .cas _ _ x| .wait _ x| .wake _ x=>Option.some x
 |_=>none
def Op.drains:Op->Bool
 | .swap _ _| .fetch _ _| .cas _ _ _| .wait _ _| .wake _ _=>true
 |_=>false
def Op.stores:Op->Bool
 | .store _ _=>true
 |_=>false
def execV (t:Nat) (v:Vw) (p:Nat) (r:Nat->Int):Op->Vw
 | .set a k=>v.mv t ⟨((p+1:Nat):Int),updR r a k,0⟩ (v.bf t) v.mem []
 | .move a b=>v.mv t ⟨((p+1:Nat):Int),updR r a (r b),0⟩ (v.bf t) v.mem []
 | .add a b c=>v.mv t ⟨((p+1:Nat):Int),updR r a ((r b+r c)% 4294967296),0⟩ (v.bf t) v.mem []
 | .and a b c=>v.mv t ⟨((p+1:Nat):Int),updR r a (bits .and .u32 (r b) (r c)),0⟩ (v.bf t) v.mem []
 | .same a b c=>v.mv t ⟨((p+1:Nat):Int),updR r a (if r b=r c then 1 else 0),0⟩ (v.bf t) v.mem []
 | .jump k=>v.mv t ⟨(k:Int),r,0⟩ (v.bf t) v.mem []
 | .zero a k=>v.mv t ⟨if r a=0 then (k:Int)else ((p+1:Nat):Int),r,0⟩ (v.bf t) v.mem []
 | .some a k=>v.mv t ⟨if r a=0 then ((p+1:Nat):Int)else (k:Int),r,0⟩ (v.bf t) v.mem []
 | .load a x=>v.mv t ⟨((p+1:Nat):Int),updR r a (seeV (v.bf t) v.mem x),0⟩ (v.bf t) v.mem [⟨1,(t:Int),(p:Int),(x:Int),seeV (v.bf t) v.mem x,0,0,false⟩]
 | .store a x=>v.mv t ⟨((p+1:Nat):Int),r,0⟩ (v.bf t++[((x:Int),r a)]) v.mem [⟨2,(t:Int),(p:Int),(x:Int),r a,0,0,false⟩]
 | .swap a x=>v.mv t ⟨((p+1:Nat):Int),updR r a (v.mem x),0⟩ (v.bf t) (upd v.mem x (r a)) [⟨4,(t:Int),(p:Int),(x:Int),r a,v.mem x,0,true⟩]
 | .fetch a x=>v.mv t ⟨((p+1:Nat):Int),updR r a (v.mem x),0⟩ (v.bf t) (upd v.mem x ((v.mem x+r a)% 4294967296)) [⟨4,(t:Int),(p:Int),(x:Int),(v.mem x+r a)% 4294967296,v.mem x,0,true⟩]
 | .cas a c x=>if v.mem x=r a then v.mv t ⟨((p+1:Nat):Int),updR r a (v.mem x),0⟩ (v.bf t) (upd v.mem x (r c)) [⟨4,(t:Int),(p:Int),(x:Int),r c,v.mem x,0,true⟩]
    else v.mv t ⟨((p+1:Nat):Int),updR r a (v.mem x),0⟩ (v.bf t) v.mem [⟨4,(t:Int),(p:Int),(x:Int),v.mem x,v.mem x,0,false⟩]
 | .out a=>v.mv t ⟨((p+1:Nat):Int),r,0⟩ (v.bf t) v.mem [⟨6,(t:Int),(p:Int),0,r a,0,0,false⟩]
 | .wait a x=>if v.mem x=r a then {v.mv t ⟨((p+1:Nat):Int),updR r a 0,1⟩ (v.bf t) v.mem [⟨8,(t:Int),(p:Int),(x:Int),v.mem x,0,0,true⟩]with slp:=if slpE v.slp (t:Int)=0 then v.slp++[((t:Int),(x:Int))]else v.slp}
    else v.mv t ⟨((p+1:Nat):Int),updR r a 1,0⟩ (v.bf t) v.mem [⟨8,(t:Int),(p:Int),(x:Int),v.mem x,0,0,false⟩]
 | .wake a x=>let w:=wk (x:Int) (r a).toNat v.slp
    ⟨upd (runV w.2 v.th) t ⟨((p+1:Nat):Int),updR r a (w.2.length:Int),0⟩,v.bf,v.mem,w.1,v.evs++[⟨9,(t:Int),(p:Int),(x:Int),(w.2.length:Int),0,0,false⟩]⟩
 | .mark k=>v.mv t ⟨((p+1:Nat):Int),r,0⟩ (v.bf t) v.mem [⟨7,(t:Int),(p:Int),0,r 7,0,(k:Int),false⟩]
theorem getD_set_upd {α:Type} (l:List α) (t:Nat) (x d:α) (h:t<l.length):(fun u=>(l.set t x).getD u d)=upd (fun u=>l.getD u d) t x:=by
 funext u
 unfold upd
 by_cases c:u=t
 ·rw [if_pos c,c]
  simp [List.getD_eq_getElem?_getD,List.getElem?_set_self h]
 ·rw [if_neg c]
  simp [List.getD_eq_getElem?_getD,List.getElem?_set_ne (Ne.symm c)]
theorem set_same {α:Type} (l:List α) (i:Nat) (d:α):l.set i (l.getD i d)=l:=by
 refine List.ext_getElem? fun j=>?_
 by_cases c:i=j
 ·subst c
  rcases Nat.lt_or_ge i l.length with h|h
  ·rw [List.getElem?_set_self h,List.getD_eq_getElem?_getD,List.getElem?_eq_getElem h];rfl
  ·rw [List.set_eq_of_length_le h]
 ·rw [List.getElem?_set_ne c]
section
variable {s:Mst} {t:Nat}
theorem vw_set (ht:t<s.ths.length) (hb:t<s.bufs.length) (th:Th) (b:List Ent) (mem:List Int) (slp:List Slp) (evs:List Evt) (who:Int):
 vw ⟨s.ths.set t th,s.bufs.set t b,mem,slp,evs,who⟩=⟨upd (thM s) t th,upd (bufM s) t b,fun a=>mem.getD a 0,slp,evs⟩:=by
 unfold vw
 congr 1
 ·exact getD_set_upd s.ths t th tha ht
 ·exact getD_set_upd s.bufs t b [] hb
theorem vw_th (ht:t<s.ths.length) (hb:t<s.bufs.length) (th:Th) (mem:List Int) (slp:List Slp) (evs:List Evt) (who:Int):
 vw ⟨s.ths.set t th,s.bufs,mem,slp,evs,who⟩=⟨upd (thM s) t th,upd (bufM s) t (bufM s t),fun a=>mem.getD a 0,slp,evs⟩:=by
 have e:s.bufs.set t (bufM s t)=s.bufs:=set_same s.bufs t []
 have :=vw_set ht hb th (bufM s t) mem slp evs who
 rw [e]at this
 exact this
theorem vw_flush (t:Nat) (hl: ∀b∈s.bufs,∀e∈b,0<=e.1/\e.1<(s.mem.length:Int)):vw (tflush t s)=flushV t (vw s):=by
 unfold flushV
 show vw (tflush t s)=match bufM s t with
  |[]=>vw s
  |x::l=>_
 cases hb:bufM s t with
 |nil=>rw [tflush_nil hb]
 |cons x l=>
  have ht:t<s.bufs.length:=by
   rcases Nat.lt_or_ge t s.bufs.length with h|h
   ·exact h
   ·unfold bufM at hb;rw [getD_nil_of_ge _ _ _ h]at hb;cases hb
  have hx:=hl (bufM s t) (getD_mem ht) x (by rw [hb];exact List.mem_cons_self)
  rw [tflush_cons hb]
  unfold vw
  congr 1
  ·exact getD_set_upd s.bufs t l [] ht
  ·exact getD_set_upd s.mem x.1.toNat x.2 0 (by omega)
end
theorem runT_get (ths:List Th) (ws:List Int) (h: ∀w∈ws,0<=w/\w<(ths.length:Int)):(fun u=>(runT ths ws).getD u tha)=runV ws (fun u=>ths.getD u tha):=by
 induction ws generalizing ths with
 |nil=>funext u;unfold runV;rw [if_neg (by simp)];rfl
 |cons w ws ih=>
  have hw:=h w (by simp)
  have hlt:w.toNat<ths.length:=by omega
  show (fun u=>(runT (ths.set w.toNat {ths.getD w.toNat tha with st:=0}) ws).getD u tha)=_
  rw [ih _ (fun x hx=>by rw [List.length_set];exact h x (by simp [hx])),getD_set_upd _ _ _ _ hlt]
  funext u
  unfold runV upd
  by_cases c:u=w.toNat
  ·subst c
   rw [if_pos rfl]
   have hm:((w.toNat:Nat):Int)∈w::ws:=by
    rw [Int.toNat_of_nonneg hw.1];exact List.mem_cons_self
   rw [if_pos hm]
   split<;>rfl
  ·rw [if_neg c]
   have :((u:Int)∈w::ws)↔(u:Int)∈ws:=by
    rw [List.mem_cons]
    constructor
    ·rintro (e|e)
     ·exact absurd (by omega) c
     ·exact e
    ·exact .inr
   by_cases d:(u:Int)∈ws
   ·rw [if_pos d,if_pos (this.2 d)]
   ·rw [if_neg d,if_neg (fun q=>d (this.1 q))]
structure At (B:MB) (s:Mst) (t p:Nat) (r:Nat->Int) (o:Op):Prop where
 th:thM s t=⟨(p:Int),r,0⟩
 lt:p<(B.codes.getD t cdd).len
 F:(B.codes.getD t cdd).F p=o.ins
 ok:rightB o.ins (B.codes.getD t cdd).len=true
 ht:t<s.ths.length
 hb:t<s.bufs.length
 m:s.mem.length=B.m
 word: ∀x,o.word=some x->x<B.m
 room:1<=B.room
 buf: ∀b∈s.bufs,∀e∈b,0<=e.1/\e.1<(B.m:Int)
 slp: ∀x∈s.slp,0<=x.1/\x.1<(s.ths.length:Int)
section
variable {B:MB} {s:Mst} {t p:Nat} {r:Nat->Int} {o:Op}
theorem At.flush (h:At B s t p r o):vw (tflush t s)=flushV t (vw s):=vw_flush t (by rw [h.m];exact h.buf)
theorem At.addr (h:At B s t p r o):askB o.ins.op=true->addrF ⟨(p:Int),r,0⟩ o.ins<(B.m:Int):=fun q=>by
 cases o with
 |set|move|add|and|same|jump|zero|some|out|mark=>exact absurd q (by show¬askB _=true;unfold askB;simp [Op.ins])
 |load a x|store a x|swap a x|fetch a x|cas a c x|wait a x|wake a x=>
  have :=h.word x rfl
  show (x:Int)<(B.m:Int)
  omega
theorem At.step (h:At B s t p r o):tStep B s t={(insR (tOps B t) s ⟨(p:Int),r,0⟩ o.ins).2 with ths:=(insR (tOps B t) s ⟨(p:Int),r,0⟩ o.ins).2.ths.set t (insR (tOps B t) s ⟨(p:Int),r,0⟩ o.ins).1}:=
 tStep_at h.th rfl rfl h.lt h.F h.ok h.addr
theorem flush_th (hth:thM s t=⟨(p:Int),r,0⟩):({tflush t s with ths:=(tflush t s).ths.set t ⟨(p:Int),r,0⟩}:Mst)=tflush t s:=by
 have e:(tflush t s).ths.set t ⟨(p:Int),r,0⟩=(tflush t s).ths:=by
  rw [(tflush_same t s).1,<-hth]
  exact set_same s.ths t tha
 rw [e]
theorem step_view (h:At B s t p r o):(bufM s t≠[]/\vw (tStep B s t)=flushV t (vw s))∨
 ((o.drains=true->bufM s t=[])/\(o.stores=true->((bufM s t).length:Int)<B.room)/\vw (tStep B s t)=execV t (vw s) p r o):=by
 have hs:=h.step
 have quiet: ∀(th':Th),insR (tOps B t) s ⟨(p:Int),r,0⟩ o.ins=(th',s)->vw (tStep B s t)=(vw s).mv t th' (bufM s t) (memM s) []:=fun th' e=>by
  rw [hs,e]
  refine (vw_th h.ht h.hb th' s.mem s.slp s.evs s.who).trans ?_
  unfold Vw.mv
  rw [List.append_nil]
  rfl
 have noted: ∀(th':Th) (x:Evt),insR (tOps B t) s ⟨(p:Int),r,0⟩ o.ins=(th',noteM (t:Int) s x)->vw (tStep B s t)=(vw s).mv t th' (bufM s t) (memM s) [{x with who:=(t:Int)}]:=fun th' x e=>by
  rw [hs,e]
  exact vw_th h.ht h.hb th' s.mem s.slp (s.evs++[{x with who:=(t:Int)}]) s.who
 have locked: ∀(th':Th) (x:Nat) (v:Int) (ok:Bool),x<B.m->insR (tOps B t) s ⟨(p:Int),r,0⟩ o.ins=(th',lockM t s (p:Int) x v ok)->
  vw (tStep B s t)=(vw s).mv t th' (bufM s t) (if ok then upd (memM s) x v else memM s) [⟨4,(t:Int),(p:Int),(x:Int),if ok then v else memM s x,memM s x,0,ok⟩]:=fun th' x v ok hx e=>by
  rw [hs,e]
  have e2:=vw_th h.ht h.hb th' (if ok then s.mem.set x v else s.mem) s.slp (s.evs++[⟨4,(t:Int),(p:Int),(x:Int),if ok then v else s.mem.getD x 0,s.mem.getD x 0,0,ok⟩]) s.who
  cases ok with
  |false=>exact e2
  |true=>
   refine (show vw _=_ from e2).trans ?_
   unfold Vw.mv
   congr 1
   exact getD_set_upd s.mem x v 0 (by rw [h.m];exact hx)
 have flushed:insR (tOps B t) s ⟨(p:Int),r,0⟩ o.ins=(⟨(p:Int),r,0⟩,tflush t s)->vw (tStep B s t)=flushV t (vw s):=fun e=>by
  rw [hs,e]
  show vw {tflush t s with ths:=(tflush t s).ths.set t ⟨(p:Int),r,0⟩}=_
  rw [flush_th h.th,h.flush]
 have see: ∀x,seeM t s x=seeV (bufM s t) (memM s) x:=fun x=>rfl
 cases o with
 |set a k=>exact .inr ⟨(fun q=>by cases q),(fun q=>by cases q),quiet _ in_set⟩
 |move a b=>exact .inr ⟨(fun q=>by cases q),(fun q=>by cases q),quiet _ in_move⟩
 |add a b c=>exact .inr ⟨(fun q=>by cases q),(fun q=>by cases q),quiet _ (in_alu 3 (by decide) (by decide))⟩
 |and a b c=>exact .inr ⟨(fun q=>by cases q),(fun q=>by cases q),quiet _ (in_alu 6 (by decide) (by decide))⟩
 |same a b c=>exact .inr ⟨(fun q=>by cases q),(fun q=>by cases q),quiet _ (in_alu 12 (by decide) (by decide))⟩
 |jump k=>exact .inr ⟨(fun q=>by cases q),(fun q=>by cases q),quiet _ in_jump⟩
 |zero a k=>exact .inr ⟨(fun q=>by cases q),(fun q=>by cases q),quiet _ in_zero⟩
 |some a k=>exact .inr ⟨(fun q=>by cases q),(fun q=>by cases q),quiet _ in_some⟩
 |load a x=>exact .inr ⟨(fun q=>by cases q),(fun q=>by cases q),noted _ _ (in_load (x:=x) rfl)⟩
 |out a=>exact .inr ⟨(fun q=>by cases q),(fun q=>by cases q),noted _ _ in_out⟩
 |mark k=>exact .inr ⟨(fun q=>by cases q),(fun q=>by cases q),noted _ _ in_mark⟩
 |store a x=>
  by_cases c:((bufM s t).length:Int)<B.room
  ·refine .inr ⟨(fun q=>by cases q),fun _=>c,?_⟩
   have e:=in_store (B:=B) (s:=s) (t:=t) (p:=(p:Int)) (r:=r) (st:=0) (a:=(a:Int)) (b:=8) (c:=0) (k:=(x:Int)) (x:=x) rfl (h.word x rfl) c
   rw [hs]
   show vw {(insR (tOps B t) s ⟨(p:Int),r,0⟩ ⟨17,a,8,0,x⟩).2 with ths:=(insR (tOps B t) s ⟨(p:Int),r,0⟩ ⟨17,a,8,0,x⟩).2.ths.set t (insR (tOps B t) s ⟨(p:Int),r,0⟩ ⟨17,a,8,0,x⟩).1}=_
   rw [e]
   exact vw_set h.ht h.hb ⟨(p:Int)+1,r,0⟩ (bufM s t++[((x:Int),r a)]) s.mem s.slp (s.evs++[⟨2,(t:Int),(p:Int),(x:Int),r a,0,0,false⟩]) s.who
  ·refine .inl ⟨fun e=>c ?_,flushed (in_full c)⟩
   rw [e]
   have :=h.room
   show (0:Int)<B.room
   omega
 |swap a x=>
  by_cases c:bufM s t=[]
  ·exact .inr ⟨fun _=>c,(fun q=>by cases q),locked _ x _ true (h.word x rfl) (in_swap (x:=x) c rfl)⟩
  ·exact .inl ⟨c,flushed (in_drain (.inl ⟨by decide,by decide⟩) c)⟩
 |fetch a x=>
  by_cases c:bufM s t=[]
  ·exact .inr ⟨fun _=>c,(fun q=>by cases q),locked _ x _ true (h.word x rfl) (in_fetch (x:=x) c rfl)⟩
  ·exact .inl ⟨c,flushed (in_drain (.inl ⟨by decide,by decide⟩) c)⟩
 |cas a c x=>
  by_cases d:bufM s t=[]
  ·refine .inr ⟨fun _=>d,(fun q=>by cases q),?_⟩
   refine (locked _ x _ _ (h.word x rfl) (in_cas (x:=x) d rfl)).trans ?_
   show _=if memM s x=r a then _ else _
   by_cases g:memM s x=r a
   ·have g':(s.mem.getD x 0==r (Int.toNat (a:Int)))=true:=beq_iff_eq.2 g
    rw [g',if_pos g]
    rfl
   ·have g':(s.mem.getD x 0==r (Int.toNat (a:Int)))=false:=beq_eq_false_iff_ne.2 g
    rw [g',if_neg g]
    rfl
  ·exact .inl ⟨d,flushed (in_drain (.inl ⟨by decide,by decide⟩) d)⟩
 |wait a x=>
  by_cases d:bufM s t=[]
  ·refine .inr ⟨fun _=>d,(fun q=>by cases q),?_⟩
   have e:=in_wait (B:=B) (s:=s) (t:=t) (p:=(p:Int)) (r:=r) (st:=0) (a:=(a:Int)) (b:=8) (c:=0) (k:=(x:Int)) (x:=x) d rfl
   show _=if memM s x=r a then _ else _
   by_cases g:memM s x=r a
   ·rw [if_pos (show s.mem.getD x 0=r (Int.toNat (a:Int)) from g)]at e
    rw [if_pos g,hs]
    show vw {(insR (tOps B t) s ⟨(p:Int),r,0⟩ ⟨23,a,8,0,x⟩).2 with ths:=(insR (tOps B t) s ⟨(p:Int),r,0⟩ ⟨23,a,8,0,x⟩).2.ths.set t (insR (tOps B t) s ⟨(p:Int),r,0⟩ ⟨23,a,8,0,x⟩).1}=_
    obtain ⟨N,hN⟩: ∃N,noteM (t:Int) s ⟨8,0,(p:Int),(x:Int),s.mem.getD x 0,0,0,true⟩=N:=⟨_,rfl⟩
    have eS:sleepM (t:Int) N x=⟨s.ths,s.bufs,s.mem,if slpE s.slp (t:Int)=0 then s.slp++[((t:Int),(x:Int))]else s.slp,s.evs++[⟨8,(t:Int),(p:Int),(x:Int),s.mem.getD x 0,0,0,true⟩],s.who⟩:=by
     rw [<-hN]
     unfold sleepM
     by_cases z:slpE s.slp (t:Int)=0
     ·rw [if_pos z]
      exact if_pos z
     ·rw [if_neg z]
      exact if_neg z
    rw [hN,eS]at e
    rw [e]
    exact vw_th h.ht h.hb ⟨(p:Int)+1,updR r a 0,1⟩ s.mem (if slpE s.slp (t:Int)=0 then s.slp++[((t:Int),(x:Int))]else s.slp) (s.evs++[⟨8,(t:Int),(p:Int),(x:Int),s.mem.getD x 0,0,0,true⟩]) s.who
   ·rw [if_neg (show¬s.mem.getD x 0=r (Int.toNat (a:Int)) from g)]at e
    rw [if_neg g]
    exact noted _ _ e
  ·exact .inl ⟨d,flushed (in_drain (.inr ⟨by decide,by decide⟩) d)⟩
 |wake a x=>
  by_cases d:bufM s t=[]
  ·refine .inr ⟨fun _=>d,(fun q=>by cases q),?_⟩
   have e:=in_wake (B:=B) (s:=s) (t:=t) (p:=(p:Int)) (r:=r) (st:=0) (a:=(a:Int)) (b:=8) (c:=0) (k:=(x:Int)) (x:=x) d rfl
   rw [hs]
   show vw {(insR (tOps B t) s ⟨(p:Int),r,0⟩ ⟨24,a,8,0,x⟩).2 with ths:=(insR (tOps B t) s ⟨(p:Int),r,0⟩ ⟨24,a,8,0,x⟩).2.ths.set t (insR (tOps B t) s ⟨(p:Int),r,0⟩ ⟨24,a,8,0,x⟩).1}=_
   rw [e]
   have hw: ∀w∈(wk (x:Int) (r a).toNat s.slp).2,0<=w/\w<(s.ths.length:Int):=fun w hw=>by
    obtain ⟨y,h1,h2⟩:=(wk_sub (x:Int) (r a).toNat s.slp).2 w hw
    rw [<-h2]
    exact h.slp y h1
   have hg:=runT_get s.ths _ hw
   show (⟨_,_,_,_,_⟩:Vw)=⟨_,_,_,_,_⟩
   congr 1
   have h2:=getD_set_upd (runT s.ths (wk (x:Int) (r a).toNat s.slp).2) t ⟨(p:Int)+1,updR r a ((wk (x:Int) (r a).toNat s.slp).2.length:Int),0⟩ tha (by rw [runT_len];exact h.ht)
   rw [hg]at h2
   exact h2
  ·exact .inl ⟨d,flushed (in_drain (.inr ⟨by decide,by decide⟩) d)⟩
end
theorem end_view {B:MB} {s:Mst} {t:Nat} {p r} (hth:thM s t=⟨p,r,0⟩) (hpc:((B.codes.getD t cdd).len:Int)<=p) (ht:t<s.ths.length) (hb:t<s.bufs.length):
 vw (tStep B s t)=(vw s).mv t ⟨p,r,2⟩ (bufM s t) (memM s) [⟨12,(t:Int),p,0,0,0,0,false⟩]:=by
 rw [tStep_end hth rfl hpc]
 exact vw_th ht hb ⟨p,r,2⟩ s.mem s.slp (s.evs++[⟨12,(t:Int),p,0,0,0,0,false⟩]) s.who
theorem rouse_view {s:Mst} {t:Nat} (ht:t<s.ths.length) (hb:t<s.bufs.length):rouseM t s=s∨
 (fnd s.slp (t:Int)<s.slp.length/\vw (rouseM t s)={(vw s).mv t ⟨(thM s t).pc,(thM s t).regs,0⟩ (bufM s t) (memM s) [⟨11,(t:Int),0,0,0,0,0,false⟩]with slp:=s.slp.eraseIdx (fnd s.slp (t:Int))}):=by
 unfold rouseM
 by_cases c:fnd s.slp (t:Int)<s.slp.length
 ·rw [if_pos c]
  refine .inr ⟨c,?_⟩
  show vw ⟨s.ths.set t ⟨(thM s t).pc,(thM s t).regs,0⟩,s.bufs,s.mem,s.slp.eraseIdx (fnd s.slp (t:Int)),s.evs++[⟨11,(t:Int),0,0,0,0,0,false⟩],s.who⟩=_
  exact vw_th ht hb ⟨(thM s t).pc,(thM s t).regs,0⟩ s.mem (s.slp.eraseIdx (fnd s.slp (t:Int))) (s.evs++[⟨11,(t:Int),0,0,0,0,0,false⟩]) s.who
 ·rw [if_neg c]
  exact .inl rfl
structure Wf (B:MB) (s:Mst):Prop where
 ok:TOk B s
 m:s.mem.length=B.m
 room:1<=B.room
section
variable {B:MB} {s:Mst}
theorem Wf.th (h:Wf B s) {t:Nat} (ht:t<B.codes.length):t<s.ths.length:=by rw [h.ok.ok.nt];exact ht
theorem Wf.bf (h:Wf B s) {t:Nat} (ht:t<B.codes.length):t<s.bufs.length:=by rw [h.ok.bl];exact ht
theorem insR_mem (t:Nat) (th:Th) (i:Ins):(insR (tOps B t) s th i).2.mem.length=s.mem.length:=by
 have hf: ∀(t:Nat) (s:Mst),(tflush t s).mem.length=s.mem.length:=fun t s=>(tflush_same t s).2.2.2.2
 have hn: ∀(s:Mst) (x:Evt),(noteM (t:Int) s x).mem.length=s.mem.length:=fun _ _=>rfl
 have hfn: ∀(t n:Nat) (s:Mst),(tflushN t n s).mem.length=s.mem.length:=fun t n=>by
  induction n with
  |zero=>exact fun _=>rfl
  |succ n ih=>exact fun s=>(ih _).trans (hf t s)
 have hrem: ∀(s:Mst),(tremote s).mem.length=s.mem.length:=fun s=>by
  unfold tremote
  generalize List.range s.bufs.length=l
  induction l generalizing s with
  |nil=>rfl
  |cons a l ih=>exact (ih _).trans (hfn a _ _)
 have hlock: ∀(s:Mst) (pc:Int) (m:Nat) (old v:Int) (ok:Bool),(lockS (tOps B t) s pc m old v ok).mem.length=s.mem.length:=fun s pc m old v ok=>by
  unfold lockS
  cases ok
  ·rfl
  ·show (s.mem.set m v).length=_;rw [List.length_set]
 have hst: ∀(a:Nat) (v:Int),((tOps B t).store s a v).mem.length=s.mem.length:=fun a v=>by
  show (if a<B.m then ({s with bufs:=_}:Mst)else s).mem.length=_
  split<;>rfl
 have hsl: ∀(s:Mst) (a:Nat),((tOps B t).sleep s a).mem.length=s.mem.length:=fun s a=>by
  show (sleepM (t:Int) s a).mem.length=_
  unfold sleepM
  split<;>rfl
 unfold insR
 split
 ·exact hf _ _
 split
 ·exact hf _ _
 split
 ·rfl
 split
 ·rfl
 split
 ·show (asksR (tOps B t) s th _ _ _ _).2.mem.length=_
  unfold asksR
  split
  ·rfl
  split
  ·exact hst _ _
  split
  ·exact hlock _ _ _ _ _ _
  split
  ·exact hlock _ _ _ _ _ _
  split
  ·exact hlock _ _ _ _ _ _
  split
  ·unfold waitR
   split
   ·exact hsl _ _
   ·rfl
  ·rfl
 ·show (plainR (tOps B t) s th _ _ _ _ _ _).2.mem.length=_
  unfold plainR
  repeat' split
  all_goals first
   |rfl
   |exact hrem _
theorem tPick_mem (x:Int×Int):(tPick B s x).mem.length=s.mem.length:=by
 unfold tPick
 split
 ·rfl
 split
 ·show (stepR (tOps B x.2.toNat) s _ _).2.mem.length=_
  unfold stepR
  repeat' split
  all_goals first
   |rfl
   |exact insR_mem _ _ _
 split
 ·exact (tflush_same _ _).2.2.2.2
 split
 ·unfold rouseM
  split<;>rfl
 ·rfl
theorem Wf.pick (h:Wf B s) (hB:MBok B) (x:Int×Int):Wf B (tPick B s x):=⟨tPick_ok hB h.ok x,(tPick_mem x).trans h.m,h.room⟩
end
def EvK (l:List Evt):Prop:= ∀x∈l,0<=x.k/\x.k<=4294967295
theorem EvK.snoc {l:List Evt} (h:EvK l) {x:Evt} (hx:0<=x.k/\x.k<=4294967295):EvK (l++[x]):=fun y hy=>by
 rcases List.mem_append.1 hy with hy|hy
 ·exact h y hy
 ·rw [List.mem_singleton.1 hy];exact hx
section
variable {B:MB}
theorem insR_evk (t:Nat) (s:Mst) (th:Th) (i:Ins) (hk:0<=i.k/\i.k<=4294967295) (h:EvK s.evs):EvK (insR (tOps B t) s th i).2.evs:=by
 have z:(0:Int)<=0/\(0:Int)<=4294967295:=by decide
 have hf: ∀(t:Nat) (s:Mst),EvK s.evs->EvK (tflush t s).evs:=fun t s h=>by
  unfold tflush
  split
  ·exact h
  ·exact h.snoc z
 have hfn: ∀(t n:Nat) (s:Mst),EvK s.evs->EvK (tflushN t n s).evs:=fun t n=>by
  induction n with
  |zero=>exact fun _ h=>h
  |succ n ih=>exact fun s h=>ih _ (hf t s h)
 have hrem: ∀(s:Mst),EvK s.evs->EvK (tremote s).evs:=fun s h=>by
  unfold tremote
  generalize List.range s.bufs.length=l
  induction l generalizing s with
  |nil=>exact h
  |cons a l ih=>exact ih _ (hfn a _ _ h)
 have hn: ∀(s:Mst) (x:Evt),EvK s.evs->(0<=x.k/\x.k<=4294967295)->EvK (noteM (t:Int) s x).evs:=fun s x h hx=>h.snoc hx
 have hlock: ∀(s:Mst) (pc:Int) (m:Nat) (old v:Int) (ok:Bool),EvK s.evs->EvK (lockS (tOps B t) s pc m old v ok).evs:=fun s pc m old v ok h=>by
  unfold lockS
  cases ok
  ·exact hn _ _ h z
  ·exact hn _ _ (show EvK ({s with mem:=s.mem.set m v}:Mst).evs from h) z
 have hst: ∀(a:Nat) (v:Int),EvK ((tOps B t).store s a v).evs:=fun a v=>by
  show EvK (if a<B.m then ({s with bufs:=_}:Mst)else s).evs
  split<;>exact h
 have hsl: ∀(s:Mst) (a:Nat),EvK s.evs->EvK ((tOps B t).sleep s a).evs:=fun s a h=>by
  show EvK (sleepM (t:Int) s a).evs
  unfold sleepM
  split<;>exact h
 unfold insR
 split
 ·exact hf _ _ h
 split
 ·exact hf _ _ h
 split
 ·exact hn _ _ h z
 split
 ·exact h
 split
 ·show EvK (asksR (tOps B t) s th _ _ _ _).2.evs
  unfold asksR
  split
  ·exact hn _ _ h z
  split
  ·exact hn _ _ (hst _ _) z
  split
  ·exact hlock _ _ _ _ _ _ h
  split
  ·exact hlock _ _ _ _ _ _ h
  split
  ·exact hlock _ _ _ _ _ _ h
  split
  ·unfold waitR
   split
   ·exact hsl _ _ (hn _ _ h z)
   ·exact hn _ _ h z
  ·exact hn _ _ h z
 ·show EvK (plainR (tOps B t) s th _ _ _ _ _ _).2.evs
  unfold plainR
  repeat' split
  all_goals first
   |exact h
   |exact hn _ _ h z
   |exact hn _ _ h hk
   |exact hn _ _ (hrem _ h) z
theorem tPick_evk {s:Mst} (hB:MBok B) (hs:TOk B s) (h:EvK s.evs) (x:Int×Int):EvK (tPick B s x).evs:=by
 have z:(0:Int)<=0/\(0:Int)<=4294967295:=by decide
 unfold tPick
 split
 ·exact h
 rename_i hin
 split
 ·show EvK (stepR (tOps B x.2.toNat) s _ _).2.evs
  have ht:x.2.toNat<B.codes.length:=by
   have :=hs.ok.nt
   omega
  have hc:B.codes.getD x.2.toNat cdd∈B.codes:=getD_mem ht
  unfold stepR
  split
  ·exact h
  split
  ·exact h.snoc z
  split
  ·exact h.snoc z
  split
  ·exact h.snoc z
  ·rename_i h1 h2 h3 h4
   have :=((hB.cods _ hc).ins (s.ths.getD x.2.toNat tha).pc.toNat (by omega))
   exact insR_evk _ _ _ _ ⟨this.k0,this.k1⟩ h
 split
 ·unfold tflush
  split
  ·exact h
  ·exact h.snoc z
 split
 ·unfold rouseM
  split
  ·exact h.snoc z
  ·exact h
 ·exact h
def EvC (K n:Nat) (s:Mst):Prop:=s.evs.length+tot s.bufs+n<=K
theorem EvC.mono {K n m:Nat} {s:Mst} (h:EvC K n s) (hm:m<=n):EvC K m s:=by unfold EvC at*;omega
theorem EvC.flush {K n:Nat} {s:Mst} (h:EvC K n s) (t:Nat):EvC K n (tflush t s):=by
 cases hb:s.bufs.getD t []with
 |nil=>rw [tflush_nil hb];exact h
 |cons x l=>
  have ht:t<s.bufs.length:=by
   rcases Nat.lt_or_ge t s.bufs.length with h1|h1
   ·exact h1
   ·rw [getD_nil_of_ge _ _ _ h1]at hb;cases hb
  rw [tflush_cons hb]
  have h2:=tot_set s.bufs t l ht
  rw [hb]at h2
  unfold EvC at*
  simp only [List.length_cons]at h2
  simp only [List.length_append,List.length_cons,List.length_nil]
  omega
theorem EvC.note {K n:Nat} {s:Mst} (h:EvC K (n+1) s) (t:Int) (x:Evt):EvC K n (noteM t s x):=by
 unfold EvC at*
 show (s.evs++[_]).length+tot s.bufs+n<=K
 simp only [List.length_append,List.length_cons,List.length_nil]
 omega
theorem insR_evc {K n:Nat} (t:Nat) (s:Mst) (th:Th) (i:Ins) (h:EvC K (n+2) s):EvC K n (insR (tOps B t) s th i).2:=by
 have h1:EvC K (n+1) s:=h.mono (by omega)
 have h0:EvC K n s:=h.mono (by omega)
 have hfn: ∀(t m:Nat) (s:Mst) (k:Nat),EvC K k s->EvC K k (tflushN t m s):=fun t m=>by
  induction m with
  |zero=>exact fun _ _ h=>h
  |succ m ih=>exact fun s k h=>ih _ k (h.flush t)
 have hrem: ∀(s:Mst) (k:Nat),EvC K k s->EvC K k (tremote s):=fun s k h=>by
  unfold tremote
  generalize List.range s.bufs.length=l
  induction l generalizing s with
  |nil=>exact h
  |cons a l ih=>exact ih _ (hfn a _ _ _ h)
 have hlock: ∀(s:Mst) (pc:Int) (m:Nat) (old v:Int) (ok:Bool),EvC K (n+1) s->EvC K n (lockS (tOps B t) s pc m old v ok):=fun s pc m old v ok h=>by
  unfold lockS
  cases ok
  ·exact EvC.note h _ _
  ·exact EvC.note (s:={s with mem:=s.mem.set m v}) h _ _
 have hst: ∀(a:Nat) (v:Int),EvC K (n+1) ((tOps B t).store s a v):=fun a v=>by
  show EvC K (n+1) (if a<B.m then ({s with bufs:=_}:Mst)else s)
  split
  ·unfold EvC at*
   show s.evs.length+tot (s.bufs.set t (s.bufs.getD t []++[((a:Int),v)]))+(n+1)<=K
   rcases Nat.lt_or_ge t s.bufs.length with ht|ht
   ·have :=tot_set s.bufs t (s.bufs.getD t []++[((a:Int),v)]) ht
    simp only [List.length_append,List.length_cons,List.length_nil]at this
    omega
   ·rw [List.set_eq_of_length_le ht];omega
  ·exact h1
 have hsl: ∀(s:Mst) (a:Nat) (k:Nat),EvC K k s->EvC K k ((tOps B t).sleep s a):=fun s a k h=>by
  show EvC K k (sleepM (t:Int) s a)
  unfold sleepM
  split<;>exact h
 unfold insR
 split
 ·exact h0.flush _
 split
 ·exact h0.flush _
 split
 ·exact EvC.note h1 _ _
 split
 ·exact h0
 split
 ·show EvC K n (asksR (tOps B t) s th _ _ _ _).2
  unfold asksR
  split
  ·exact EvC.note h1 _ _
  split
  ·exact EvC.note (hst _ _) _ _
  split
  ·exact hlock _ _ _ _ _ _ h1
  split
  ·exact hlock _ _ _ _ _ _ h1
  split
  ·exact hlock _ _ _ _ _ _ h1
  split
  ·unfold waitR
   split
   ·exact hsl _ _ _ (EvC.note h1 _ _)
   ·exact EvC.note h1 _ _
  ·exact EvC.note (s:=((tOps B t).wake s _ _).2) h1 _ _
 ·show EvC K n (plainR (tOps B t) s th _ _ _ _ _ _).2
  unfold plainR
  repeat' split
  all_goals first
   |exact h0
   |exact EvC.note h1 _ _
   |exact EvC.note (hrem _ _ h1) _ _
theorem tPick_evc {K n:Nat} {s:Mst} (h:EvC K (n+2) s) (x:Int×Int):EvC K n (tPick B s x):=by
 have h1:EvC K (n+1) s:=h.mono (by omega)
 have h0:EvC K n s:=h.mono (by omega)
 unfold tPick
 split
 ·exact h0
 split
 ·show EvC K n (stepR (tOps B x.2.toNat) s _ _).2
  unfold stepR
  split
  ·exact h0
  split
  ·exact EvC.note h1 _ _
  split
  ·exact EvC.note h1 _ _
  split
  ·exact EvC.note h1 _ _
  ·exact insR_evc _ _ _ _ h
 split
 ·exact h0.flush _
 split
 ·unfold rouseM
  split
  ·exact EvC.note (s:={s with slp:=_,ths:=_}) h1 _ _
  ·exact h0
 ·exact h0
theorem tRun_evc {K:Nat}: ∀(l:List (Int×Int)) {n:Nat} {s:Mst},EvC K (n+2*l.length) s->EvC K n (tRun B s l)
 |[],_,_,h=>h
 |x::l,n,s,h=>tRun_evc l (tPick_evc (n:=n+2*l.length) (h.mono (by simp only [List.length_cons];omega)) x)
theorem can_of {s:Mst} (hs:TOk B s) (hB:MBok B) (h:EvC 999999000 0 s):mCan B 3 s:=by
 have hl:s.ths.length<=8:=by rw [hs.ok.nt];exact hB.n8
 have h8:=nodup_le s.ths.length (s.slp.map (·.1)) hs.ok.slp.nd (fun x hx=>by
  obtain ⟨y,hy,e⟩:=List.mem_map.1 hx
  rw [<-e];exact hs.ok.slp.lo y hy)
 rw [List.length_map]at h8
 refine ⟨by unfold EvC at h;omega,by omega,fun x hx=>hs.ok.slp.lo x hx,fun b hb e he=>(hs.ok.buf b hb e he).1,hl⟩
end
end Go.Proofs.YtmhfpjnkjlhbpaaGreatDoor
