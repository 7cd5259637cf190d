/- Two ports that do alike: a step over the one and a step over the other do alike (plain). A machine with buffers (plain): what a step does, instruction by instruction. Machines of threads (plain): what a pick does, seen as functions of threads and words. -/
import Derived.Test.YtmhfpjnkjlhbpaaGreatDoorQd16
import Derived.Test.YtmhfpjnkjlhbpaaGreatDoorQd21
namespace Go.Proofs.YtmhfpjnkjlhbpaaGreatDoor
open Go.ChangeShapes Go.WideShapes Go.ChangeAt Go.RowKit Go.Deep
set_option linter.unusedVariables false
set_option maxRecDepth 100000
set_option linter.unusedSimpArgs false
section
variable {σ τ:Type} {O:Ops σ} {P:Ops τ} {D:Prop} {R R':σ->τ->Prop}
end
theorem tPick_in {B:MB} {s:Mst} (k:Int) (t:Nat) (h:t<s.ths.length):tPick B s (k,(t:Int))=if k=0 then tStep B s t else if k=1 then tflush t s else if k=2 then rouseM t s else s:=by
 unfold tPick
 rw [if_neg (show¬((t:Int)<0∨(s.ths.length:Int)<=(t:Int)) by omega)]
 simp only [Int.toNat_natCast]
theorem drainP_iff (op:Int):DrainP op↔(18<=op/\op<=21∨23<=op/\op<=25):=Iff.rfl
def bufM (s:Mst) (t:Nat):List Ent:=s.bufs.getD t []
def thM (s:Mst) (t:Nat):Th:=s.ths.getD t tha
theorem tStep_at {B:MB} {s:Mst} {t:Nat} {th:Th} {i:Ins} {p:Nat} (hth:thM s t=th) (hst:th.st=0) (hpc:th.pc=(p:Int)) (hl:p<(B.codes.getD t cdd).len) (hi:(B.codes.getD t cdd).F p=i) (hr:rightB i (B.codes.getD t cdd).len=true) (ha:askB i.op=true->addrF th i<(B.m:Int)):
 tStep B s t={(insR (tOps B t) s th i).2 with ths:=(insR (tOps B t) s th i).2.ths.set t (insR (tOps B t) s th i).1}:=by
 have e:stepR (tOps B t) s th (B.codes.getD t cdd)=insR (tOps B t) s th i:=by
  unfold stepR
  rw [if_neg (fun q=>q hst),if_neg (by rw [hpc];omega),hpc,Int.toNat_natCast,hi,if_neg (by rw [hr];decide),if_neg (fun q=>by have h1:=ha q.1;have h2:(B.m:Int)<=addrF th i:=q.2;omega)]
 unfold tStep
 show (let r:=stepR (tOps B t) s (thM s t) (B.codes.getD t cdd);{r.2 with ths:=r.2.ths.set t r.1}:Mst)=_
 rw [hth,e]
theorem tStep_end {B:MB} {s:Mst} {t:Nat} {th:Th} (hth:thM s t=th) (hst:th.st=0) (hpc:((B.codes.getD t cdd).len:Int)<=th.pc):
 tStep B s t={noteM (t:Int) s ⟨12,0,th.pc,0,0,0,0,false⟩with ths:=s.ths.set t {th with st:=2}}:=by
 unfold tStep
 show (let r:=stepR (tOps B t) s (thM s t) (B.codes.getD t cdd);{r.2 with ths:=r.2.ths.set t r.1}:Mst)=_
 rw [hth]
 unfold stepR
 rw [if_neg (fun q=>q hst),if_pos (.inr hpc)]
 rfl
theorem tStep_not {B:MB} {s:Mst} {t:Nat} (hst:(thM s t).st≠0):tStep B s t=s:=by
 unfold tStep
 show (let r:=stepR (tOps B t) s (thM s t) (B.codes.getD t cdd);{r.2 with ths:=r.2.ths.set t r.1}:Mst)=_
 unfold stepR
 rw [if_pos hst]
 show ({s with ths:=s.ths.set t (thM s t)}:Mst)=s
 have e:s.ths.set t (thM s t)=s.ths:=by
  unfold thM
  refine List.ext_getElem? fun j=>?_
  by_cases c:t=j
  ·subst c
   rcases Nat.lt_or_ge t s.ths.length with h|h
   ·rw [List.getElem?_set_self h,List.getD_eq_getElem?_getD,List.getElem?_eq_getElem h];rfl
   ·rw [List.set_eq_of_length_le h]
  ·rw [List.getElem?_set_ne c]
 rw [e]
section
variable {B:MB} {s:Mst} {t:Nat} {p:Int} {r:Nat->Int} {st a b c k:Int}
theorem in_set:insR (tOps B t) s ⟨p,r,st⟩ ⟨1,a,b,c,k⟩=(⟨p+1,updR r a.toNat k,st⟩,s):=by
 unfold insR
 rw [if_neg (fun q=>by have :=(drainP_iff _).1 q.1;dsimp only at this;omega),if_neg (fun q=>by have q1:=q.1;dsimp only at q1;omega)]
 rfl
theorem in_move:insR (tOps B t) s ⟨p,r,st⟩ ⟨2,a,b,c,k⟩=(⟨p+1,updR r a.toNat (r b.toNat),st⟩,s):=by
 unfold insR
 rw [if_neg (fun q=>by have :=(drainP_iff _).1 q.1;dsimp only at this;omega),if_neg (fun q=>by have q1:=q.1;dsimp only at q1;omega)]
 rfl
theorem in_alu (op:Nat) (h3:3<=op) (h12:op<=12):insR (tOps B t) s ⟨p,r,st⟩ ⟨(op:Int),a,b,c,k⟩=(⟨p+1,updR r a.toNat (aluF op (r b.toNat) (r c.toNat)),st⟩,s):=by
 unfold insR
 have hj:jmpB (op:Int)=false:=decide_eq_false (by omega)
 have hk:askB (op:Int)=false:=decide_eq_false (by omega)
 rw [if_neg (fun q=>by have :=(drainP_iff _).1 q.1;dsimp only at this;omega),if_neg (fun q=>by have q1:(op:Int)=17:=q.1;omega),if_neg (show¬(op:Int)=0 by omega),if_neg (show¬jmpB (op:Int)=true by rw [hj];decide),if_neg (show¬askB (op:Int)=true by rw [hk];decide)]
 show ((⟨p+1,(plainR (tOps B t) s ⟨p,r,st⟩ (op:Int).toNat a.toNat b.toNat c.toNat k 0).1.regs,(plainR (tOps B t) s ⟨p,r,st⟩ (op:Int).toNat a.toNat b.toNat c.toNat k 0).1.st⟩:Th),(plainR (tOps B t) s ⟨p,r,st⟩ (op:Int).toNat a.toNat b.toNat c.toNat k 0).2)=_
 rw [Int.toNat_natCast]
 have e:plainR (tOps B t) s ⟨p,r,st⟩ op a.toNat b.toNat c.toNat k 0=(⟨p,updR r a.toNat (aluF op (r b.toNat) (r c.toNat)),st⟩,s):=by
  unfold plainR
  rw [if_neg (by omega),if_neg (by omega),if_neg (by omega),if_neg (by omega),if_neg (by omega),if_neg (by omega),if_pos ⟨h3,h12⟩]
 rw [e]
theorem in_jump:insR (tOps B t) s ⟨p,r,st⟩ ⟨13,a,b,c,k⟩=(⟨k,r,st⟩,s):=by
 unfold insR
 rw [if_neg (fun q=>by have :=(drainP_iff _).1 q.1;dsimp only at this;omega),if_neg (fun q=>by have q1:=q.1;dsimp only at q1;omega)]
 rfl
theorem in_zero:insR (tOps B t) s ⟨p,r,st⟩ ⟨14,a,b,c,k⟩=(⟨if r a.toNat=0 then k else p+1,r,st⟩,s):=by
 unfold insR
 rw [if_neg (fun q=>by have :=(drainP_iff _).1 q.1;dsimp only at this;omega),if_neg (fun q=>by have q1:=q.1;dsimp only at q1;omega),if_neg (show¬(14:Int)=0 by decide),if_pos (show jmpB 14=true from rfl)]
 have :goesB 14 (r a.toNat)=decide (r a.toNat=0):=by unfold goesB;simp
 show ((⟨if goesB 14 (r a.toNat)=true then k else p+1,r,st⟩:Th),s)=_
 rw [this]
 by_cases h:r a.toNat=0
 ·rw [if_pos h,if_pos (by simpa using h)]
 ·rw [if_neg h,if_neg (by simpa using h)]
theorem in_some:insR (tOps B t) s ⟨p,r,st⟩ ⟨15,a,b,c,k⟩=(⟨if r a.toNat=0 then p+1 else k,r,st⟩,s):=by
 unfold insR
 rw [if_neg (fun q=>by have :=(drainP_iff _).1 q.1;dsimp only at this;omega),if_neg (fun q=>by have q1:=q.1;dsimp only at q1;omega),if_neg (show¬(15:Int)=0 by decide),if_pos (show jmpB 15=true from rfl)]
 have :goesB 15 (r a.toNat)=decide (r a.toNat≠0):=by unfold goesB;simp
 show ((⟨if goesB 15 (r a.toNat)=true then k else p+1,r,st⟩:Th),s)=_
 rw [this]
 by_cases h:r a.toNat=0
 ·rw [if_pos h,if_neg (by simpa using h)]
 ·rw [if_neg h,if_pos (by simpa using h)]
theorem in_out:insR (tOps B t) s ⟨p,r,st⟩ ⟨22,a,b,c,k⟩=(⟨p+1,r,st⟩,noteM (t:Int) s ⟨6,0,p,0,r a.toNat,0,0,false⟩):=by
 unfold insR
 rw [if_neg (fun q=>by have :=(drainP_iff _).1 q.1;dsimp only at this;omega),if_neg (fun q=>by have q1:=q.1;dsimp only at q1;omega)]
 rfl
theorem in_mark:insR (tOps B t) s ⟨p,r,st⟩ ⟨27,a,b,c,k⟩=(⟨p+1,r,st⟩,noteM (t:Int) s ⟨7,0,p,0,r a.toNat,0,k,false⟩):=by
 unfold insR
 rw [if_neg (fun q=>by have :=(drainP_iff _).1 q.1;dsimp only at this;omega),if_neg (fun q=>by have q1:=q.1;dsimp only at q1;omega)]
 rfl
theorem in_load {x:Nat} (h:addrF ⟨p,r,st⟩ ⟨16,a,b,c,k⟩=(x:Int)):insR (tOps B t) s ⟨p,r,st⟩ ⟨16,a,b,c,k⟩=(⟨p+1,updR r a.toNat (seeM t s x),st⟩,noteM (t:Int) s ⟨1,0,p,(x:Int),seeM t s x,0,0,false⟩):=by
 unfold insR
 rw [if_neg (fun q=>by have :=(drainP_iff _).1 q.1;dsimp only at this;omega),if_neg (fun q=>by have q1:=q.1;dsimp only at q1;omega),if_neg (show¬(16:Int)=0 by decide),if_neg (show¬jmpB 16=true by decide),if_pos (show askB 16=true from rfl),h,Int.toNat_natCast]
 rfl
theorem in_store {x:Nat} (h:addrF ⟨p,r,st⟩ ⟨17,a,b,c,k⟩=(x:Int)) (hx:x<B.m) (hr:((bufM s t).length:Int)<B.room):
 insR (tOps B t) s ⟨p,r,st⟩ ⟨17,a,b,c,k⟩=(⟨p+1,r,st⟩,noteM (t:Int) {s with bufs:=s.bufs.set t (bufM s t++[((x:Int),r a.toNat)])} ⟨2,0,p,(x:Int),r a.toNat,0,0,false⟩):=by
 unfold insR
 have hro:(tOps B t).room s=true:=decide_eq_true hr
 rw [if_neg (fun q=>by have :=(drainP_iff _).1 q.1;dsimp only at this;omega),if_neg (fun q=>by rw [hro]at q;cases q.2),if_neg (show¬(17:Int)=0 by decide),if_neg (show¬jmpB 17=true by decide),if_pos (show askB 17=true from rfl),h,Int.toNat_natCast]
 show ((⟨p+1,r,st⟩:Th),noteM (t:Int) (if x<B.m then {s with bufs:=s.bufs.set t (s.bufs.getD t []++[((x:Int),r a.toNat)])}else s) _)=_
 rw [if_pos hx]
 rfl
theorem in_full (hr: ¬((bufM s t).length:Int)<B.room):insR (tOps B t) s ⟨p,r,st⟩ ⟨17,a,b,c,k⟩=(⟨p,r,st⟩,tflush t s):=by
 unfold insR
 have hro:(tOps B t).room s=false:=decide_eq_false hr
 rw [if_neg (fun q=>by have :=(drainP_iff _).1 q.1;dsimp only at this;omega),if_pos ⟨rfl,hro⟩]
 rfl
theorem in_drain {op:Int} (hd:DrainP op) (hb:bufM s t≠[]):insR (tOps B t) s ⟨p,r,st⟩ ⟨op,a,b,c,k⟩=(⟨p,r,st⟩,tflush t s):=by
 unfold insR
 have he:(tOps B t).empty s=false:=decide_eq_false (by rw [List.length_eq_zero_iff];exact hb)
 rw [if_pos ⟨hd,he⟩]
 rfl
theorem empty_of (hb:bufM s t=[]):(tOps B t).empty s=true:=by
 show decide ((s.bufs.getD t []).length=0)=true
 unfold bufM at hb
 rw [hb]
 rfl
theorem see_mem (hb:bufM s t=[]) (x:Nat):seeM t s x=s.mem.getD x 0:=by
 unfold bufM at hb
 unfold seeM
 rw [hb]
 rfl
def lockM (t:Nat) (s:Mst) (p:Int) (x:Nat) (v:Int) (ok:Bool):Mst:=noteM (t:Int) (if ok then {s with mem:=s.mem.set x v}else s) ⟨4,0,p,(x:Int),if ok then v else s.mem.getD x 0,s.mem.getD x 0,0,ok⟩
theorem in_swap {x:Nat} (hb:bufM s t=[]) (h:addrF ⟨p,r,st⟩ ⟨19,a,b,c,k⟩=(x:Int)):insR (tOps B t) s ⟨p,r,st⟩ ⟨19,a,b,c,k⟩=(⟨p+1,updR r a.toNat (s.mem.getD x 0),st⟩,lockM t s p x (r a.toNat) true):=by
 unfold insR
 have he:=empty_of (B:=B) hb
 rw [if_neg (fun q=>by rw [he]at q;cases q.2),if_neg (fun q=>by have q1:=q.1;dsimp only at q1;omega),if_neg (show¬(19:Int)=0 by decide),if_neg (show¬jmpB 19=true by decide),if_pos (show askB 19=true from rfl),h,Int.toNat_natCast]
 show ((⟨p+1,updR r a.toNat (seeM t s x),st⟩:Th),lockS (tOps B t) s p x (seeM t s x) (r a.toNat) true)=_
 rw [see_mem hb]
 rfl
theorem in_fetch {x:Nat} (hb:bufM s t=[]) (h:addrF ⟨p,r,st⟩ ⟨20,a,b,c,k⟩=(x:Int)):insR (tOps B t) s ⟨p,r,st⟩ ⟨20,a,b,c,k⟩=(⟨p+1,updR r a.toNat (s.mem.getD x 0),st⟩,lockM t s p x ((s.mem.getD x 0+r a.toNat)% 4294967296) true):=by
 unfold insR
 have he:=empty_of (B:=B) hb
 rw [if_neg (fun q=>by rw [he]at q;cases q.2),if_neg (fun q=>by have q1:=q.1;dsimp only at q1;omega),if_neg (show¬(20:Int)=0 by decide),if_neg (show¬jmpB 20=true by decide),if_pos (show askB 20=true from rfl),h,Int.toNat_natCast]
 show ((⟨p+1,updR r a.toNat (seeM t s x),st⟩:Th),lockS (tOps B t) s p x (seeM t s x) ((seeM t s x+r a.toNat)% 4294967296) true)=_
 rw [see_mem hb]
 rfl
theorem in_cas {x:Nat} (hb:bufM s t=[]) (h:addrF ⟨p,r,st⟩ ⟨21,a,b,c,k⟩=(x:Int)):insR (tOps B t) s ⟨p,r,st⟩ ⟨21,a,b,c,k⟩=(⟨p+1,updR r a.toNat (s.mem.getD x 0),st⟩,lockM t s p x (r c.toNat) (s.mem.getD x 0==r a.toNat)):=by
 unfold insR
 have he:=empty_of (B:=B) hb
 rw [if_neg (fun q=>by rw [he]at q;cases q.2),if_neg (fun q=>by have q1:=q.1;dsimp only at q1;omega),if_neg (show¬(21:Int)=0 by decide),if_neg (show¬jmpB 21=true by decide),if_pos (show askB 21=true from rfl),h,Int.toNat_natCast]
 show ((⟨p+1,updR r a.toNat (seeM t s x),st⟩:Th),lockS (tOps B t) s p x (seeM t s x) (r c.toNat) (seeM t s x==r a.toNat))=_
 rw [see_mem hb]
 rfl
theorem in_wait {x:Nat} (hb:bufM s t=[]) (h:addrF ⟨p,r,st⟩ ⟨23,a,b,c,k⟩=(x:Int)):insR (tOps B t) s ⟨p,r,st⟩ ⟨23,a,b,c,k⟩=
 if s.mem.getD x 0=r a.toNat then (⟨p+1,updR r a.toNat 0,1⟩,sleepM (t:Int) (noteM (t:Int) s ⟨8,0,p,(x:Int),s.mem.getD x 0,0,0,true⟩) x)else (⟨p+1,updR r a.toNat 1,st⟩,noteM (t:Int) s ⟨8,0,p,(x:Int),s.mem.getD x 0,0,0,false⟩):=by
 unfold insR
 have he:=empty_of (B:=B) hb
 rw [if_neg (fun q=>by rw [he]at q;cases q.2),if_neg (fun q=>by have q1:=q.1;dsimp only at q1;omega),if_neg (show¬(23:Int)=0 by decide),if_neg (show¬jmpB 23=true by decide),if_pos (show askB 23=true from rfl),h,Int.toNat_natCast]
 show (({(waitR (tOps B t) s ⟨p,r,st⟩ x a.toNat).1 with pc:=p+1}:Th),(waitR (tOps B t) s ⟨p,r,st⟩ x a.toNat).2)=_
 have e:waitR (tOps B t) s ⟨p,r,st⟩ x a.toNat=if s.mem.getD x 0=r a.toNat then (⟨p,updR r a.toNat 0,1⟩,sleepM (t:Int) (noteM (t:Int) s ⟨8,0,p,(x:Int),s.mem.getD x 0,0,0,true⟩) x)else (⟨p,updR r a.toNat 1,st⟩,noteM (t:Int) s ⟨8,0,p,(x:Int),s.mem.getD x 0,0,0,false⟩):=by
  have hl:(tOps B t).load s x=(s.mem.getD x 0,s):=by
   show (seeM t s x,s)=_
   rw [see_mem hb]
  unfold waitR
  rw [hl]
  rfl
 rw [e]
 split<;>rfl
theorem in_wake {x:Nat} (hb:bufM s t=[]) (h:addrF ⟨p,r,st⟩ ⟨24,a,b,c,k⟩=(x:Int)):insR (tOps B t) s ⟨p,r,st⟩ ⟨24,a,b,c,k⟩=(⟨p+1,updR r a.toNat (wakeM s x (r a.toNat)).1,st⟩,noteM (t:Int) (wakeM s x (r a.toNat)).2 ⟨9,0,p,(x:Int),(wakeM s x (r a.toNat)).1,0,0,false⟩):=by
 unfold insR
 have he:=empty_of (B:=B) hb
 rw [if_neg (fun q=>by rw [he]at q;cases q.2),if_neg (fun q=>by have q1:=q.1;dsimp only at q1;omega),if_neg (show¬(24:Int)=0 by decide),if_neg (show¬jmpB 24=true by decide),if_pos (show askB 24=true from rfl),h,Int.toNat_natCast]
 rfl
end
def upd {α:Type} (f:Nat->α) (t:Nat) (x:α):Nat->α:=fun u=>if u=t then x else f u
theorem upd_same {α:Type} (f:Nat->α) (t:Nat) (x:α):upd f t x t=x:=if_pos rfl
theorem upd_ne {α:Type} (f:Nat->α) (t:Nat) (x:α) {u:Nat} (h:u≠t):upd f t x u=f u:=if_neg h
theorem upd_self {α:Type} (f:Nat->α) (t:Nat):upd f t (f t)=f:=by
 funext u
 unfold upd
 split
 ·rename_i h;rw [h]
 ·rfl
structure Vw where
 th:Nat->Th
 bf:Nat->List Ent
 mem:Nat->Int
 slp:List Slp
 evs:List Evt
def memM (s:Mst):Nat->Int:=fun a=>s.mem.getD a 0
def vw (s:Mst):Vw:=⟨thM s,bufM s,memM s,s.slp,s.evs⟩
def Vw.mv (v:Vw) (t:Nat) (th:Th) (b:List Ent) (mem:Nat->Int) (l:List Evt):Vw:=⟨upd v.th t th,upd v.bf t b,mem,v.slp,v.evs++l⟩
def seeV (b:List Ent) (mem:Nat->Int) (x:Nat):Int:=if (fnB b (x:Int)).2=true then (fnB b (x:Int)).1 else mem x
theorem seeV_nil (mem:Nat->Int) (x:Nat):seeV [] mem x=mem x:=rfl
def runV (ws:List Int) (f:Nat->Th):Nat->Th:=fun u=>if (u:Int)∈ws then {f u with st:=0}else f u
def flushV (t:Nat) (v:Vw):Vw:=match v.bf t with
 |[]=>v
 |x::l=>⟨v.th,upd v.bf t l,upd v.mem x.1.toNat x.2,v.slp,v.evs++[⟨3,(t:Int),0,x.1,x.2,0,0,false⟩]⟩
inductive Op
 |set (a:Nat) (k:Int)|move (a b:Nat)|add (a b c:Nat)|and (a b c:Nat)|same (a b c:Nat)
 |jump (k:Nat)|zero (a k:Nat)|some (a k:Nat)|load (a x:Nat)|store (a x:Nat)|swap (a x:Nat)|fetch (a x:Nat)|cas (a c x:Nat)
 |out (a:Nat)|wait (a x:Nat)|wake (a x:Nat)|mark (k:Nat)
def Op.ins:Op->Ins
 | .set a k=>⟨1,a,0,0,k⟩
 | .move a b=>⟨2,a,b,0,0⟩
 | .add a b c=>⟨3,a,b,c,0⟩
 | .and a b c=>⟨6,a,b,c,0⟩
 | .same a b c=>⟨12,a,b,c,0⟩
 | .jump k=>⟨13,0,0,0,k⟩
 | .zero a k=>⟨14,a,0,0,k⟩
 | .some a k=>⟨15,a,0,0,k⟩
 | .load a x=>⟨16,a,8,0,x⟩
 | .store a x=>⟨17,a,8,0,x⟩
 | .swap a x=>⟨19,a,8,0,x⟩
 | .fetch a x=>⟨20,a,8,0,x⟩
 | .cas a c x=>⟨21,a,8,c,x⟩
 | .out a=>⟨22,a,0,0,0⟩
 | .wait a x=>⟨23,a,8,0,x⟩
 | .wake a x=>⟨24,a,8,0,x⟩
 | .mark k=>⟨27,7,0,0,k⟩
def Op.word:Op->Option Nat
 | .load _ x| .store _ x| .swap _ x| .fetch _ x| .cas _ _ x| .wait _ x| .wake _ x=>Option.some x
 |_=>none
def Op.drains:Op->Bool
 | .swap _ _| .fetch _ _| .cas _ _ _| .wait _ _| .wake _ _=>true
 |_=>false
def Op.stores:Op->Bool
 | .store _ _=>true
 |_=>false
def execV (t:Nat) (v:Vw) (p:Nat) (r:Nat->Int):Op->Vw
 | .set a k=>v.mv t ⟨((p+1:Nat):Int),updR r a k,0⟩ (v.bf t) v.mem []
 | .move a b=>v.mv t ⟨((p+1:Nat):Int),updR r a (r b),0⟩ (v.bf t) v.mem []
 | .add a b c=>v.mv t ⟨((p+1:Nat):Int),updR r a ((r b+r c)% 4294967296),0⟩ (v.bf t) v.mem []
 | .and a b c=>v.mv t ⟨((p+1:Nat):Int),updR r a (bits .and .u32 (r b) (r c)),0⟩ (v.bf t) v.mem []
 | .same a b c=>v.mv t ⟨((p+1:Nat):Int),updR r a (if r b=r c then 1 else 0),0⟩ (v.bf t) v.mem []
 | .jump k=>v.mv t ⟨(k:Int),r,0⟩ (v.bf t) v.mem []
 | .zero a k=>v.mv t ⟨if r a=0 then (k:Int)else ((p+1:Nat):Int),r,0⟩ (v.bf t) v.mem []
 | .some a k=>v.mv t ⟨if r a=0 then ((p+1:Nat):Int)else (k:Int),r,0⟩ (v.bf t) v.mem []
 | .load a x=>v.mv t ⟨((p+1:Nat):Int),updR r a (seeV (v.bf t) v.mem x),0⟩ (v.bf t) v.mem [⟨1,(t:Int),(p:Int),(x:Int),seeV (v.bf t) v.mem x,0,0,false⟩]
 | .store a x=>v.mv t ⟨((p+1:Nat):Int),r,0⟩ (v.bf t++[((x:Int),r a)]) v.mem [⟨2,(t:Int),(p:Int),(x:Int),r a,0,0,false⟩]
 | .swap a x=>v.mv t ⟨((p+1:Nat):Int),updR r a (v.mem x),0⟩ (v.bf t) (upd v.mem x (r a)) [⟨4,(t:Int),(p:Int),(x:Int),r a,v.mem x,0,true⟩]
 | .fetch a x=>v.mv t ⟨((p+1:Nat):Int),updR r a (v.mem x),0⟩ (v.bf t) (upd v.mem x ((v.mem x+r a)% 4294967296)) [⟨4,(t:Int),(p:Int),(x:Int),(v.mem x+r a)% 4294967296,v.mem x,0,true⟩]
 | .cas a c x=>if v.mem x=r a then v.mv t ⟨((p+1:Nat):Int),updR r a (v.mem x),0⟩ (v.bf t) (upd v.mem x (r c)) [⟨4,(t:Int),(p:Int),(x:Int),r c,v.mem x,0,true⟩]
    else v.mv t ⟨((p+1:Nat):Int),updR r a (v.mem x),0⟩ (v.bf t) v.mem [⟨4,(t:Int),(p:Int),(x:Int),v.mem x,v.mem x,0,false⟩]
 | .out a=>v.mv t ⟨((p+1:Nat):Int),r,0⟩ (v.bf t) v.mem [⟨6,(t:Int),(p:Int),0,r a,0,0,false⟩]
 | .wait a x=>if v.mem x=r a then {v.mv t ⟨((p+1:Nat):Int),updR r a 0,1⟩ (v.bf t) v.mem [⟨8,(t:Int),(p:Int),(x:Int),v.mem x,0,0,true⟩]with slp:=if slpE v.slp (t:Int)=0 then v.slp++[((t:Int),(x:Int))]else v.slp}
    else v.mv t ⟨((p+1:Nat):Int),updR r a 1,0⟩ (v.bf t) v.mem [⟨8,(t:Int),(p:Int),(x:Int),v.mem x,0,0,false⟩]
 | .wake a x=>let w:=wk (x:Int) (r a).toNat v.slp
    ⟨upd (runV w.2 v.th) t ⟨((p+1:Nat):Int),updR r a (w.2.length:Int),0⟩,v.bf,v.mem,w.1,v.evs++[⟨9,(t:Int),(p:Int),(x:Int),(w.2.length:Int),0,0,false⟩]⟩
 | .mark k=>v.mv t ⟨((p+1:Nat):Int),r,0⟩ (v.bf t) v.mem [⟨7,(t:Int),(p:Int),0,r 7,0,(k:Int),false⟩]
theorem getD_set_upd {α:Type} (l:List α) (t:Nat) (x d:α) (h:t<l.length):(fun u=>(l.set t x).getD u d)=upd (fun u=>l.getD u d) t x:=by
 funext u
 unfold upd
 by_cases c:u=t
 ·rw [if_pos c,c]
  simp [List.getD_eq_getElem?_getD,List.getElem?_set_self h]
 ·rw [if_neg c]
  simp [List.getD_eq_getElem?_getD,List.getElem?_set_ne (Ne.symm c)]
theorem set_same {α:Type} (l:List α) (i:Nat) (d:α):l.set i (l.getD i d)=l:=by
 refine List.ext_getElem? fun j=>?_
 by_cases c:i=j
 ·subst c
  rcases Nat.lt_or_ge i l.length with h|h
  ·rw [List.getElem?_set_self h,List.getD_eq_getElem?_getD,List.getElem?_eq_getElem h];rfl
  ·rw [List.set_eq_of_length_le h]
 ·rw [List.getElem?_set_ne c]
section
variable {s:Mst} {t:Nat}
theorem vw_set (ht:t<s.ths.length) (hb:t<s.bufs.length) (th:Th) (b:List Ent) (mem:List Int) (slp:List Slp) (evs:List Evt) (who:Int):
 vw ⟨s.ths.set t th,s.bufs.set t b,mem,slp,evs,who⟩=⟨upd (thM s) t th,upd (bufM s) t b,fun a=>mem.getD a 0,slp,evs⟩:=by
 unfold vw
 congr 1
 ·exact getD_set_upd s.ths t th tha ht
 ·exact getD_set_upd s.bufs t b [] hb
theorem vw_th (ht:t<s.ths.length) (hb:t<s.bufs.length) (th:Th) (mem:List Int) (slp:List Slp) (evs:List Evt) (who:Int):
 vw ⟨s.ths.set t th,s.bufs,mem,slp,evs,who⟩=⟨upd (thM s) t th,upd (bufM s) t (bufM s t),fun a=>mem.getD a 0,slp,evs⟩:=by
 have e:s.bufs.set t (bufM s t)=s.bufs:=set_same s.bufs t []
 have :=vw_set ht hb th (bufM s t) mem slp evs who
 rw [e]at this
 exact this
theorem vw_flush (t:Nat) (hl: ∀b∈s.bufs,∀e∈b,0<=e.1/\e.1<(s.mem.length:Int)):vw (tflush t s)=flushV t (vw s):=by
 unfold flushV
 show vw (tflush t s)=match bufM s t with
  |[]=>vw s
  |x::l=>_
 cases hb:bufM s t with
 |nil=>rw [tflush_nil hb]
 |cons x l=>
  have ht:t<s.bufs.length:=by
   rcases Nat.lt_or_ge t s.bufs.length with h|h
   ·exact h
   ·unfold bufM at hb;rw [getD_nil_of_ge _ _ _ h]at hb;cases hb
  have hx:=hl (bufM s t) (getD_mem ht) x (by rw [hb];exact List.mem_cons_self)
  rw [tflush_cons hb]
  unfold vw
  congr 1
  ·exact getD_set_upd s.bufs t l [] ht
  ·exact getD_set_upd s.mem x.1.toNat x.2 0 (by omega)
end
theorem runT_get (ths:List Th) (ws:List Int) (h: ∀w∈ws,0<=w/\w<(ths.length:Int)):(fun u=>(runT ths ws).getD u tha)=runV ws (fun u=>ths.getD u tha):=by
 induction ws generalizing ths with
 |nil=>funext u;unfold runV;rw [if_neg (by simp)];rfl
 |cons w ws ih=>
  have hw:=h w (by simp)
  have hlt:w.toNat<ths.length:=by omega
  show (fun u=>(runT (ths.set w.toNat {ths.getD w.toNat tha with st:=0}) ws).getD u tha)=_
  rw [ih _ (fun x hx=>by rw [List.length_set];exact h x (by simp [hx])),getD_set_upd _ _ _ _ hlt]
  funext u
  unfold runV upd
  by_cases c:u=w.toNat
  ·subst c
   rw [if_pos rfl]
   have hm:((w.toNat:Nat):Int)∈w::ws:=by
    rw [Int.toNat_of_nonneg hw.1];exact List.mem_cons_self
   rw [if_pos hm]
   split<;>rfl
  ·rw [if_neg c]
   have :((u:Int)∈w::ws)↔(u:Int)∈ws:=by
    rw [List.mem_cons]
    constructor
    ·rintro (e|e)
     ·exact absurd (by omega) c
     ·exact e
    ·exact .inr
   by_cases d:(u:Int)∈ws
   ·rw [if_pos d,if_pos (this.2 d)]
   ·rw [if_neg d,if_neg (fun q=>d (this.1 q))]
structure At (B:MB) (s:Mst) (t p:Nat) (r:Nat->Int) (o:Op):Prop where
 th:thM s t=⟨(p:Int),r,0⟩
 lt:p<(B.codes.getD t cdd).len
 F:(B.codes.getD t cdd).F p=o.ins
 ok:rightB o.ins (B.codes.getD t cdd).len=true
 ht:t<s.ths.length
 hb:t<s.bufs.length
 m:s.mem.length=B.m
 word: ∀x,o.word=some x->x<B.m
 room:1<=B.room
 buf: ∀b∈s.bufs,∀e∈b,0<=e.1/\e.1<(B.m:Int)
 slp: ∀x∈s.slp,0<=x.1/\x.1<(s.ths.length:Int)
section
variable {B:MB} {s:Mst} {t p:Nat} {r:Nat->Int} {o:Op}
theorem At.flush (h:At B s t p r o):vw (tflush t s)=flushV t (vw s):=vw_flush t (by rw [h.m];exact h.buf)
theorem At.addr (h:At B s t p r o):askB o.ins.op=true->addrF ⟨(p:Int),r,0⟩ o.ins<(B.m:Int):=fun q=>by
 cases o with
 |set|move|add|and|same|jump|zero|some|out|mark=>exact absurd q (by show¬askB _=true;unfold askB;simp [Op.ins])
 |load a x|store a x|swap a x|fetch a x|cas a c x|wait a x|wake a x=>
  have :=h.word x rfl
  show (x:Int)<(B.m:Int)
  omega
theorem At.step (h:At B s t p r o):tStep B s t={(insR (tOps B t) s ⟨(p:Int),r,0⟩ o.ins).2 with ths:=(insR (tOps B t) s ⟨(p:Int),r,0⟩ o.ins).2.ths.set t (insR (tOps B t) s ⟨(p:Int),r,0⟩ o.ins).1}:=
 tStep_at h.th rfl rfl h.lt h.F h.ok h.addr
theorem flush_th (hth:thM s t=⟨(p:Int),r,0⟩):({tflush t s with ths:=(tflush t s).ths.set t ⟨(p:Int),r,0⟩}:Mst)=tflush t s:=by
 have e:(tflush t s).ths.set t ⟨(p:Int),r,0⟩=(tflush t s).ths:=by
  rw [(tflush_same t s).1,<-hth]
  exact set_same s.ths t tha
 rw [e]
theorem step_view (h:At B s t p r o):(bufM s t≠[]/\vw (tStep B s t)=flushV t (vw s))∨
 ((o.drains=true->bufM s t=[])/\(o.stores=true->((bufM s t).length:Int)<B.room)/\vw (tStep B s t)=execV t (vw s) p r o):=by
 have hs:=h.step
 have quiet: ∀(th':Th),insR (tOps B t) s ⟨(p:Int),r,0⟩ o.ins=(th',s)->vw (tStep B s t)=(vw s).mv t th' (bufM s t) (memM s) []:=fun th' e=>by
  rw [hs,e]
  refine (vw_th h.ht h.hb th' s.mem s.slp s.evs s.who).trans ?_
  unfold Vw.mv
  rw [List.append_nil]
  rfl
 have noted: ∀(th':Th) (x:Evt),insR (tOps B t) s ⟨(p:Int),r,0⟩ o.ins=(th',noteM (t:Int) s x)->vw (tStep B s t)=(vw s).mv t th' (bufM s t) (memM s) [{x with who:=(t:Int)}]:=fun th' x e=>by
  rw [hs,e]
  exact vw_th h.ht h.hb th' s.mem s.slp (s.evs++[{x with who:=(t:Int)}]) s.who
 have locked: ∀(th':Th) (x:Nat) (v:Int) (ok:Bool),x<B.m->insR (tOps B t) s ⟨(p:Int),r,0⟩ o.ins=(th',lockM t s (p:Int) x v ok)->
  vw (tStep B s t)=(vw s).mv t th' (bufM s t) (if ok then upd (memM s) x v else memM s) [⟨4,(t:Int),(p:Int),(x:Int),if ok then v else memM s x,memM s x,0,ok⟩]:=fun th' x v ok hx e=>by
  rw [hs,e]
  have e2:=vw_th h.ht h.hb th' (if ok then s.mem.set x v else s.mem) s.slp (s.evs++[⟨4,(t:Int),(p:Int),(x:Int),if ok then v else s.mem.getD x 0,s.mem.getD x 0,0,ok⟩]) s.who
  cases ok with
  |false=>exact e2
  |true=>
   refine (show vw _=_ from e2).trans ?_
   unfold Vw.mv
   congr 1
   exact getD_set_upd s.mem x v 0 (by rw [h.m];exact hx)
 have flushed:insR (tOps B t) s ⟨(p:Int),r,0⟩ o.ins=(⟨(p:Int),r,0⟩,tflush t s)->vw (tStep B s t)=flushV t (vw s):=fun e=>by
  rw [hs,e]
  show vw {tflush t s with ths:=(tflush t s).ths.set t ⟨(p:Int),r,0⟩}=_
  rw [flush_th h.th,h.flush]
 have see: ∀x,seeM t s x=seeV (bufM s t) (memM s) x:=fun x=>rfl
 cases o with
 |set a k=>exact .inr ⟨(fun q=>by cases q),(fun q=>by cases q),quiet _ in_set⟩
 |move a b=>exact .inr ⟨(fun q=>by cases q),(fun q=>by cases q),quiet _ in_move⟩
 |add a b c=>exact .inr ⟨(fun q=>by cases q),(fun q=>by cases q),quiet _ (in_alu 3 (by decide) (by decide))⟩
 |and a b c=>exact .inr ⟨(fun q=>by cases q),(fun q=>by cases q),quiet _ (in_alu 6 (by decide) (by decide))⟩
 |same a b c=>exact .inr ⟨(fun q=>by cases q),(fun q=>by cases q),quiet _ (in_alu 12 (by decide) (by decide))⟩
 |jump k=>exact .inr ⟨(fun q=>by cases q),(fun q=>by cases q),quiet _ in_jump⟩
 |zero a k=>exact .inr ⟨(fun q=>by cases q),(fun q=>by cases q),quiet _ in_zero⟩
 |some a k=>exact .inr ⟨(fun q=>by cases q),(fun q=>by cases q),quiet _ in_some⟩
 |load a x=>exact .inr ⟨(fun q=>by cases q),(fun q=>by cases q),noted _ _ (in_load (x:=x) rfl)⟩
 |out a=>exact .inr ⟨(fun q=>by cases q),(fun q=>by cases q),noted _ _ in_out⟩
 |mark k=>exact .inr ⟨(fun q=>by cases q),(fun q=>by cases q),noted _ _ in_mark⟩
 |store a x=>
  by_cases c:((bufM s t).length:Int)<B.room
  ·refine .inr ⟨(fun q=>by cases q),fun _=>c,?_⟩
   have e:=in_store (B:=B) (s:=s) (t:=t) (p:=(p:Int)) (r:=r) (st:=0) (a:=(a:Int)) (b:=8) (c:=0) (k:=(x:Int)) (x:=x) rfl (h.word x rfl) c
   rw [hs]
   show vw {(insR (tOps B t) s ⟨(p:Int),r,0⟩ ⟨17,a,8,0,x⟩).2 with ths:=(insR (tOps B t) s ⟨(p:Int),r,0⟩ ⟨17,a,8,0,x⟩).2.ths.set t (insR (tOps B t) s ⟨(p:Int),r,0⟩ ⟨17,a,8,0,x⟩).1}=_
   rw [e]
   exact vw_set h.ht h.hb ⟨(p:Int)+1,r,0⟩ (bufM s t++[((x:Int),r a)]) s.mem s.slp (s.evs++[⟨2,(t:Int),(p:Int),(x:Int),r a,0,0,false⟩]) s.who
  ·refine .inl ⟨fun e=>c ?_,flushed (in_full c)⟩
   rw [e]
   have :=h.room
   show (0:Int)<B.room
   omega
 |swap a x=>
  by_cases c:bufM s t=[]
  ·exact .inr ⟨fun _=>c,(fun q=>by cases q),locked _ x _ true (h.word x rfl) (in_swap (x:=x) c rfl)⟩
  ·exact .inl ⟨c,flushed (in_drain (.inl ⟨by decide,by decide⟩) c)⟩
 |fetch a x=>
  by_cases c:bufM s t=[]
  ·exact .inr ⟨fun _=>c,(fun q=>by cases q),locked _ x _ true (h.word x rfl) (in_fetch (x:=x) c rfl)⟩
  ·exact .inl ⟨c,flushed (in_drain (.inl ⟨by decide,by decide⟩) c)⟩
 |cas a c x=>
  by_cases d:bufM s t=[]
  ·refine .inr ⟨fun _=>d,(fun q=>by cases q),?_⟩
   refine (locked _ x _ _ (h.word x rfl) (in_cas (x:=x) d rfl)).trans ?_
   show _=if memM s x=r a then _ else _
   by_cases g:memM s x=r a
   ·have g':(s.mem.getD x 0==r (Int.toNat (a:Int)))=true:=beq_iff_eq.2 g
    rw [g',if_pos g]
    rfl
   ·have g':(s.mem.getD x 0==r (Int.toNat (a:Int)))=false:=beq_eq_false_iff_ne.2 g
    rw [g',if_neg g]
    rfl
  ·exact .inl ⟨d,flushed (in_drain (.inl ⟨by decide,by decide⟩) d)⟩
 |wait a x=>
  by_cases d:bufM s t=[]
  ·refine .inr ⟨fun _=>d,(fun q=>by cases q),?_⟩
   have e:=in_wait (B:=B) (s:=s) (t:=t) (p:=(p:Int)) (r:=r) (st:=0) (a:=(a:Int)) (b:=8) (c:=0) (k:=(x:Int)) (x:=x) d rfl
   show _=if memM s x=r a then _ else _
   by_cases g:memM s x=r a
   ·rw [if_pos (show s.mem.getD x 0=r (Int.toNat (a:Int)) from g)]at e
    rw [if_pos g,hs]
    show vw {(insR (tOps B t) s ⟨(p:Int),r,0⟩ ⟨23,a,8,0,x⟩).2 with ths:=(insR (tOps B t) s ⟨(p:Int),r,0⟩ ⟨23,a,8,0,x⟩).2.ths.set t (insR (tOps B t) s ⟨(p:Int),r,0⟩ ⟨23,a,8,0,x⟩).1}=_
    obtain ⟨N,hN⟩: ∃N,noteM (t:Int) s ⟨8,0,(p:Int),(x:Int),s.mem.getD x 0,0,0,true⟩=N:=⟨_,rfl⟩
    have eS:sleepM (t:Int) N x=⟨s.ths,s.bufs,s.mem,if slpE s.slp (t:Int)=0 then s.slp++[((t:Int),(x:Int))]else s.slp,s.evs++[⟨8,(t:Int),(p:Int),(x:Int),s.mem.getD x 0,0,0,true⟩],s.who⟩:=by
     rw [<-hN]
     unfold sleepM
     by_cases z:slpE s.slp (t:Int)=0
     ·rw [if_pos z]
      exact if_pos z
     ·rw [if_neg z]
      exact if_neg z
    rw [hN,eS]at e
    rw [e]
    exact vw_th h.ht h.hb ⟨(p:Int)+1,updR r a 0,1⟩ s.mem (if slpE s.slp (t:Int)=0 then s.slp++[((t:Int),(x:Int))]else s.slp) (s.evs++[⟨8,(t:Int),(p:Int),(x:Int),s.mem.getD x 0,0,0,true⟩]) s.who
   ·rw [if_neg (show¬s.mem.getD x 0=r (Int.toNat (a:Int)) from g)]at e
    rw [if_neg g]
    exact noted _ _ e
  ·exact .inl ⟨d,flushed (in_drain (.inr ⟨by decide,by decide⟩) d)⟩
 |wake a x=>
  by_cases d:bufM s t=[]
  ·refine .inr ⟨fun _=>d,(fun q=>by cases q),?_⟩
   have e:=in_wake (B:=B) (s:=s) (t:=t) (p:=(p:Int)) (r:=r) (st:=0) (a:=(a:Int)) (b:=8) (c:=0) (k:=(x:Int)) (x:=x) d rfl
   rw [hs]
   show vw {(insR (tOps B t) s ⟨(p:Int),r,0⟩ ⟨24,a,8,0,x⟩).2 with ths:=(insR (tOps B t) s ⟨(p:Int),r,0⟩ ⟨24,a,8,0,x⟩).2.ths.set t (insR (tOps B t) s ⟨(p:Int),r,0⟩ ⟨24,a,8,0,x⟩).1}=_
   rw [e]
   have hw: ∀w∈(wk (x:Int) (r a).toNat s.slp).2,0<=w/\w<(s.ths.length:Int):=fun w hw=>by
    obtain ⟨y,h1,h2⟩:=(wk_sub (x:Int) (r a).toNat s.slp).2 w hw
    rw [<-h2]
    exact h.slp y h1
   have hg:=runT_get s.ths _ hw
   show (⟨_,_,_,_,_⟩:Vw)=⟨_,_,_,_,_⟩
   congr 1
   have h2:=getD_set_upd (runT s.ths (wk (x:Int) (r a).toNat s.slp).2) t ⟨(p:Int)+1,updR r a ((wk (x:Int) (r a).toNat s.slp).2.length:Int),0⟩ tha (by rw [runT_len];exact h.ht)
   rw [hg]at h2
   exact h2
  ·exact .inl ⟨d,flushed (in_drain (.inr ⟨by decide,by decide⟩) d)⟩
end
theorem end_view {B:MB} {s:Mst} {t:Nat} {p r} (hth:thM s t=⟨p,r,0⟩) (hpc:((B.codes.getD t cdd).len:Int)<=p) (ht:t<s.ths.length) (hb:t<s.bufs.length):
 vw (tStep B s t)=(vw s).mv t ⟨p,r,2⟩ (bufM s t) (memM s) [⟨12,(t:Int),p,0,0,0,0,false⟩]:=by
 rw [tStep_end hth rfl hpc]
 exact vw_th ht hb ⟨p,r,2⟩ s.mem s.slp (s.evs++[⟨12,(t:Int),p,0,0,0,0,false⟩]) s.who
theorem rouse_view {s:Mst} {t:Nat} (ht:t<s.ths.length) (hb:t<s.bufs.length):rouseM t s=s∨
 (fnd s.slp (t:Int)<s.slp.length/\vw (rouseM t s)={(vw s).mv t ⟨(thM s t).pc,(thM s t).regs,0⟩ (bufM s t) (memM s) [⟨11,(t:Int),0,0,0,0,0,false⟩]with slp:=s.slp.eraseIdx (fnd s.slp (t:Int))}):=by
 unfold rouseM
 by_cases c:fnd s.slp (t:Int)<s.slp.length
 ·rw [if_pos c]
  refine .inr ⟨c,?_⟩
  show vw ⟨s.ths.set t ⟨(thM s t).pc,(thM s t).regs,0⟩,s.bufs,s.mem,s.slp.eraseIdx (fnd s.slp (t:Int)),s.evs++[⟨11,(t:Int),0,0,0,0,0,false⟩],s.who⟩=_
  exact vw_th ht hb ⟨(thM s t).pc,(thM s t).regs,0⟩ s.mem (s.slp.eraseIdx (fnd s.slp (t:Int))) (s.evs++[⟨11,(t:Int),0,0,0,0,0,false⟩]) s.who
 ·rw [if_neg c]
  exact .inl rfl
end Go.Proofs.YtmhfpjnkjlhbpaaGreatDoor
