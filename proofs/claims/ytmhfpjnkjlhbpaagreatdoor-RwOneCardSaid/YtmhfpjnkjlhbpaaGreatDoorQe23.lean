/- Two ports that do alike: a step over the one and a step over the other do alike (plain). A machine with buffers (plain): what a step does, instruction by instruction. -/
import Derived.Test.YtmhfpjnkjlhbpaaGreatDoorQe17
import Derived.Test.YtmhfpjnkjlhbpaaGreatDoorQe22
namespace Go.Proofs.YtmhfpjnkjlhbpaaGreatDoor
open Go.ChangeShapes Go.WideShapes Go.ChangeAt Go.RowKit Go.Deep
set_option linter.unusedVariables false
set_option maxRecDepth 100000
set_option linter.unusedSimpArgs false
section
variable {σ τ:Type} {O:Ops σ} {P:Ops τ} {D:Prop} {R R':σ->τ->Prop}
end
theorem tPick_in {B:MB} {s:Mst} (k:Int) (t:Nat) (h:t<s.ths.length):tPick B s (k,(t:Int))=if k=0 then tStep B s t else if k=1 then tflush t s else if k=2 then rouseM t s else s:=by
 unfold tPick
 rw [if_neg (show¬((t:Int)<0∨(s.ths.length:Int)<=(t:Int)) by omega)]
 simp only [Int.toNat_natCast]
theorem drainP_iff (op:Int):DrainP op↔(18<=op/\op<=21∨23<=op/\op<=25):=Iff.rfl
def bufM (s:Mst) (t:Nat):List Ent:=s.bufs.getD t []
def thM (s:Mst) (t:Nat):Th:=s.ths.getD t tha
theorem tStep_at {B:MB} {s:Mst} {t:Nat} {th:Th} {i:Ins} {p:Nat} (hth:thM s t=th) (hst:th.st=0) (hpc:th.pc=(p:Int)) (hl:p<(B.codes.getD t cdd).len) (hi:(B.codes.getD t cdd).F p=i) (hr:rightB i (B.codes.getD t cdd).len=true) (ha:askB i.op=true->addrF th i<(B.m:Int)):
 tStep B s t={(insR (tOps B t) s th i).2 with ths:=(insR (tOps B t) s th i).2.ths.set t (insR (tOps B t) s th i).1}:=by
 have e:stepR (tOps B t) s th (B.codes.getD t cdd)=insR (tOps B t) s th i:=by
  unfold stepR
  rw [if_neg (fun q=>q hst),if_neg (by rw [hpc];omega),hpc,Int.toNat_natCast,hi,if_neg (by rw [hr];decide),if_neg (fun q=>by have h1:=ha q.1;have h2:(B.m:Int)<=addrF th i:=q.2;omega)]
 unfold tStep
 show (let r:=stepR (tOps B t) s (thM s t) (B.codes.getD t cdd);{r.2 with ths:=r.2.ths.set t r.1}:Mst)=_
 rw [hth,e]
theorem tStep_end {B:MB} {s:Mst} {t:Nat} {th:Th} (hth:thM s t=th) (hst:th.st=0) (hpc:((B.codes.getD t cdd).len:Int)<=th.pc):
 tStep B s t={noteM (t:Int) s ⟨12,0,th.pc,0,0,0,0,false⟩with ths:=s.ths.set t {th with st:=2}}:=by
 unfold tStep
 show (let r:=stepR (tOps B t) s (thM s t) (B.codes.getD t cdd);{r.2 with ths:=r.2.ths.set t r.1}:Mst)=_
 rw [hth]
 unfold stepR
 rw [if_neg (fun q=>q hst),if_pos (.inr hpc)]
 rfl
theorem tStep_not {B:MB} {s:Mst} {t:Nat} (hst:(thM s t).st≠0):tStep B s t=s:=by
 unfold tStep
 show (let r:=stepR (tOps B t) s (thM s t) (B.codes.getD t cdd);{r.2 with ths:=r.2.ths.set t r.1}:Mst)=_
 unfold stepR
 rw [if_pos hst]
 show ({s with ths:=s.ths.set t (thM s t)}:Mst)=s
 have e:s.ths.set t (thM s t)=s.ths:=by
  unfold thM
  refine List.ext_getElem? fun j=>?_
  by_cases c:t=j
  ·subst c
   rcases Nat.lt_or_ge t s.ths.length with h|h
   ·rw [List.getElem?_set_self h,List.getD_eq_getElem?_getD,List.getElem?_eq_getElem h];rfl
   ·rw [List.set_eq_of_length_le h]
  ·rw [List.getElem?_set_ne c]
 rw [e]
section
variable {B:MB} {s:Mst} {t:Nat} {p:Int} {r:Nat->Int} {st a b c k:Int}
theorem in_set:insR (tOps B t) s ⟨p,r,st⟩ ⟨1,a,b,c,k⟩=(⟨p+1,updR r a.toNat k,st⟩,s):=by
 unfold insR
 rw [if_neg (fun q=>by have :=(drainP_iff _).1 q.1;dsimp only at this;omega),if_neg (fun q=>by have q1:=q.1;dsimp only at q1;omega)]
 rfl
theorem in_move:insR (tOps B t) s ⟨p,r,st⟩ ⟨2,a,b,c,k⟩=(⟨p+1,updR r a.toNat (r b.toNat),st⟩,s):=by
 unfold insR
 rw [if_neg (fun q=>by have :=(drainP_iff _).1 q.1;dsimp only at this;omega),if_neg (fun q=>by have q1:=q.1;dsimp only at q1;omega)]
 rfl
theorem in_alu (op:Nat) (h3:3<=op) (h12:op<=12):insR (tOps B t) s ⟨p,r,st⟩ ⟨(op:Int),a,b,c,k⟩=(⟨p+1,updR r a.toNat (aluF op (r b.toNat) (r c.toNat)),st⟩,s):=by
 unfold insR
 have hj:jmpB (op:Int)=false:=decide_eq_false (by omega)
 have hk:askB (op:Int)=false:=decide_eq_false (by omega)
 rw [if_neg (fun q=>by have :=(drainP_iff _).1 q.1;dsimp only at this;omega),if_neg (fun q=>by have q1:(op:Int)=17:=q.1;omega),if_neg (show¬(op:Int)=0 by omega),if_neg (show¬jmpB (op:Int)=true by rw [hj];decide),if_neg (show¬askB (op:Int)=true by rw [hk];decide)]
 show ((⟨p+1,(plainR (tOps B t) s ⟨p,r,st⟩ (op:Int).toNat a.toNat b.toNat c.toNat k 0).1.regs,(plainR (tOps B t) s ⟨p,r,st⟩ (op:Int).toNat a.toNat b.toNat c.toNat k 0).1.st⟩:Th),(plainR (tOps B t) s ⟨p,r,st⟩ (op:Int).toNat a.toNat b.toNat c.toNat k 0).2)=_
 rw [Int.toNat_natCast]
 have e:plainR (tOps B t) s ⟨p,r,st⟩ op a.toNat b.toNat c.toNat k 0=(⟨p,updR r a.toNat (aluF op (r b.toNat) (r c.toNat)),st⟩,s):=by
  unfold plainR
  rw [if_neg (by omega),if_neg (by omega),if_neg (by omega),if_neg (by omega),if_neg (by omega),if_neg (by omega),if_pos ⟨h3,h12⟩]
 rw [e]
theorem in_jump:insR (tOps B t) s ⟨p,r,st⟩ ⟨13,a,b,c,k⟩=(⟨k,r,st⟩,s):=by
 unfold insR
 rw [if_neg (fun q=>by have :=(drainP_iff _).1 q.1;dsimp only at this;omega),if_neg (fun q=>by have q1:=q.1;dsimp only at q1;omega)]
 rfl
theorem in_zero:insR (tOps B t) s ⟨p,r,st⟩ ⟨14,a,b,c,k⟩=(⟨if r a.toNat=0 then k else p+1,r,st⟩,s):=by
 unfold insR
 rw [if_neg (fun q=>by have :=(drainP_iff _).1 q.1;dsimp only at this;omega),if_neg (fun q=>by have q1:=q.1;dsimp only at q1;omega),if_neg (show¬(14:Int)=0 by decide),if_pos (show jmpB 14=true from rfl)]
 have :goesB 14 (r a.toNat)=decide (r a.toNat=0):=by unfold goesB;simp
 show ((⟨if goesB 14 (r a.toNat)=true then k else p+1,r,st⟩:Th),s)=_
 rw [this]
 by_cases h:r a.toNat=0
 ·rw [if_pos h,if_pos (by simpa using h)]
 ·rw [if_neg h,if_neg (by simpa using h)]
theorem in_some:insR (tOps B t) s ⟨p,r,st⟩ ⟨15,a,b,c,k⟩=(⟨if r a.toNat=0 then p+1 else k,r,st⟩,s):=by
 unfold insR
 rw [if_neg (fun q=>by have :=(drainP_iff _).1 q.1;dsimp only at this;omega),if_neg (fun q=>by have q1:=q.1;dsimp only at q1;omega),if_neg (show¬(15:Int)=0 by decide),if_pos (show jmpB 15=true from rfl)]
 have :goesB 15 (r a.toNat)=decide (r a.toNat≠0):=by unfold goesB;simp
 show ((⟨if goesB 15 (r a.toNat)=true then k else p+1,r,st⟩:Th),s)=_
 rw [this]
 by_cases h:r a.toNat=0
 ·rw [if_pos h,if_neg (by simpa using h)]
 ·rw [if_neg h,if_pos (by simpa using h)]
theorem in_out:insR (tOps B t) s ⟨p,r,st⟩ ⟨22,a,b,c,k⟩=(⟨p+1,r,st⟩,noteM (t:Int) s ⟨6,0,p,0,r a.toNat,0,0,false⟩):=by
 unfold insR
 rw [if_neg (fun q=>by have :=(drainP_iff _).1 q.1;dsimp only at this;omega),if_neg (fun q=>by have q1:=q.1;dsimp only at q1;omega)]
 rfl
theorem in_mark:insR (tOps B t) s ⟨p,r,st⟩ ⟨27,a,b,c,k⟩=(⟨p+1,r,st⟩,noteM (t:Int) s ⟨7,0,p,0,r a.toNat,0,k,false⟩):=by
 unfold insR
 rw [if_neg (fun q=>by have :=(drainP_iff _).1 q.1;dsimp only at this;omega),if_neg (fun q=>by have q1:=q.1;dsimp only at q1;omega)]
 rfl
theorem in_load {x:Nat} (h:addrF ⟨p,r,st⟩ ⟨16,a,b,c,k⟩=(x:Int)):insR (tOps B t) s ⟨p,r,st⟩ ⟨16,a,b,c,k⟩=(⟨p+1,updR r a.toNat (seeM t s x),st⟩,noteM (t:Int) s ⟨1,0,p,(x:Int),seeM t s x,0,0,false⟩):=by
 unfold insR
 rw [if_neg (fun q=>by have :=(drainP_iff _).1 q.1;dsimp only at this;omega),if_neg (fun q=>by have q1:=q.1;dsimp only at q1;omega),if_neg (show¬(16:Int)=0 by decide),if_neg (show¬jmpB 16=true by decide),if_pos (show askB 16=true from rfl),h,Int.toNat_natCast]
 rfl
theorem in_store {x:Nat} (h:addrF ⟨p,r,st⟩ ⟨17,a,b,c,k⟩=(x:Int)) (hx:x<B.m) (hr:((bufM s t).length:Int)<B.room):
 insR (tOps B t) s ⟨p,r,st⟩ ⟨17,a,b,c,k⟩=(⟨p+1,r,st⟩,noteM (t:Int) {s with bufs:=s.bufs.set t (bufM s t++[((x:Int),r a.toNat)])} ⟨2,0,p,(x:Int),r a.toNat,0,0,false⟩):=by
 unfold insR
 have hro:(tOps B t).room s=true:=decide_eq_true hr
 rw [if_neg (fun q=>by have :=(drainP_iff _).1 q.1;dsimp only at this;omega),if_neg (fun q=>by rw [hro]at q;cases q.2),if_neg (show¬(17:Int)=0 by decide),if_neg (show¬jmpB 17=true by decide),if_pos (show askB 17=true from rfl),h,Int.toNat_natCast]
 show ((⟨p+1,r,st⟩:Th),noteM (t:Int) (if x<B.m then {s with bufs:=s.bufs.set t (s.bufs.getD t []++[((x:Int),r a.toNat)])}else s) _)=_
 rw [if_pos hx]
 rfl
theorem in_full (hr: ¬((bufM s t).length:Int)<B.room):insR (tOps B t) s ⟨p,r,st⟩ ⟨17,a,b,c,k⟩=(⟨p,r,st⟩,tflush t s):=by
 unfold insR
 have hro:(tOps B t).room s=false:=decide_eq_false hr
 rw [if_neg (fun q=>by have :=(drainP_iff _).1 q.1;dsimp only at this;omega),if_pos ⟨rfl,hro⟩]
 rfl
theorem in_drain {op:Int} (hd:DrainP op) (hb:bufM s t≠[]):insR (tOps B t) s ⟨p,r,st⟩ ⟨op,a,b,c,k⟩=(⟨p,r,st⟩,tflush t s):=by
 unfold insR
 have he:(tOps B t).empty s=false:=decide_eq_false (by rw [List.length_eq_zero_iff];exact hb)
 rw [if_pos ⟨hd,he⟩]
 rfl
theorem empty_of (hb:bufM s t=[]):(tOps B t).empty s=true:=by
 show decide ((s.bufs.getD t []).length=0)=true
 unfold bufM at hb
 rw [hb]
 rfl
theorem see_mem (hb:bufM s t=[]) (x:Nat):seeM t s x=s.mem.getD x 0:=by
 unfold bufM at hb
 unfold seeM
 rw [hb]
 rfl
def lockM (t:Nat) (s:Mst) (p:Int) (x:Nat) (v:Int) (ok:Bool):Mst:=noteM (t:Int) (if ok then {s with mem:=s.mem.set x v}else s) ⟨4,0,p,(x:Int),if ok then v else s.mem.getD x 0,s.mem.getD x 0,0,ok⟩
theorem in_swap {x:Nat} (hb:bufM s t=[]) (h:addrF ⟨p,r,st⟩ ⟨19,a,b,c,k⟩=(x:Int)):insR (tOps B t) s ⟨p,r,st⟩ ⟨19,a,b,c,k⟩=(⟨p+1,updR r a.toNat (s.mem.getD x 0),st⟩,lockM t s p x (r a.toNat) true):=by
 unfold insR
 have he:=empty_of (B:=B) hb
 rw [if_neg (fun q=>by rw [he]at q;cases q.2),if_neg (fun q=>by have q1:=q.1;dsimp only at q1;omega),if_neg (show¬(19:Int)=0 by decide),if_neg (show¬jmpB 19=true by decide),if_pos (show askB 19=true from rfl),h,Int.toNat_natCast]
 show ((⟨p+1,updR r a.toNat (seeM t s x),st⟩:Th),lockS (tOps B t) s p x (seeM t s x) (r a.toNat) true)=_
 rw [see_mem hb]
 rfl
theorem in_fetch {x:Nat} (hb:bufM s t=[]) (h:addrF ⟨p,r,st⟩ ⟨20,a,b,c,k⟩=(x:Int)):insR (tOps B t) s ⟨p,r,st⟩ ⟨20,a,b,c,k⟩=(⟨p+1,updR r a.toNat (s.mem.getD x 0),st⟩,lockM t s p x ((s.mem.getD x 0+r a.toNat)% 4294967296) true):=by
 unfold insR
 have he:=empty_of (B:=B) hb
 rw [if_neg (fun q=>by rw [he]at q;cases q.2),if_neg (fun q=>by have q1:=q.1;dsimp only at q1;omega),if_neg (show¬(20:Int)=0 by decide),if_neg (show¬jmpB 20=true by decide),if_pos (show askB 20=true from rfl),h,Int.toNat_natCast]
 show ((⟨p+1,updR r a.toNat (seeM t s x),st⟩:Th),lockS (tOps B t) s p x (seeM t s x) ((seeM t s x+r a.toNat)% 4294967296) true)=_
 rw [see_mem hb]
 rfl
theorem in_cas {x:Nat} (hb:bufM s t=[]) (h:addrF ⟨p,r,st⟩ ⟨21,a,b,c,k⟩=(x:Int)):insR (tOps B t) s ⟨p,r,st⟩ ⟨21,a,b,c,k⟩=(⟨p+1,updR r a.toNat (s.mem.getD x 0),st⟩,lockM t s p x (r c.toNat) (s.mem.getD x 0==r a.toNat)):=by
 unfold insR
 have he:=empty_of (B:=B) hb
 rw [if_neg (fun q=>by rw [he]at q;cases q.2),if_neg (fun q=>by have q1:=q.1;dsimp only at q1;omega),if_neg (show¬(21:Int)=0 by decide),if_neg (show¬jmpB 21=true by decide),if_pos (show askB 21=true from rfl),h,Int.toNat_natCast]
 show ((⟨p+1,updR r a.toNat (seeM t s x),st⟩:Th),lockS (tOps B t) s p x (seeM t s x) (r c.toNat) (seeM t s x==r a.toNat))=_
 rw [see_mem hb]
 rfl
theorem in_wait {x:Nat} (hb:bufM s t=[]) (h:addrF ⟨p,r,st⟩ ⟨23,a,b,c,k⟩=(x:Int)):insR (tOps B t) s ⟨p,r,st⟩ ⟨23,a,b,c,k⟩=
 if s.mem.getD x 0=r a.toNat then (⟨p+1,updR r a.toNat 0,1⟩,sleepM (t:Int) (noteM (t:Int) s ⟨8,0,p,(x:Int),s.mem.getD x 0,0,0,true⟩) x)else (⟨p+1,updR r a.toNat 1,st⟩,noteM (t:Int) s ⟨8,0,p,(x:Int),s.mem.getD x 0,0,0,false⟩):=by
 unfold insR
 have he:=empty_of (B:=B) hb
 rw [if_neg (fun q=>by rw [he]at q;cases q.2),if_neg (fun q=>by have q1:=q.1;dsimp only at q1;omega),if_neg (show¬(23:Int)=0 by decide),if_neg (show¬jmpB 23=true by decide),if_pos (show askB 23=true from rfl),h,Int.toNat_natCast]
 show (({(waitR (tOps B t) s ⟨p,r,st⟩ x a.toNat).1 with pc:=p+1}:Th),(waitR (tOps B t) s ⟨p,r,st⟩ x a.toNat).2)=_
 have e:waitR (tOps B t) s ⟨p,r,st⟩ x a.toNat=if s.mem.getD x 0=r a.toNat then (⟨p,updR r a.toNat 0,1⟩,sleepM (t:Int) (noteM (t:Int) s ⟨8,0,p,(x:Int),s.mem.getD x 0,0,0,true⟩) x)else (⟨p,updR r a.toNat 1,st⟩,noteM (t:Int) s ⟨8,0,p,(x:Int),s.mem.getD x 0,0,0,false⟩):=by
  have hl:(tOps B t).load s x=(s.mem.getD x 0,s):=by
   show (seeM t s x,s)=_
   rw [see_mem hb]
  unfold waitR
  rw [hl]
  rfl
 rw [e]
 split<;>rfl
theorem in_wake {x:Nat} (hb:bufM s t=[]) (h:addrF ⟨p,r,st⟩ ⟨24,a,b,c,k⟩=(x:Int)):insR (tOps B t) s ⟨p,r,st⟩ ⟨24,a,b,c,k⟩=(⟨p+1,updR r a.toNat (wakeM s x (r a.toNat)).1,st⟩,noteM (t:Int) (wakeM s x (r a.toNat)).2 ⟨9,0,p,(x:Int),(wakeM s x (r a.toNat)).1,0,0,false⟩):=by
 unfold insR
 have he:=empty_of (B:=B) hb
 rw [if_neg (fun q=>by rw [he]at q;cases q.2),if_neg (fun q=>by have q1:=q.1;dsimp only at q1;omega),if_neg (show¬(24:Int)=0 by decide),if_neg (show¬jmpB 24=true by decide),if_pos (show askB 24=true from rfl),h,Int.toNat_natCast]
 rfl
end
end Go.Proofs.YtmhfpjnkjlhbpaaGreatDoor
