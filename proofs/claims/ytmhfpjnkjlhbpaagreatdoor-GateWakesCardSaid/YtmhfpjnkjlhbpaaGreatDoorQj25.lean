/- The state in which a machine with buffers begins is right. Events without bounds (XEv): as values; a thread's events with their places. trace.Of, as an iterator: its contract for every loop body that keeps old memory. trace.Outs: what a thread put out. A thread alone: what serves its laws (printed by gen/alone.py out of XSeqR, XSeqA). Two ports that do alike: a step over the one and a step over the other do alike (plain). A machine with buffers (plain): what a step does, instruction by instruction. -/
import Derived.Test.YtmhfpjnkjlhbpaaGreatDoorQj24
import Derived.Test.YtmhfpjnkjlhbpaaGreatDoorQj02
import Derived.RangeFuncNested
import Derived.RangeFuncBox
import Derived.RangeFuncBound
import Derived.RangeFuncCalls
import Derived.RangeFuncLeaves
import Derived.Shelf.Abstract
import Derived.Shelf.RegionOpen
import Derived.WalkKit
import Derived.OwnWalkIn
import Derived.TacticsInMore
import Derived.LoopNIn
import Derived.LoopIn
import Derived.Maps.AppendAt
import Derived.Test.YtmhfpjnkjlhbpaaGreatDoorQj20
import Derived.Laws.OwnMore
import Derived.Test.YtmhfpjnkjlhbpaaGreatDoorQj18
namespace Go.Proofs.YtmhfpjnkjlhbpaaGreatDoor
open Go.ChangeShapes Go.WideShapes Go.ChangeAt Go.RowKit Go.Deep
set_option linter.unusedVariables false
set_option maxRecDepth 100000
set_option linter.unusedSimpArgs false
theorem t0_ok {p:Pg} {B:MB} (ho:p.Ok) (h:NewM p B):TOk B (t0 p) where
 ok:=⟨by show (List.replicate p.n tha).length=_;rw [List.length_replicate,h.n],fun t ht=>by rw [(List.mem_replicate.1 ht).2];exact tha_regs,fun z hz=>by
  obtain ⟨i,hi,rfl⟩:=List.mem_map.1 hz
  exact ho.z0 i (List.mem_range.1 hi),fun b hb e he=>(by rw [(List.mem_replicate.1 hb).2]at he;cases he),⟨List.nodup_nil,fun x hx=>by cases hx⟩⟩
 bl:=by show (List.replicate p.n _).length=_;rw [List.length_replicate,h.n]
theorem tot_nil (n:Nat):tot (List.replicate n [])=0:=by
 induction n with
 |zero=>rfl
 |succ n ih=>rw [List.replicate_succ];simp [tot]at ih⊢
structure Ev where
 (kind who pc addr value old k:Int)
 ok:Bool
instance:Inhabited Ev:=⟨⟨0,0,0,0,0,0,0,false⟩⟩
def evs (E:Nat->Ev) (t:Int) (k:Nat):List (Nat×Ev):=((List.range k).map fun i=>(i,E i)).filter fun x=>x.2.who==t
end Go.Proofs.YtmhfpjnkjlhbpaaGreatDoor
namespace Go.Proofs.YtmhfpjnkjlhbpaaGreatDoor
open Go.ChangeShapes Go.WideShapes Go.ChangeAt Go.RowKit Go.Shelf
set_option linter.unusedVariables false
set_option maxRecDepth 100000
set_option linter.unusedSimpArgs false
attribute [local go_sem] Oper.semAt_some
end Go.Proofs.YtmhfpjnkjlhbpaaGreatDoor
namespace Go.Proofs.YtmhfpjnkjlhbpaaGreatDoor
open Go.ChangeShapes Go.WideShapes Go.ChangeAt Go.RowKit Go.Shelf
set_option linter.unusedVariables false
set_option maxRecDepth 100000
set_option linter.unusedSimpArgs false
attribute [local go_sem] Oper.semAt_some
theorem blk_kept {X Y:World} {B:Nat} {t:TypeId} {cs:Array Value} {row:Option Nat} (h:Blk X B t cs) (hg:X.grownBy Y row) (hr: ∀r,row=some r-> ∃o:Obj,X.heap[r]?=some o/\o.isCells=false):Blk Y B t cs:=
 h.grown hg (fun e=>by
  obtain ⟨o,ho,hc⟩:=hr B e.symm
  unfold Blk at h
  rw [h]at ho
  cases ho
  cases hc)
end Go.Proofs.YtmhfpjnkjlhbpaaGreatDoor
namespace Go.Proofs.YtmhfpjnkjlhbpaaGreatDoor
open Go.ChangeShapes Go.WideShapes Go.ChangeAt Go.RowKit Go.Deep
set_option linter.unusedVariables false
set_option maxRecDepth 100000
set_option linter.unusedSimpArgs false
theorem sl_ins {W:World} {g cap:Nat} {cs:Array Value} {l:List Ins} (hb:Blk W g 75 cs) (h: ∀i,i<l.length->InsAt cs i (l.getD i default)):Sl W (some ⟨g,0,none⟩) (l.length*5) (fun k=>(l.flatMap Ins.cells).getD k undef):=fun hpos=>by
 refine ⟨g,0,rfl,hb.lt,fun k hk=>?_⟩
 have hi:k/5<l.length:=by omega
 have hj:k % 5<5:=by omega
 have e:=flat_get Ins.cells 5 (fun _=>rfl) default l (k/5) hi (k % 5) hj
 rw [show k/5*5+k % 5=k by omega]at e
 have hlt:k % 5<((l.getD (k/5) default).cells).length:=hj
 rw [List.getElem?_eq_getElem hlt]at e
 have :=h (k/5) hi (k % 5) _ (List.getElem?_eq_getElem hlt)
 rw [show k/5*5+k % 5=k by omega]at this
 rw [Nat.zero_add,hb.cell,this]
 have e2:(l.flatMap Ins.cells).getD k undef=((l.getD (k/5) default).cells)[k % 5]:=by rw [List.getD_eq_getElem?_getD,e];rfl
 exact congrArg some e2.symm
theorem ins_cells_one (l:List Ins): ∀k,k<l.length*5->((l.flatMap Ins.cells).getD k undef).oneCell'=true:=fun k hk=>by
 have hj:k % 5<5:=by omega
 have e:=flat_get Ins.cells 5 (fun _=>rfl) default l (k/5) (by omega) (k % 5) hj
 rw [show k/5*5+k % 5=k by omega]at e
 rw [List.getD_eq_getElem?_getD,e]
 have :k % 5=0∨k % 5=1∨k % 5=2∨k % 5=3∨k % 5=4:=by omega
 rcases this with h|h|h|h|h<;>rw [h]<;>rfl
theorem wpList_append_ins {w:World} {ops:Array Oper} {rest:List Oper} {o:Oper} {a:Act} {Q:Exit->Act->World->Prop} (hgd:o.guard=none) (s x:Operand)
 (ho:o.op= .call {callee:= .builtin .append,args:= #[s,x],argTypes:= #[50,50]}) (base:Nat) (v:Value) (l l2:List Ins) (hs:a.eval s=v) (hown:w.ownsRow base 75 5 v l.length (l.flatMap Ins.cells))
 (A:Option Addr) (c:Nat) (hx:a.eval x= .slice A l2.length c) (hr:Sl w A (l2.length*5) (fun k=>(l2.flatMap Ins.cells).getD k undef)) (hb:l.length+l2.length<=1000000) (hbase:base<=w.heap.size)
 (h: ∀A' c' w',w'.ownsRow base 75 5 (.slice A' (l++l2).length c') (l++l2).length ((l++l2).flatMap Ins.cells)->w.grownBy w' v.ownBlock->Below base w w'->wpList Tryz.prog ops Q rest (a.put o.dst (.slice A' (l++l2).length c')) w'):wpList Tryz.prog ops Q (o::rest) a w:=by
 obtain ⟨i0,hi,hy0,hy1,hy2⟩:=info_parts insB_info5
 refine wpList_append_sl w hgd s x 50 ho base 75 i0 _ 5 40 Tryz.underlying50 hi hy0 hy1 hy2 rfl (by omega) v l.length _ hs hown A l2.length c (fun k=>(l2.flatMap Ins.cells).getD k undef) hx hr (ins_cells_one l2) (by unfold maxLen;omega) (by omega) hbase ?_
 intro v' w' h1 h2 _
 have hl2:(l2.flatMap Ins.cells).length=l2.length*5:=by
  clear hr hb hx h h1 h2
  induction l2 with
  |nil=>rfl
  |cons y l2 ih=>rw [List.flatMap_cons,List.length_append,ih];show 5+_=_;rw [List.length_cons];omega
 rw [range_getD _ _ hl2,<-List.flatMap_append]at h1
 have hw:=below_of_grown hbase h2 fun g e=>(own_in hown g e).1
 rw [show l.length+l2.length=(l++l2).length from by simp]at h1
 obtain ⟨A',c',rfl,_,_⟩:=own_cap h1
 exact h A' c' w' h1 h2 hw
theorem sle_ins {W:World} {g:Nat} {cs:Array Value} {l:List Ins} (hb:Blk W g 75 cs) (h: ∀i,i<l.length->InsAt cs i (l.getD i default)):SlE W (some ⟨g,0,none⟩) l.length 5 (fun i=>(l.getD i default).cells):=fun hpos=>
 ⟨g,0,rfl,hb.lt,fun i hi j u hu=>by rw [hb.cell,Nat.zero_add];exact h i hi j u hu⟩
theorem sl_one (W:World) (x:Ins):Sl (W.alloc (.cells x.cells.toArray 75)) (some ⟨W.heap.size,0,none⟩) ([x].length*5) (fun k=>([x].flatMap Ins.cells).getD k undef):=
 sl_ins (cap:=0) (Blk.new _ _ _) fun i hi j u hu=>by
  obtain rfl:i=0:=by simp at hi;omega
  rw [Nat.zero_mul,Nat.zero_add]
  simpa using hu
theorem words_infoA:(Tryz.prog.info? 42).map (fun i=>(i.zero,i.size,i.bytes))=some (some (.int .u32 0),1,4):=by kernel_rfl
theorem makeW (m:Nat) (hm:m<=1000) (w:World):(Instr.makeSlice 27 (.int .i64 (m:Int)) (.int .i64 (m:Int))).run Tryz.prog w= .ok (.slice (some ⟨w.heap.size,0,none⟩) m m) (w.alloc (.cells (List.replicate m (Value.int .u32 0)).toArray 42)):=by
 obtain ⟨i,hi,hz,hs,hb⟩:=info_parts words_infoA
 have hr:=run_make (P:=Tryz.prog) w 27 42 i _ Tryz.underlying27 hi hz .i64 .i64 m m (by omega) (by omega) (by rw [hb];omega) (by omega)
 rw [hs]at hr
 simp only [Int.toNat_natCast,Nat.mul_one]at hr
 have e:madeCells (Value.int .u32 0).cells m=(List.replicate m (Value.int .u32 0)).toArray:=by
  exact Array.ext' (toList_madeCells_one _ _)
 rw [e]at hr
 exact hr
def ev0:Evt:=⟨0,0,0,0,0,0,0,false⟩
section
variable {σ τ:Type} {O:Ops σ} {P:Ops τ} {D:Prop} {R R':σ->τ->Prop}
end
theorem drainP_iff (op:Int):DrainP op↔(18<=op/\op<=21∨23<=op/\op<=25):=Iff.rfl
def bufM (s:Mst) (t:Nat):List Ent:=s.bufs.getD t []
def thM (s:Mst) (t:Nat):Th:=s.ths.getD t tha
theorem tStep_at {B:MB} {s:Mst} {t:Nat} {th:Th} {i:Ins} {p:Nat} (hth:thM s t=th) (hst:th.st=0) (hpc:th.pc=(p:Int)) (hl:p<(B.codes.getD t cdd).len) (hi:(B.codes.getD t cdd).F p=i) (hr:rightB i (B.codes.getD t cdd).len=true) (ha:askB i.op=true->addrF th i<(B.m:Int)):
 tStep B s t={(insR (tOps B t) s th i).2 with ths:=(insR (tOps B t) s th i).2.ths.set t (insR (tOps B t) s th i).1}:=by
 have e:stepR (tOps B t) s th (B.codes.getD t cdd)=insR (tOps B t) s th i:=by
  unfold stepR
  rw [if_neg (fun q=>q hst),if_neg (by rw [hpc];omega),hpc,Int.toNat_natCast,hi,if_neg (by rw [hr];decide),if_neg (fun q=>by have h1:=ha q.1;have h2:(B.m:Int)<=addrF th i:=q.2;omega)]
 unfold tStep
 show (let r:=stepR (tOps B t) s (thM s t) (B.codes.getD t cdd);{r.2 with ths:=r.2.ths.set t r.1}:Mst)=_
 rw [hth,e]
theorem tStep_end {B:MB} {s:Mst} {t:Nat} {th:Th} (hth:thM s t=th) (hst:th.st=0) (hpc:((B.codes.getD t cdd).len:Int)<=th.pc):
 tStep B s t={noteM (t:Int) s ⟨12,0,th.pc,0,0,0,0,false⟩with ths:=s.ths.set t {th with st:=2}}:=by
 unfold tStep
 show (let r:=stepR (tOps B t) s (thM s t) (B.codes.getD t cdd);{r.2 with ths:=r.2.ths.set t r.1}:Mst)=_
 rw [hth]
 unfold stepR
 rw [if_neg (fun q=>q hst),if_pos (.inr hpc)]
 rfl
theorem tStep_not {B:MB} {s:Mst} {t:Nat} (hst:(thM s t).st≠0):tStep B s t=s:=by
 unfold tStep
 show (let r:=stepR (tOps B t) s (thM s t) (B.codes.getD t cdd);{r.2 with ths:=r.2.ths.set t r.1}:Mst)=_
 unfold stepR
 rw [if_pos hst]
 show ({s with ths:=s.ths.set t (thM s t)}:Mst)=s
 have e:s.ths.set t (thM s t)=s.ths:=by
  unfold thM
  refine List.ext_getElem? fun j=>?_
  by_cases c:t=j
  ·subst c
   rcases Nat.lt_or_ge t s.ths.length with h|h
   ·rw [List.getElem?_set_self h,List.getD_eq_getElem?_getD,List.getElem?_eq_getElem h];rfl
   ·rw [List.set_eq_of_length_le h]
  ·rw [List.getElem?_set_ne c]
 rw [e]
section
variable {B:MB} {s:Mst} {t:Nat} {p:Int} {r:Nat->Int} {st a b c k:Int}
theorem in_set:insR (tOps B t) s ⟨p,r,st⟩ ⟨1,a,b,c,k⟩=(⟨p+1,updR r a.toNat k,st⟩,s):=by
 unfold insR
 rw [if_neg (fun q=>by have :=(drainP_iff _).1 q.1;dsimp only at this;omega),if_neg (fun q=>by have q1:=q.1;dsimp only at q1;omega)]
 rfl
theorem in_move:insR (tOps B t) s ⟨p,r,st⟩ ⟨2,a,b,c,k⟩=(⟨p+1,updR r a.toNat (r b.toNat),st⟩,s):=by
 unfold insR
 rw [if_neg (fun q=>by have :=(drainP_iff _).1 q.1;dsimp only at this;omega),if_neg (fun q=>by have q1:=q.1;dsimp only at q1;omega)]
 rfl
theorem in_alu (op:Nat) (h3:3<=op) (h12:op<=12):insR (tOps B t) s ⟨p,r,st⟩ ⟨(op:Int),a,b,c,k⟩=(⟨p+1,updR r a.toNat (aluF op (r b.toNat) (r c.toNat)),st⟩,s):=by
 unfold insR
 have hj:jmpB (op:Int)=false:=decide_eq_false (by omega)
 have hk:askB (op:Int)=false:=decide_eq_false (by omega)
 rw [if_neg (fun q=>by have :=(drainP_iff _).1 q.1;dsimp only at this;omega),if_neg (fun q=>by have q1:(op:Int)=17:=q.1;omega),if_neg (show¬(op:Int)=0 by omega),if_neg (show¬jmpB (op:Int)=true by rw [hj];decide),if_neg (show¬askB (op:Int)=true by rw [hk];decide)]
 show ((⟨p+1,(plainR (tOps B t) s ⟨p,r,st⟩ (op:Int).toNat a.toNat b.toNat c.toNat k 0).1.regs,(plainR (tOps B t) s ⟨p,r,st⟩ (op:Int).toNat a.toNat b.toNat c.toNat k 0).1.st⟩:Th),(plainR (tOps B t) s ⟨p,r,st⟩ (op:Int).toNat a.toNat b.toNat c.toNat k 0).2)=_
 rw [Int.toNat_natCast]
 have e:plainR (tOps B t) s ⟨p,r,st⟩ op a.toNat b.toNat c.toNat k 0=(⟨p,updR r a.toNat (aluF op (r b.toNat) (r c.toNat)),st⟩,s):=by
  unfold plainR
  rw [if_neg (by omega),if_neg (by omega),if_neg (by omega),if_neg (by omega),if_neg (by omega),if_neg (by omega),if_pos ⟨h3,h12⟩]
 rw [e]
theorem in_jump:insR (tOps B t) s ⟨p,r,st⟩ ⟨13,a,b,c,k⟩=(⟨k,r,st⟩,s):=by
 unfold insR
 rw [if_neg (fun q=>by have :=(drainP_iff _).1 q.1;dsimp only at this;omega),if_neg (fun q=>by have q1:=q.1;dsimp only at q1;omega)]
 rfl
theorem in_zero:insR (tOps B t) s ⟨p,r,st⟩ ⟨14,a,b,c,k⟩=(⟨if r a.toNat=0 then k else p+1,r,st⟩,s):=by
 unfold insR
 rw [if_neg (fun q=>by have :=(drainP_iff _).1 q.1;dsimp only at this;omega),if_neg (fun q=>by have q1:=q.1;dsimp only at q1;omega),if_neg (show¬(14:Int)=0 by decide),if_pos (show jmpB 14=true from rfl)]
 have :goesB 14 (r a.toNat)=decide (r a.toNat=0):=by unfold goesB;simp
 show ((⟨if goesB 14 (r a.toNat)=true then k else p+1,r,st⟩:Th),s)=_
 rw [this]
 by_cases h:r a.toNat=0
 ·rw [if_pos h,if_pos (by simpa using h)]
 ·rw [if_neg h,if_neg (by simpa using h)]
theorem in_some:insR (tOps B t) s ⟨p,r,st⟩ ⟨15,a,b,c,k⟩=(⟨if r a.toNat=0 then p+1 else k,r,st⟩,s):=by
 unfold insR
 rw [if_neg (fun q=>by have :=(drainP_iff _).1 q.1;dsimp only at this;omega),if_neg (fun q=>by have q1:=q.1;dsimp only at q1;omega),if_neg (show¬(15:Int)=0 by decide),if_pos (show jmpB 15=true from rfl)]
 have :goesB 15 (r a.toNat)=decide (r a.toNat≠0):=by unfold goesB;simp
 show ((⟨if goesB 15 (r a.toNat)=true then k else p+1,r,st⟩:Th),s)=_
 rw [this]
 by_cases h:r a.toNat=0
 ·rw [if_pos h,if_neg (by simpa using h)]
 ·rw [if_neg h,if_pos (by simpa using h)]
theorem in_out:insR (tOps B t) s ⟨p,r,st⟩ ⟨22,a,b,c,k⟩=(⟨p+1,r,st⟩,noteM (t:Int) s ⟨6,0,p,0,r a.toNat,0,0,false⟩):=by
 unfold insR
 rw [if_neg (fun q=>by have :=(drainP_iff _).1 q.1;dsimp only at this;omega),if_neg (fun q=>by have q1:=q.1;dsimp only at q1;omega)]
 rfl
theorem in_mark:insR (tOps B t) s ⟨p,r,st⟩ ⟨27,a,b,c,k⟩=(⟨p+1,r,st⟩,noteM (t:Int) s ⟨7,0,p,0,r a.toNat,0,k,false⟩):=by
 unfold insR
 rw [if_neg (fun q=>by have :=(drainP_iff _).1 q.1;dsimp only at this;omega),if_neg (fun q=>by have q1:=q.1;dsimp only at q1;omega)]
 rfl
theorem in_load {x:Nat} (h:addrF ⟨p,r,st⟩ ⟨16,a,b,c,k⟩=(x:Int)):insR (tOps B t) s ⟨p,r,st⟩ ⟨16,a,b,c,k⟩=(⟨p+1,updR r a.toNat (seeM t s x),st⟩,noteM (t:Int) s ⟨1,0,p,(x:Int),seeM t s x,0,0,false⟩):=by
 unfold insR
 rw [if_neg (fun q=>by have :=(drainP_iff _).1 q.1;dsimp only at this;omega),if_neg (fun q=>by have q1:=q.1;dsimp only at q1;omega),if_neg (show¬(16:Int)=0 by decide),if_neg (show¬jmpB 16=true by decide),if_pos (show askB 16=true from rfl),h,Int.toNat_natCast]
 rfl
theorem in_store {x:Nat} (h:addrF ⟨p,r,st⟩ ⟨17,a,b,c,k⟩=(x:Int)) (hx:x<B.m) (hr:((bufM s t).length:Int)<B.room):
 insR (tOps B t) s ⟨p,r,st⟩ ⟨17,a,b,c,k⟩=(⟨p+1,r,st⟩,noteM (t:Int) {s with bufs:=s.bufs.set t (bufM s t++[((x:Int),r a.toNat)])} ⟨2,0,p,(x:Int),r a.toNat,0,0,false⟩):=by
 unfold insR
 have hro:(tOps B t).room s=true:=decide_eq_true hr
 rw [if_neg (fun q=>by have :=(drainP_iff _).1 q.1;dsimp only at this;omega),if_neg (fun q=>by rw [hro]at q;cases q.2),if_neg (show¬(17:Int)=0 by decide),if_neg (show¬jmpB 17=true by decide),if_pos (show askB 17=true from rfl),h,Int.toNat_natCast]
 show ((⟨p+1,r,st⟩:Th),noteM (t:Int) (if x<B.m then {s with bufs:=s.bufs.set t (s.bufs.getD t []++[((x:Int),r a.toNat)])}else s) _)=_
 rw [if_pos hx]
 rfl
theorem in_full (hr: ¬((bufM s t).length:Int)<B.room):insR (tOps B t) s ⟨p,r,st⟩ ⟨17,a,b,c,k⟩=(⟨p,r,st⟩,tflush t s):=by
 unfold insR
 have hro:(tOps B t).room s=false:=decide_eq_false hr
 rw [if_neg (fun q=>by have :=(drainP_iff _).1 q.1;dsimp only at this;omega),if_pos ⟨rfl,hro⟩]
 rfl
theorem in_drain {op:Int} (hd:DrainP op) (hb:bufM s t≠[]):insR (tOps B t) s ⟨p,r,st⟩ ⟨op,a,b,c,k⟩=(⟨p,r,st⟩,tflush t s):=by
 unfold insR
 have he:(tOps B t).empty s=false:=decide_eq_false (by rw [List.length_eq_zero_iff];exact hb)
 rw [if_pos ⟨hd,he⟩]
 rfl
theorem empty_of (hb:bufM s t=[]):(tOps B t).empty s=true:=by
 show decide ((s.bufs.getD t []).length=0)=true
 unfold bufM at hb
 rw [hb]
 rfl
theorem see_mem (hb:bufM s t=[]) (x:Nat):seeM t s x=s.mem.getD x 0:=by
 unfold bufM at hb
 unfold seeM
 rw [hb]
 rfl
def lockM (t:Nat) (s:Mst) (p:Int) (x:Nat) (v:Int) (ok:Bool):Mst:=noteM (t:Int) (if ok then {s with mem:=s.mem.set x v}else s) ⟨4,0,p,(x:Int),if ok then v else s.mem.getD x 0,s.mem.getD x 0,0,ok⟩
theorem in_swap {x:Nat} (hb:bufM s t=[]) (h:addrF ⟨p,r,st⟩ ⟨19,a,b,c,k⟩=(x:Int)):insR (tOps B t) s ⟨p,r,st⟩ ⟨19,a,b,c,k⟩=(⟨p+1,updR r a.toNat (s.mem.getD x 0),st⟩,lockM t s p x (r a.toNat) true):=by
 unfold insR
 have he:=empty_of (B:=B) hb
 rw [if_neg (fun q=>by rw [he]at q;cases q.2),if_neg (fun q=>by have q1:=q.1;dsimp only at q1;omega),if_neg (show¬(19:Int)=0 by decide),if_neg (show¬jmpB 19=true by decide),if_pos (show askB 19=true from rfl),h,Int.toNat_natCast]
 show ((⟨p+1,updR r a.toNat (seeM t s x),st⟩:Th),lockS (tOps B t) s p x (seeM t s x) (r a.toNat) true)=_
 rw [see_mem hb]
 rfl
theorem in_fetch {x:Nat} (hb:bufM s t=[]) (h:addrF ⟨p,r,st⟩ ⟨20,a,b,c,k⟩=(x:Int)):insR (tOps B t) s ⟨p,r,st⟩ ⟨20,a,b,c,k⟩=(⟨p+1,updR r a.toNat (s.mem.getD x 0),st⟩,lockM t s p x ((s.mem.getD x 0+r a.toNat)% 4294967296) true):=by
 unfold insR
 have he:=empty_of (B:=B) hb
 rw [if_neg (fun q=>by rw [he]at q;cases q.2),if_neg (fun q=>by have q1:=q.1;dsimp only at q1;omega),if_neg (show¬(20:Int)=0 by decide),if_neg (show¬jmpB 20=true by decide),if_pos (show askB 20=true from rfl),h,Int.toNat_natCast]
 show ((⟨p+1,updR r a.toNat (seeM t s x),st⟩:Th),lockS (tOps B t) s p x (seeM t s x) ((seeM t s x+r a.toNat)% 4294967296) true)=_
 rw [see_mem hb]
 rfl
theorem in_cas {x:Nat} (hb:bufM s t=[]) (h:addrF ⟨p,r,st⟩ ⟨21,a,b,c,k⟩=(x:Int)):insR (tOps B t) s ⟨p,r,st⟩ ⟨21,a,b,c,k⟩=(⟨p+1,updR r a.toNat (s.mem.getD x 0),st⟩,lockM t s p x (r c.toNat) (s.mem.getD x 0==r a.toNat)):=by
 unfold insR
 have he:=empty_of (B:=B) hb
 rw [if_neg (fun q=>by rw [he]at q;cases q.2),if_neg (fun q=>by have q1:=q.1;dsimp only at q1;omega),if_neg (show¬(21:Int)=0 by decide),if_neg (show¬jmpB 21=true by decide),if_pos (show askB 21=true from rfl),h,Int.toNat_natCast]
 show ((⟨p+1,updR r a.toNat (seeM t s x),st⟩:Th),lockS (tOps B t) s p x (seeM t s x) (r c.toNat) (seeM t s x==r a.toNat))=_
 rw [see_mem hb]
 rfl
theorem in_wait {x:Nat} (hb:bufM s t=[]) (h:addrF ⟨p,r,st⟩ ⟨23,a,b,c,k⟩=(x:Int)):insR (tOps B t) s ⟨p,r,st⟩ ⟨23,a,b,c,k⟩=
 if s.mem.getD x 0=r a.toNat then (⟨p+1,updR r a.toNat 0,1⟩,sleepM (t:Int) (noteM (t:Int) s ⟨8,0,p,(x:Int),s.mem.getD x 0,0,0,true⟩) x)else (⟨p+1,updR r a.toNat 1,st⟩,noteM (t:Int) s ⟨8,0,p,(x:Int),s.mem.getD x 0,0,0,false⟩):=by
 unfold insR
 have he:=empty_of (B:=B) hb
 rw [if_neg (fun q=>by rw [he]at q;cases q.2),if_neg (fun q=>by have q1:=q.1;dsimp only at q1;omega),if_neg (show¬(23:Int)=0 by decide),if_neg (show¬jmpB 23=true by decide),if_pos (show askB 23=true from rfl),h,Int.toNat_natCast]
 show (({(waitR (tOps B t) s ⟨p,r,st⟩ x a.toNat).1 with pc:=p+1}:Th),(waitR (tOps B t) s ⟨p,r,st⟩ x a.toNat).2)=_
 have e:waitR (tOps B t) s ⟨p,r,st⟩ x a.toNat=if s.mem.getD x 0=r a.toNat then (⟨p,updR r a.toNat 0,1⟩,sleepM (t:Int) (noteM (t:Int) s ⟨8,0,p,(x:Int),s.mem.getD x 0,0,0,true⟩) x)else (⟨p,updR r a.toNat 1,st⟩,noteM (t:Int) s ⟨8,0,p,(x:Int),s.mem.getD x 0,0,0,false⟩):=by
  have hl:(tOps B t).load s x=(s.mem.getD x 0,s):=by
   show (seeM t s x,s)=_
   rw [see_mem hb]
  unfold waitR
  rw [hl]
  rfl
 rw [e]
 split<;>rfl
theorem in_wake {x:Nat} (hb:bufM s t=[]) (h:addrF ⟨p,r,st⟩ ⟨24,a,b,c,k⟩=(x:Int)):insR (tOps B t) s ⟨p,r,st⟩ ⟨24,a,b,c,k⟩=(⟨p+1,updR r a.toNat (wakeM s x (r a.toNat)).1,st⟩,noteM (t:Int) (wakeM s x (r a.toNat)).2 ⟨9,0,p,(x:Int),(wakeM s x (r a.toNat)).1,0,0,false⟩):=by
 unfold insR
 have he:=empty_of (B:=B) hb
 rw [if_neg (fun q=>by rw [he]at q;cases q.2),if_neg (fun q=>by have q1:=q.1;dsimp only at q1;omega),if_neg (show¬(24:Int)=0 by decide),if_neg (show¬jmpB 24=true by decide),if_pos (show askB 24=true from rfl),h,Int.toNat_natCast]
 rfl
end
end Go.Proofs.YtmhfpjnkjlhbpaaGreatDoor
