/- core.Step: what its boxes keep; its run's row, written in the middle. -/
import Derived.Test.YtmhfpjnkjlhbpaaGreatDoorQj11
namespace Go.Proofs.YtmhfpjnkjlhbpaaGreatDoor
open Go.ChangeShapes Go.WideShapes Go.ChangeAt Go.RowKit Go.Deep
set_option linter.unusedVariables false
set_option maxRecDepth 100000
set_option linter.unusedSimpArgs false
def Pv.val (V:Pv) (size:Nat):Value:= .agg #[.int .i64 (size:Int),V.load.val,V.room.val,V.store.val,V.empty.val,V.flush.val,V.swap.val,V.sleep.val,V.wake.val,V.remote.val,V.note.val]
def Pv.arr (V:Pv) (size:Nat):Array Value:= #[.int .i64 (size:Int),V.load.val,V.room.val,V.store.val,V.empty.val,V.flush.val,V.swap.val,V.sleep.val,V.wake.val,V.remote.val,V.note.val]
def ins0:Ins:=⟨0,0,0,0,0⟩
def rnArr (t:Th) (V:Pv) (size:Nat):Array Value:= #[.int .i64 t.pc,.int .u32 (t.regs 0),.int .u32 (t.regs 1),.int .u32 (t.regs 2),.int .u32 (t.regs 3),.int .u32 (t.regs 4),.int .u32 (t.regs 5),.int .u32 (t.regs 6),.int .u32 (t.regs 7),.int .i64 t.st,
 .int .i64 0,.int .i64 0,.int .i64 0,.int .i64 0,.int .u32 0,.int .i64 (size:Int),V.load.val,V.room.val,V.store.val,V.empty.val,V.flush.val,V.swap.val,V.sleep.val,V.wake.val,V.remote.val,V.note.val,.int .i64 0]
theorem rn_new {W:World} {rb:Nat} {t:Th} {V:Pv} {size:Nat} (h:Blk W rb 230 (rnArr t V size)):Rn W rb t ins0 size V 0:=
 ⟨_,h,rfl,fun j u hu=>by
  have hk:=(List.getElem?_eq_some_iff.1 hu).1
  rw [th_len]at hk
  rcases ten hk with rfl|rfl|rfl|rfl|rfl|rfl|rfl|rfl|rfl|rfl<;>exact hu,fun j u hu=>by
  have hk:=(List.getElem?_eq_some_iff.1 hu).1
  rw [show ins0.cells.length=5 from rfl]at hk
  rcases (by omega:j=0∨j=1∨j=2∨j=3∨j=4)with rfl|rfl|rfl|rfl|rfl<;>exact hu,rfl,rfl,rfl,rfl,rfl,rfl,rfl,rfl,rfl,rfl,rfl,rfl⟩
section
variable {W:World} {rb:Nat} {t:Th} {i:Ins} {size:Nat} {V:Pv} {addr:Int}
theorem Rn.rangeT (h:Rn W rb t i size V addr):W.rangeAt rb 0 t.cells:=fun j v hv=>by rw [Nat.zero_add];exact h.tc hv
theorem Rn.rangeI (h:Rn W rb t i size V addr):W.rangeAt rb 10 i.cells:=fun j v hv=>h.ic hv
theorem Rn.thereI (h:Rn W rb t i size V addr):W.there rb 10 5:=by
 obtain ⟨cs,hb,hsz,_⟩:=h.row
 exact hb.there 10 5 (by omega)
theorem Rn.setIns (h:Rn W rb t i size V addr) (i':Ins):Rn (W.setCells rb 10 i'.cells) rb t i' size V addr/\W.grownBy (W.setCells rb 10 i'.cells) (some rb):=by
 obtain ⟨cs,hb,hsz,ht,hi,q15,q16,q17,q18,q19,q20,q21,q22,q23,q24,q25,q26⟩:=h.row
 have h5:i'.cells.length=5:=rfl
 obtain ⟨cs',h1,h2,h3,h4,hg⟩:=setCells_row rb 230 i'.cells 10 W cs hb (by omega)
 have out: ∀k,15<=k-> ∀u,cs[k]?=some u->cs'[k]?=some u:=fun k hk u hu=>by rw [h4 k (.inr (by omega))];exact hu
 refine ⟨⟨cs',h1,by omega,fun k u hu=>?_,fun k u hu=>?_,out _ (by omega) _ q15,out _ (by omega) _ q16,out _ (by omega) _ q17,out _ (by omega) _ q18,out _ (by omega) _ q19,out _ (by omega) _ q20,out _ (by omega) _ q21,out _ (by omega) _ q22,out _ (by omega) _ q23,out _ (by omega) _ q24,out _ (by omega) _ q25,out _ (by omega) _ q26⟩,hg⟩
 ·have hk:=(List.getElem?_eq_some_iff.1 hu).1
  rw [th_len]at hk
  rw [h4 k (.inl hk)]
  exact ht k u hu
 ·have hk:=(List.getElem?_eq_some_iff.1 hu).1
  rw [h3 k hk]
  exact hu
theorem Rn.setAddr (h:Rn W rb t i size V addr) (v:Int):Rn (W.setCell ⟨rb,26,none⟩ (.int .i64 v)) rb t i size V v:=by
 obtain ⟨cs,hb,hsz,ht,hi,q15,q16,q17,q18,q19,q20,q21,q22,q23,q24,q25,q26⟩:=h.row
 have ne: ∀k,k≠26-> ∀u,cs[k]?=some u->(cs.setIfInBounds 26 (.int .i64 v))[k]?=some u:=fun k hk u hu=>by rw [Array.getElem?_setIfInBounds_ne (Ne.symm hk)];exact hu
 refine ⟨cs.setIfInBounds 26 (.int .i64 v),hb.set_ 26 _,by simpa using hsz,fun k u hu=>ne _ (fun e=>?_) u (ht k u hu),fun k u hu=>ne _ (fun e=>?_) u (hi k u hu),ne _ (by omega) _ q15,ne _ (by omega) _ q16,ne _ (by omega) _ q17,ne _ (by omega) _ q18,ne _ (by omega) _ q19,ne _ (by omega) _ q20,ne _ (by omega) _ q21,ne _ (by omega) _ q22,ne _ (by omega) _ q23,ne _ (by omega) _ q24,ne _ (by omega) _ q25,?_⟩
 ·have hk:=(List.getElem?_eq_some_iff.1 hu).1
  rw [th_len]at hk
  omega
 ·have hk:=(List.getElem?_eq_some_iff.1 hu).1
  rw [show i.cells.length=5 from rfl]at hk
  omega
 ·rw [Array.getElem?_setIfInBounds_self_of_lt (by omega)]
end
section
variable {σ:Type} {O:Ops σ} {V:Pv} {Inv:σ->(Nat->Prop)->World->Prop} {can:Nat->σ->Prop} {s:σ} {own:Nat->Prop} {rb:Nat} {t t':Th} {i i':Ins} {size:Nat} {addr addr':Int} {W W1 W2:World}
theorem RMoves.grown (hP:PortOk O V Inv can) (h:RMoves Inv s own rb t i size V addr W W1) (hg:W1.grownBy W2 (some rb)) (hs:Rn W2 rb t' i' size V addr'):RMoves Inv s own rb t' i' size V addr' W W2:=by
 obtain ⟨own1,h1,h2,h3,h4,h5⟩:=h
 exact ⟨own1,hP.keep s own1 W1 _ h1 ⟨fun j hj=>hg.block j (hP.lt s own1 W1 j h1 hj) (fun e=>h5 (by rw [<-Option.some.inj e];exact hj)),hg.size⟩,h2,
  ⟨hg.os.trans h3.os,hg.tape.trans h3.tape,hg.output.trans h3.output,Nat.le_trans h3.size hg.size,fun j hj hn=>(hg.block j (Nat.lt_of_lt_of_le hj h3.size) (fun e=>hn (.inr (Option.some.inj e)))).trans (h3.block j hj hn)⟩,hs,h5⟩
theorem RMoves.setIns (hP:PortOk O V Inv can) (h:RMoves Inv s own rb t i size V addr W W1) (i':Ins):RMoves Inv s own rb t i' size V addr W (W1.setCells rb 10 i'.cells):=
 h.grown hP (h.rn.setIns i').2 (h.rn.setIns i').1
theorem RMoves.setAddr (hP:PortOk O V Inv can) (h:RMoves Inv s own rb t i size V addr W W1) (v:Int):RMoves Inv s own rb t i size V v W (W1.setCell ⟨rb,26,none⟩ (.int .i64 v)):=
 h.grown hP (set_only _) (h.rn.setAddr v)
theorem RMoves.setPc (hP:PortOk O V Inv can) (h:RMoves Inv s own rb t i size V addr W W1) (v:Int):RMoves Inv s own rb {t with pc:=v} i size V addr W (W1.setCell ⟨rb,0,none⟩ (.int .i64 v)):=
 h.grown hP (set_only _) (h.rn.setPc v)
theorem RMoves.blk (h:RMoves Inv s own rb t i size V addr W W1) {g:Nat} {ty:TypeId} {cs:Array Value} (hb:Blk W g ty cs) (hn: ¬own g) (hr:g≠rb):Blk W1 g ty cs:=by
 obtain ⟨_,_,_,h3,_⟩:=h
 exact h3.blk hb (fun e=>e.elim hn hr)
theorem RMoves.tab (hP:PortOk O V Inv can) (h:RMoves Inv s own rb t i size V addr W W1) {s':σ} (hI:Inv s' own W) (hT:Tab W) (hr:2<=rb):Tab W1:=by
 obtain ⟨_,_,_,h3,_⟩:=h
 have hc: ∀(g j:Nat),g<2->W1.cell? ⟨g,j,none⟩=W.cell? ⟨g,j,none⟩:=fun g j hg=>by
  have :=h3.block g (Nat.lt_of_lt_of_le hg hT.1) (fun e=>by
   rcases e with e|e
   ·have :=hP.hi _ own W g hI e;omega
   ·omega)
  simp only [World.cell?,this]
 exact ⟨Nat.le_trans hT.1 h3.size,fun j hj=>(hc _ j (by decide)).trans (hT.2.1 j hj),fun j hj=>(hc _ j (by decide)).trans (hT.2.2 j hj)⟩
theorem step_end {s0:σ} {W0 Wb:World} {g:Nat} (hP:PortOk O V Inv can) (hI:Inv s0 own W0) (hb:Below W0.heap.size W0 Wb) (h:RMoves Inv s own rb t i size V addr Wb W1) (hr:W0.heap.size<=rb) (hg:W0.heap.size<=g) (hlt:g<Wb.heap.size) (hw:W1.grownBy W2 (some g)):Moves Inv s own W0 W2:=by
 obtain ⟨own1,h1,h2,h3,h4,h5⟩:=h
 have hno: ¬own g:=fun e=>by have :=hP.lt s0 own W0 g hI e;omega
 refine ⟨own1,hP.keep s own1 W1 _ h1 ⟨fun j hj=>hw.block j (hP.lt s own1 W1 j h1 hj) (fun e=>?_),hw.size⟩,fun j hj=>(h2 j hj).imp id (fun q=>Nat.le_trans hb.size q),?_⟩
 ·obtain rfl:=Option.some.inj e
  rcases h2 _ hj with h|h
  ·exact hno h
  ·omega
 ·refine ⟨hw.os.trans (h3.os.trans hb.os),hw.tape.trans (h3.tape.trans hb.tape),hw.output.trans (h3.output.trans hb.output),Nat.le_trans hb.size (Nat.le_trans h3.size hw.size),fun j hj hn=>?_⟩
  have hj1:=Nat.lt_of_lt_of_le hj hb.size
  exact (hw.block j (Nat.lt_of_lt_of_le hj1 h3.size) (fun e=>by have :=Option.some.inj e;omega)).trans ((h3.block j hj1 (fun e=>e.elim hn (fun q=>by omega))).trans (hb.block j hj))
end
theorem below3 (W:World) (A B C:Obj):Below W.heap.size W (((W.alloc A).alloc B).alloc C):=
 have h1:=(Below.refl W.heap.size W).alloc (Nat.le_refl _) A
 have h2:=h1.alloc h1.size B
 h2.alloc h2.size C
theorem Stay.grownB {own:Nat->Prop} {A B C D:World} (h:Stay own A B) (hlt: ∀i,own i->i<A.heap.size) {g:Nat} (hb:Below A.heap.size B C) (hg:C.grownBy D (some g)) (hn: ¬own g):Stay own A D:=
 ⟨fun i hi=>(hg.block i (Nat.lt_of_lt_of_le (hlt i hi) (Nat.le_trans h.size hb.size)) (fun e=>hn (by rw [<-Option.some.inj e];exact hi))).trans ((hb.block i (hlt i hi)).trans (h.own i hi)),Nat.le_trans h.size (Nat.le_trans hb.size hg.size)⟩
theorem KeepOut.grown {own:Nat->Prop} {A B C:World} (h:KeepOut own A B) {g:Nat} (hg:B.grownBy C (some g)) (hr:A.heap.size<=g):KeepOut own A C:=
 ⟨hg.os.trans h.os,hg.tape.trans h.tape,hg.output.trans h.output,Nat.le_trans h.size hg.size,fun i hi hn=>(hg.block i (Nat.lt_of_lt_of_le hi h.size) (fun e=>by have :=Option.some.inj e;omega)).trans (h.block i hi hn)⟩
def th0:Array Value:= #[.int .i64 0,.int .u32 0,.int .u32 0,.int .u32 0,.int .u32 0,.int .u32 0,.int .u32 0,.int .u32 0,.int .u32 0,.int .i64 0]
theorem step_boxes {σ:Type} {O:Ops σ} {V:Pv} {Inv:σ->(Nat->Prop)->World->Prop} {can:Nat->σ->Prop} (hP:PortOk O V Inv can) (s:σ) (own:Nat->Prop) (t:Th) (c:Cd) (W:World) (hI:Inv s own W) (hT:Tab W) (hca:c.At W):
 ∃tb rb W3 W4,W.heap.size=tb/\((W.alloc (.cells (thArr t) 124)).alloc (.cells (V.arr O.size) 205)).alloc (.cells th0 124)=W3/\W3.heap.size=rb/\W3.alloc (.cells (rnArr t V O.size) 230)=W4/\
  Below tb W W3/\Below tb W W4/\Blk W3 tb 124 (thArr t)/\Blk W3 (tb+1) 205 (V.arr O.size)/\Blk W3 (tb+1+1) 124 th0/\
  Blk W4 tb 124 (thArr t)/\Blk W4 (tb+1) 205 (V.arr O.size)/\Blk W4 (tb+1+1) 124 th0/\
  RMoves Inv s own rb t ins0 O.size V 0 W4 W4/\c.At W4/\Tab W4/\rb=tb+1+1+1/\2<=tb/\rb<W4.heap.size/\Inv s own W4/\(∀j,own j->j<tb):=by
 have hB:=below3 W (.cells (thArr t) 124) (.cells (V.arr O.size) 205) (.cells th0 124)
 have T3:=((Blk.new W 124 (thArr t)).alloc (.cells (V.arr O.size) 205)).alloc (.cells th0 124)
 have P3:=(Blk.new2 W (.cells (thArr t) 124) 205 (V.arr O.size)).alloc (.cells th0 124)
 have R3:=Blk.new2 (W.alloc (.cells (thArr t) 124)) (.cells (V.arr O.size) 205) 124 th0
 rw [show (W.alloc (.cells (thArr t) 124)).heap.size=W.heap.size+1 by simp]at R3
 have hz:(((W.alloc (.cells (thArr t) 124)).alloc (.cells (V.arr O.size) 205)).alloc (.cells th0 124)).heap.size=W.heap.size+1+1+1:=by simp
 obtain ⟨W3,hW3⟩: ∃W3,((W.alloc (.cells (thArr t) 124)).alloc (.cells (V.arr O.size) 205)).alloc (.cells th0 124)=W3:=⟨_,rfl⟩
 rw [hW3]at hB T3 P3 R3 hz
 have hB4:=hB.alloc hB.size (.cells (rnArr t V O.size) 230)
 have hlt:=fun j h=>hP.lt s own W j hI h
 have hI4:=hP.keep s own W _ hI ((Stay.refl own W).below hlt hB4)
 have hn: ¬own W3.heap.size:=fun h=>by have :=hlt _ h;omega
 refine ⟨W.heap.size,W3.heap.size,W3,_,rfl,hW3,rfl,rfl,hB,hB4,T3,P3,R3,T3.alloc _,P3.alloc _,R3.alloc _,RMoves.start hP (rn_new (Blk.new W3 230 (rnArr t V O.size))) hI4 hn,hca.step hB4,hT.step hB4,hz,hT.1,by simp,hI4,hlt⟩
end Go.Proofs.YtmhfpjnkjlhbpaaGreatDoor
