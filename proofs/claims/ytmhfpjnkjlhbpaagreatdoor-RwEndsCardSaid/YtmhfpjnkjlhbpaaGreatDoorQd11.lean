/- core.Step: what its boxes keep; its run's row, written in the middle. core.Step, path by path. core.Step, path by path: asks or not. -/
import Derived.Test.YtmhfpjnkjlhbpaaGreatDoorQd10
namespace Go.Proofs.YtmhfpjnkjlhbpaaGreatDoor
open Go.ChangeShapes Go.WideShapes Go.ChangeAt Go.RowKit Go.Deep
set_option linter.unusedVariables false
set_option maxRecDepth 100000
set_option linter.unusedSimpArgs false
def Pv.val (V:Pv) (size:Nat):Value:= .agg #[.int .i64 (size:Int),V.load.val,V.room.val,V.store.val,V.empty.val,V.flush.val,V.swap.val,V.sleep.val,V.wake.val,V.remote.val,V.note.val]
def Pv.arr (V:Pv) (size:Nat):Array Value:= #[.int .i64 (size:Int),V.load.val,V.room.val,V.store.val,V.empty.val,V.flush.val,V.swap.val,V.sleep.val,V.wake.val,V.remote.val,V.note.val]
def ins0:Ins:=⟨0,0,0,0,0⟩
def rnArr (t:Th) (V:Pv) (size:Nat):Array Value:= #[.int .i64 t.pc,.int .u32 (t.regs 0),.int .u32 (t.regs 1),.int .u32 (t.regs 2),.int .u32 (t.regs 3),.int .u32 (t.regs 4),.int .u32 (t.regs 5),.int .u32 (t.regs 6),.int .u32 (t.regs 7),.int .i64 t.st,
 .int .i64 0,.int .i64 0,.int .i64 0,.int .i64 0,.int .u32 0,.int .i64 (size:Int),V.load.val,V.room.val,V.store.val,V.empty.val,V.flush.val,V.swap.val,V.sleep.val,V.wake.val,V.remote.val,V.note.val,.int .i64 0]
theorem rn_new {W:World} {rb:Nat} {t:Th} {V:Pv} {size:Nat} (h:Blk W rb 230 (rnArr t V size)):Rn W rb t ins0 size V 0:=
 ⟨_,h,rfl,fun j u hu=>by
  have hk:=(List.getElem?_eq_some_iff.1 hu).1
  rw [th_len]at hk
  rcases ten hk with rfl|rfl|rfl|rfl|rfl|rfl|rfl|rfl|rfl|rfl<;>exact hu,fun j u hu=>by
  have hk:=(List.getElem?_eq_some_iff.1 hu).1
  rw [show ins0.cells.length=5 from rfl]at hk
  rcases (by omega:j=0∨j=1∨j=2∨j=3∨j=4)with rfl|rfl|rfl|rfl|rfl<;>exact hu,rfl,rfl,rfl,rfl,rfl,rfl,rfl,rfl,rfl,rfl,rfl,rfl⟩
section
variable {W:World} {rb:Nat} {t:Th} {i:Ins} {size:Nat} {V:Pv} {addr:Int}
theorem Rn.rangeT (h:Rn W rb t i size V addr):W.rangeAt rb 0 t.cells:=fun j v hv=>by rw [Nat.zero_add];exact h.tc hv
theorem Rn.rangeI (h:Rn W rb t i size V addr):W.rangeAt rb 10 i.cells:=fun j v hv=>h.ic hv
theorem Rn.thereI (h:Rn W rb t i size V addr):W.there rb 10 5:=by
 obtain ⟨cs,hb,hsz,_⟩:=h.row
 exact hb.there 10 5 (by omega)
theorem Rn.setIns (h:Rn W rb t i size V addr) (i':Ins):Rn (W.setCells rb 10 i'.cells) rb t i' size V addr/\W.grownBy (W.setCells rb 10 i'.cells) (some rb):=by
 obtain ⟨cs,hb,hsz,ht,hi,q15,q16,q17,q18,q19,q20,q21,q22,q23,q24,q25,q26⟩:=h.row
 have h5:i'.cells.length=5:=rfl
 obtain ⟨cs',h1,h2,h3,h4,hg⟩:=setCells_row rb 230 i'.cells 10 W cs hb (by omega)
 have out: ∀k,15<=k-> ∀u,cs[k]?=some u->cs'[k]?=some u:=fun k hk u hu=>by rw [h4 k (.inr (by omega))];exact hu
 refine ⟨⟨cs',h1,by omega,fun k u hu=>?_,fun k u hu=>?_,out _ (by omega) _ q15,out _ (by omega) _ q16,out _ (by omega) _ q17,out _ (by omega) _ q18,out _ (by omega) _ q19,out _ (by omega) _ q20,out _ (by omega) _ q21,out _ (by omega) _ q22,out _ (by omega) _ q23,out _ (by omega) _ q24,out _ (by omega) _ q25,out _ (by omega) _ q26⟩,hg⟩
 ·have hk:=(List.getElem?_eq_some_iff.1 hu).1
  rw [th_len]at hk
  rw [h4 k (.inl hk)]
  exact ht k u hu
 ·have hk:=(List.getElem?_eq_some_iff.1 hu).1
  rw [h3 k hk]
  exact hu
theorem Rn.setAddr (h:Rn W rb t i size V addr) (v:Int):Rn (W.setCell ⟨rb,26,none⟩ (.int .i64 v)) rb t i size V v:=by
 obtain ⟨cs,hb,hsz,ht,hi,q15,q16,q17,q18,q19,q20,q21,q22,q23,q24,q25,q26⟩:=h.row
 have ne: ∀k,k≠26-> ∀u,cs[k]?=some u->(cs.setIfInBounds 26 (.int .i64 v))[k]?=some u:=fun k hk u hu=>by rw [Array.getElem?_setIfInBounds_ne (Ne.symm hk)];exact hu
 refine ⟨cs.setIfInBounds 26 (.int .i64 v),hb.set_ 26 _,by simpa using hsz,fun k u hu=>ne _ (fun e=>?_) u (ht k u hu),fun k u hu=>ne _ (fun e=>?_) u (hi k u hu),ne _ (by omega) _ q15,ne _ (by omega) _ q16,ne _ (by omega) _ q17,ne _ (by omega) _ q18,ne _ (by omega) _ q19,ne _ (by omega) _ q20,ne _ (by omega) _ q21,ne _ (by omega) _ q22,ne _ (by omega) _ q23,ne _ (by omega) _ q24,ne _ (by omega) _ q25,?_⟩
 ·have hk:=(List.getElem?_eq_some_iff.1 hu).1
  rw [th_len]at hk
  omega
 ·have hk:=(List.getElem?_eq_some_iff.1 hu).1
  rw [show i.cells.length=5 from rfl]at hk
  omega
 ·rw [Array.getElem?_setIfInBounds_self_of_lt (by omega)]
end
section
variable {σ:Type} {O:Ops σ} {V:Pv} {Inv:σ->(Nat->Prop)->World->Prop} {can:Nat->σ->Prop} {s:σ} {own:Nat->Prop} {rb:Nat} {t t':Th} {i i':Ins} {size:Nat} {addr addr':Int} {W W1 W2:World}
theorem RMoves.grown (hP:PortOk O V Inv can) (h:RMoves Inv s own rb t i size V addr W W1) (hg:W1.grownBy W2 (some rb)) (hs:Rn W2 rb t' i' size V addr'):RMoves Inv s own rb t' i' size V addr' W W2:=by
 obtain ⟨own1,h1,h2,h3,h4,h5⟩:=h
 exact ⟨own1,hP.keep s own1 W1 _ h1 ⟨fun j hj=>hg.block j (hP.lt s own1 W1 j h1 hj) (fun e=>h5 (by rw [<-Option.some.inj e];exact hj)),hg.size⟩,h2,
  ⟨hg.os.trans h3.os,hg.tape.trans h3.tape,hg.output.trans h3.output,Nat.le_trans h3.size hg.size,fun j hj hn=>(hg.block j (Nat.lt_of_lt_of_le hj h3.size) (fun e=>hn (.inr (Option.some.inj e)))).trans (h3.block j hj hn)⟩,hs,h5⟩
theorem RMoves.setIns (hP:PortOk O V Inv can) (h:RMoves Inv s own rb t i size V addr W W1) (i':Ins):RMoves Inv s own rb t i' size V addr W (W1.setCells rb 10 i'.cells):=
 h.grown hP (h.rn.setIns i').2 (h.rn.setIns i').1
theorem RMoves.setAddr (hP:PortOk O V Inv can) (h:RMoves Inv s own rb t i size V addr W W1) (v:Int):RMoves Inv s own rb t i size V v W (W1.setCell ⟨rb,26,none⟩ (.int .i64 v)):=
 h.grown hP (set_only _) (h.rn.setAddr v)
theorem RMoves.setPc (hP:PortOk O V Inv can) (h:RMoves Inv s own rb t i size V addr W W1) (v:Int):RMoves Inv s own rb {t with pc:=v} i size V addr W (W1.setCell ⟨rb,0,none⟩ (.int .i64 v)):=
 h.grown hP (set_only _) (h.rn.setPc v)
theorem RMoves.blk (h:RMoves Inv s own rb t i size V addr W W1) {g:Nat} {ty:TypeId} {cs:Array Value} (hb:Blk W g ty cs) (hn: ¬own g) (hr:g≠rb):Blk W1 g ty cs:=by
 obtain ⟨_,_,_,h3,_⟩:=h
 exact h3.blk hb (fun e=>e.elim hn hr)
theorem RMoves.tab (hP:PortOk O V Inv can) (h:RMoves Inv s own rb t i size V addr W W1) {s':σ} (hI:Inv s' own W) (hT:Tab W) (hr:2<=rb):Tab W1:=by
 obtain ⟨_,_,_,h3,_⟩:=h
 have hc: ∀(g j:Nat),g<2->W1.cell? ⟨g,j,none⟩=W.cell? ⟨g,j,none⟩:=fun g j hg=>by
  have :=h3.block g (Nat.lt_of_lt_of_le hg hT.1) (fun e=>by
   rcases e with e|e
   ·have :=hP.hi _ own W g hI e;omega
   ·omega)
  simp only [World.cell?,this]
 exact ⟨Nat.le_trans hT.1 h3.size,fun j hj=>(hc _ j (by decide)).trans (hT.2.1 j hj),fun j hj=>(hc _ j (by decide)).trans (hT.2.2 j hj)⟩
theorem step_end {s0:σ} {W0 Wb:World} {g:Nat} (hP:PortOk O V Inv can) (hI:Inv s0 own W0) (hb:Below W0.heap.size W0 Wb) (h:RMoves Inv s own rb t i size V addr Wb W1) (hr:W0.heap.size<=rb) (hg:W0.heap.size<=g) (hlt:g<Wb.heap.size) (hw:W1.grownBy W2 (some g)):Moves Inv s own W0 W2:=by
 obtain ⟨own1,h1,h2,h3,h4,h5⟩:=h
 have hno: ¬own g:=fun e=>by have :=hP.lt s0 own W0 g hI e;omega
 refine ⟨own1,hP.keep s own1 W1 _ h1 ⟨fun j hj=>hw.block j (hP.lt s own1 W1 j h1 hj) (fun e=>?_),hw.size⟩,fun j hj=>(h2 j hj).imp id (fun q=>Nat.le_trans hb.size q),?_⟩
 ·obtain rfl:=Option.some.inj e
  rcases h2 _ hj with h|h
  ·exact hno h
  ·omega
 ·refine ⟨hw.os.trans (h3.os.trans hb.os),hw.tape.trans (h3.tape.trans hb.tape),hw.output.trans (h3.output.trans hb.output),Nat.le_trans hb.size (Nat.le_trans h3.size hw.size),fun j hj hn=>?_⟩
  have hj1:=Nat.lt_of_lt_of_le hj hb.size
  exact (hw.block j (Nat.lt_of_lt_of_le hj1 h3.size) (fun e=>by have :=Option.some.inj e;omega)).trans ((h3.block j hj1 (fun e=>e.elim hn (fun q=>by omega))).trans (hb.block j hj))
end
theorem below3 (W:World) (A B C:Obj):Below W.heap.size W (((W.alloc A).alloc B).alloc C):=
 have h1:=(Below.refl W.heap.size W).alloc (Nat.le_refl _) A
 have h2:=h1.alloc h1.size B
 h2.alloc h2.size C
theorem Stay.grownB {own:Nat->Prop} {A B C D:World} (h:Stay own A B) (hlt: ∀i,own i->i<A.heap.size) {g:Nat} (hb:Below A.heap.size B C) (hg:C.grownBy D (some g)) (hn: ¬own g):Stay own A D:=
 ⟨fun i hi=>(hg.block i (Nat.lt_of_lt_of_le (hlt i hi) (Nat.le_trans h.size hb.size)) (fun e=>hn (by rw [<-Option.some.inj e];exact hi))).trans ((hb.block i (hlt i hi)).trans (h.own i hi)),Nat.le_trans h.size (Nat.le_trans hb.size hg.size)⟩
theorem KeepOut.grown {own:Nat->Prop} {A B C:World} (h:KeepOut own A B) {g:Nat} (hg:B.grownBy C (some g)) (hr:A.heap.size<=g):KeepOut own A C:=
 ⟨hg.os.trans h.os,hg.tape.trans h.tape,hg.output.trans h.output,Nat.le_trans h.size hg.size,fun i hi hn=>(hg.block i (Nat.lt_of_lt_of_le hi h.size) (fun e=>by have :=Option.some.inj e;omega)).trans (h.block i hi hn)⟩
def th0:Array Value:= #[.int .i64 0,.int .u32 0,.int .u32 0,.int .u32 0,.int .u32 0,.int .u32 0,.int .u32 0,.int .u32 0,.int .u32 0,.int .i64 0]
theorem step_boxes {σ:Type} {O:Ops σ} {V:Pv} {Inv:σ->(Nat->Prop)->World->Prop} {can:Nat->σ->Prop} (hP:PortOk O V Inv can) (s:σ) (own:Nat->Prop) (t:Th) (c:Cd) (W:World) (hI:Inv s own W) (hT:Tab W) (hca:c.At W):
 ∃tb rb W3 W4,W.heap.size=tb/\((W.alloc (.cells (thArr t) 124)).alloc (.cells (V.arr O.size) 205)).alloc (.cells th0 124)=W3/\W3.heap.size=rb/\W3.alloc (.cells (rnArr t V O.size) 230)=W4/\
  Below tb W W3/\Below tb W W4/\Blk W3 tb 124 (thArr t)/\Blk W3 (tb+1) 205 (V.arr O.size)/\Blk W3 (tb+1+1) 124 th0/\
  Blk W4 tb 124 (thArr t)/\Blk W4 (tb+1) 205 (V.arr O.size)/\Blk W4 (tb+1+1) 124 th0/\
  RMoves Inv s own rb t ins0 O.size V 0 W4 W4/\c.At W4/\Tab W4/\rb=tb+1+1+1/\2<=tb/\rb<W4.heap.size/\Inv s own W4/\(∀j,own j->j<tb):=by
 have hB:=below3 W (.cells (thArr t) 124) (.cells (V.arr O.size) 205) (.cells th0 124)
 have T3:=((Blk.new W 124 (thArr t)).alloc (.cells (V.arr O.size) 205)).alloc (.cells th0 124)
 have P3:=(Blk.new2 W (.cells (thArr t) 124) 205 (V.arr O.size)).alloc (.cells th0 124)
 have R3:=Blk.new2 (W.alloc (.cells (thArr t) 124)) (.cells (V.arr O.size) 205) 124 th0
 rw [show (W.alloc (.cells (thArr t) 124)).heap.size=W.heap.size+1 by simp]at R3
 have hz:(((W.alloc (.cells (thArr t) 124)).alloc (.cells (V.arr O.size) 205)).alloc (.cells th0 124)).heap.size=W.heap.size+1+1+1:=by simp
 obtain ⟨W3,hW3⟩: ∃W3,((W.alloc (.cells (thArr t) 124)).alloc (.cells (V.arr O.size) 205)).alloc (.cells th0 124)=W3:=⟨_,rfl⟩
 rw [hW3]at hB T3 P3 R3 hz
 have hB4:=hB.alloc hB.size (.cells (rnArr t V O.size) 230)
 have hlt:=fun j h=>hP.lt s own W j hI h
 have hI4:=hP.keep s own W _ hI ((Stay.refl own W).below hlt hB4)
 have hn: ¬own W3.heap.size:=fun h=>by have :=hlt _ h;omega
 refine ⟨W.heap.size,W3.heap.size,W3,_,rfl,hW3,rfl,rfl,hB,hB4,T3,P3,R3,T3.alloc _,P3.alloc _,R3.alloc _,RMoves.start hP (rn_new (Blk.new W3 230 (rnArr t V O.size))) hI4 hn,hca.step hB4,hT.step hB4,hz,hT.1,by simp,hI4,hlt⟩
set_option maxHeartbeats 3000000 in
theorem step_stopped {σ:Type} {O:Ops σ} {V:Pv} {Inv:σ->(Nat->Prop)->World->Prop} {can:Nat->σ->Prop} (hP:PortOk O V Inv can) (n:Nat) (s:σ) (own:Nat->Prop) (t:Th) (c:Cd) (W:World)
 (hI:Inv s own W) (hT:Tab W) (hca:c.At W) (hco:c.Ok) (hst:t.st≠0):
 Calls Tryz.prog 126 #[t.val,c.val,V.val O.size] W fun e W'=>e= .returned (t:Th).val/\Moves Inv (s) own W W':=by
 obtain ⟨tb,rb,W3,W4,htb,hW3,hsz3,hW4,hB3,hB4,T3,P3,R3,T4,P4,R4,hM,hca4,hT4,hrb,htb2,hrb4,hI4,hlt⟩:=step_boxes hP s own t c W hI hT hca
 unfold thArr Pv.arr th0 Fv.val at hW3
 unfold rnArr Fv.val at hW4
 have HX:=Lib.hid (And.intro hI (And.intro hB3 (And.intro hrb hlt)))
 have c0:W3.cell? ⟨tb,0,none⟩=some (.int .i64 t.pc):=(T3.cell 0).trans rfl
 have c1:W3.cell? ⟨tb,1,none⟩=some (.int .u32 (t.regs 0)):=(T3.cell 1).trans rfl
 have c2:W3.cell? ⟨tb,2,none⟩=some (.int .u32 (t.regs 1)):=(T3.cell 2).trans rfl
 have c3:W3.cell? ⟨tb,3,none⟩=some (.int .u32 (t.regs 2)):=(T3.cell 3).trans rfl
 have c4:W3.cell? ⟨tb,4,none⟩=some (.int .u32 (t.regs 3)):=(T3.cell 4).trans rfl
 have c5:W3.cell? ⟨tb,5,none⟩=some (.int .u32 (t.regs 4)):=(T3.cell 5).trans rfl
 have c6:W3.cell? ⟨tb,6,none⟩=some (.int .u32 (t.regs 5)):=(T3.cell 6).trans rfl
 have c7:W3.cell? ⟨tb,7,none⟩=some (.int .u32 (t.regs 6)):=(T3.cell 7).trans rfl
 have c8:W3.cell? ⟨tb,8,none⟩=some (.int .u32 (t.regs 7)):=(T3.cell 8).trans rfl
 have c9:W3.cell? ⟨tb,9,none⟩=some (.int .i64 t.st):=(T3.cell 9).trans rfl
 have HP:=Lib.hid hP
 clear hB3 hB4 T4 P4 R4 hM hca4 hT4 hca hT hI hI4 hW4 hsz3 P3 T3 hlt hP hrb4 hrb hco
 unfold Th.val Cd.val Pv.val Fv.val
 go_enter Tryz.func126,Tryz.ntmps126
 go_wp2_with (refine wpList_store_row rfl 124 (.tmp 6) (.tmp 12) rfl _ rfl (thArr t) rfl 124 _ R3 rfl th_info (th_one _) ?_;intro W9 hb9 hg9)
 exact bodyPost_ret (results_cell Tryz.results126 _ _ _ _ rfl (run_row _ _ _ _ _ _ hb9 Tryz.underlying124 rfl th_info)) rfl ⟨rfl,by
  obtain ⟨hI,hB3,hrb,hlt⟩:=HX.out
  have hno: ¬own (tb+1+1):=fun h=>by have :=hlt _ h;omega
  subst htb
  exact ⟨own,HP.out.keep s own W _ hI ((Stay.refl own W).grownB hlt hB3 hg9 hno),fun j h=> .inl h,(KeepOut.of_below (own:=own) hB3).grown hg9 (by omega)⟩⟩
set_option maxHeartbeats 3000000 in
theorem step_out {σ:Type} {O:Ops σ} {V:Pv} {Inv:σ->(Nat->Prop)->World->Prop} {can:Nat->σ->Prop} (hP:PortOk O V Inv can) (n:Nat) (s:σ) (own:Nat->Prop) (t:Th) (c:Cd) (W:World)
 (hI:Inv s own W) (hT:Tab W) (hca:c.At W) (hco:c.Ok) (hst:t.st=0) (hpc:t.pc<0∨(c.len:Int)<=t.pc) (hc:can (n+1) s):
 Calls Tryz.prog 126 #[t.val,c.val,V.val O.size] W fun e W'=>e= .returned ({t with st:=2}:Th).val/\Moves Inv (O.note s ⟨12,0,t.pc,0,0,0,0,false⟩) own W W':=by
 obtain ⟨pc,regs,st⟩:=t
 dsimp only at*
 subst hst
 obtain ⟨tb,rb,W3,W4,htb,hW3,hsz3,hW4,hB3,hB4,T3,P3,R3,T4,P4,R4,hM,hca4,hT4,hrb,htb2,hrb4,hI4,hlt⟩:=step_boxes hP s own ⟨pc,regs,0⟩ c W hI hT hca
 unfold thArr Pv.arr th0 Fv.val at hW3
 unfold rnArr Fv.val at hW4
 have HX:=Lib.hid (And.intro hP (And.intro hI (And.intro hB4 (And.intro hrb hrb4))))
 have c0:W3.cell? ⟨tb,0,none⟩=some (.int .i64 pc):=(T3.cell 0).trans rfl
 have c1:W3.cell? ⟨tb,1,none⟩=some (.int .u32 (regs 0)):=(T3.cell 1).trans rfl
 have c2:W3.cell? ⟨tb,2,none⟩=some (.int .u32 (regs 1)):=(T3.cell 2).trans rfl
 have c3:W3.cell? ⟨tb,3,none⟩=some (.int .u32 (regs 2)):=(T3.cell 3).trans rfl
 have c4:W3.cell? ⟨tb,4,none⟩=some (.int .u32 (regs 3)):=(T3.cell 4).trans rfl
 have c5:W3.cell? ⟨tb,5,none⟩=some (.int .u32 (regs 4)):=(T3.cell 5).trans rfl
 have c6:W3.cell? ⟨tb,6,none⟩=some (.int .u32 (regs 5)):=(T3.cell 6).trans rfl
 have c7:W3.cell? ⟨tb,7,none⟩=some (.int .u32 (regs 6)):=(T3.cell 7).trans rfl
 have c8:W3.cell? ⟨tb,8,none⟩=some (.int .u32 (regs 7)):=(T3.cell 8).trans rfl
 have c9:W3.cell? ⟨tb,9,none⟩=some (.int .i64 0):=(T3.cell 9).trans rfl
 have p0:W3.cell? ⟨tb+1,0,none⟩=some (.int .i64 (O.size:Int)):=(P3.cell 0).trans rfl
 have p1:W3.cell? ⟨tb+1,1,none⟩=some (.func (.func V.load.k) V.load.f V.load.c):=(P3.cell 1).trans rfl
 have p2:W3.cell? ⟨tb+1,2,none⟩=some (.func (.func V.room.k) V.room.f V.room.c):=(P3.cell 2).trans rfl
 have p3:W3.cell? ⟨tb+1,3,none⟩=some (.func (.func V.store.k) V.store.f V.store.c):=(P3.cell 3).trans rfl
 have p4:W3.cell? ⟨tb+1,4,none⟩=some (.func (.func V.empty.k) V.empty.f V.empty.c):=(P3.cell 4).trans rfl
 have p5:W3.cell? ⟨tb+1,5,none⟩=some (.func (.func V.flush.k) V.flush.f V.flush.c):=(P3.cell 5).trans rfl
 have p6:W3.cell? ⟨tb+1,6,none⟩=some (.func (.func V.swap.k) V.swap.f V.swap.c):=(P3.cell 6).trans rfl
 have p7:W3.cell? ⟨tb+1,7,none⟩=some (.func (.func V.sleep.k) V.sleep.f V.sleep.c):=(P3.cell 7).trans rfl
 have p8:W3.cell? ⟨tb+1,8,none⟩=some (.func (.func V.wake.k) V.wake.f V.wake.c):=(P3.cell 8).trans rfl
 have p9:W3.cell? ⟨tb+1,9,none⟩=some (.func (.func V.remote.k) V.remote.f V.remote.c):=(P3.cell 9).trans rfl
 have p10:W3.cell? ⟨tb+1,10,none⟩=some (.func (.func V.note.k) V.note.f V.note.c):=(P3.cell 10).trans rfl
 have d0:W4.cell? ⟨tb,0,none⟩=some (.int .i64 pc):=(T4.cell 0).trans rfl
 have hH:=hM.then_ (t':=⟨pc,regs,2⟩) (fun own1 k1 k2=>halts_any hP n s own1 rb ⟨pc,regs,0⟩ ins0 0 W4 hM.rn k1 k2 hc)
 dsimp only at hH
 have HR:=Lib.hid (And.intro R4 (And.intro hlt hrb))
 clear hB3 hB4 hca hT hI hlt hI4 hrb hrb4 T3 P3 R3 T4 P4 R4 hM hca4 hT4 hco hP hc
 unfold Th.val Cd.val Pv.val Fv.val
 dsimp only at hW3 hW4⊢
 rcases (by omega:pc<0∨(0<=pc/\(c.len:Int)<=pc))with hneg|⟨hpos,hbig⟩
 ·clear hpc
  go_enter Tryz.func126,Tryz.ntmps126
  go_wp2_with fail
  refine hH.mono ?_
  rintro e W5 ⟨rfl,hM5⟩
  have R5:=hM5.blk HR.out.1 (fun h=>by have :=HR.out.2.1 _ h;omega) (by have :=HR.out.2.2;omega)
  have HM5:=Lib.hid hM5
  clear hH hM5 HR
  unfold Th.val
  dsimp only
  go_wp2_with (refine wpList_store_row rfl 124 (.tmp 6) (.tmp 28) rfl _ rfl (thArr (⟨pc,regs,2⟩:Th)) rfl 124 _ R5 rfl th_info (th_one _) ?_;intro W9 hb9 hg9)
  exact bodyPost_ret (results_cell Tryz.results126 _ _ _ _ rfl (run_row _ _ _ _ _ _ hb9 Tryz.underlying124 rfl th_info)) rfl ⟨rfl,by
   obtain ⟨hP,hI,hB4,hrb,hrb4⟩:=HX.out
   subst htb
   exact step_end hP hI hB4 HM5.out (by omega) (by omega) (by omega) hg9⟩
 ·have hnn: ¬pc<0:=by omega
  clear hpc hpos
  go_enter Tryz.func126,Tryz.ntmps126
  go_wp2_with fail
  refine hH.mono ?_
  rintro e W5 ⟨rfl,hM5⟩
  have R5:=hM5.blk HR.out.1 (fun h=>by have :=HR.out.2.1 _ h;omega) (by have :=HR.out.2.2;omega)
  have HM5:=Lib.hid hM5
  clear hH hM5 HR
  unfold Th.val
  dsimp only
  go_wp2_with (refine wpList_store_row rfl 124 (.tmp 6) (.tmp 28) rfl _ rfl (thArr (⟨pc,regs,2⟩:Th)) rfl 124 _ R5 rfl th_info (th_one _) ?_;intro W9 hb9 hg9)
  exact bodyPost_ret (results_cell Tryz.results126 _ _ _ _ rfl (run_row _ _ _ _ _ _ hb9 Tryz.underlying124 rfl th_info)) rfl ⟨rfl,by
   obtain ⟨hP,hI,hB4,hrb,hrb4⟩:=HX.out
   subst htb
   exact step_end hP hI hB4 HM5.out (by omega) (by omega) (by omega) hg9⟩
set_option maxHeartbeats 3000000 in
theorem step_wrong {σ:Type} {O:Ops σ} {V:Pv} {Inv:σ->(Nat->Prop)->World->Prop} {can:Nat->σ->Prop} (hP:PortOk O V Inv can) (n:Nat) (s:σ) (own:Nat->Prop) (t:Th) (c:Cd) (W:World)
 (hI:Inv s own W) (hT:Tab W) (hca:c.At W) (hco:c.Ok) (hst:t.st=0) (p:Nat) (hpc:t.pc=(p:Int)) (hp:p<c.len) (hr:rightB (c.F p) c.len=false) (hc:can (n+1) s):
 Calls Tryz.prog 126 #[t.val,c.val,V.val O.size] W fun e W'=>e= .returned ({t with st:=3}:Th).val/\Moves Inv (O.note s ⟨13,0,t.pc,0,0,0,0,false⟩) own W W':=by
 obtain ⟨pc,regs,st⟩:=t
 dsimp only at*
 subst hst
 subst hpc
 obtain ⟨tb,rb,W3,W4,htb,hW3,hsz3,hW4,hB3,hB4,T3,P3,R3,T4,P4,R4,hM,hca4,hT4,hrb,htb2,hrb4,hI4,hlt⟩:=step_boxes hP s own ⟨(p:Int),regs,0⟩ c W hI hT hca
 unfold thArr Pv.arr th0 Fv.val at hW3
 unfold rnArr Fv.val at hW4
 have HX:=Lib.hid (And.intro hP (And.intro hI (And.intro hB4 (And.intro hrb hrb4))))
 have c0:W3.cell? ⟨tb,0,none⟩=some (.int .i64 (p:Int)):=(T3.cell 0).trans rfl
 have c1:W3.cell? ⟨tb,1,none⟩=some (.int .u32 (regs 0)):=(T3.cell 1).trans rfl
 have c2:W3.cell? ⟨tb,2,none⟩=some (.int .u32 (regs 1)):=(T3.cell 2).trans rfl
 have c3:W3.cell? ⟨tb,3,none⟩=some (.int .u32 (regs 2)):=(T3.cell 3).trans rfl
 have c4:W3.cell? ⟨tb,4,none⟩=some (.int .u32 (regs 3)):=(T3.cell 4).trans rfl
 have c5:W3.cell? ⟨tb,5,none⟩=some (.int .u32 (regs 4)):=(T3.cell 5).trans rfl
 have c6:W3.cell? ⟨tb,6,none⟩=some (.int .u32 (regs 5)):=(T3.cell 6).trans rfl
 have c7:W3.cell? ⟨tb,7,none⟩=some (.int .u32 (regs 6)):=(T3.cell 7).trans rfl
 have c8:W3.cell? ⟨tb,8,none⟩=some (.int .u32 (regs 7)):=(T3.cell 8).trans rfl
 have c9:W3.cell? ⟨tb,9,none⟩=some (.int .i64 0):=(T3.cell 9).trans rfl
 have p0:W3.cell? ⟨tb+1,0,none⟩=some (.int .i64 (O.size:Int)):=(P3.cell 0).trans rfl
 have p1:W3.cell? ⟨tb+1,1,none⟩=some (.func (.func V.load.k) V.load.f V.load.c):=(P3.cell 1).trans rfl
 have p2:W3.cell? ⟨tb+1,2,none⟩=some (.func (.func V.room.k) V.room.f V.room.c):=(P3.cell 2).trans rfl
 have p3:W3.cell? ⟨tb+1,3,none⟩=some (.func (.func V.store.k) V.store.f V.store.c):=(P3.cell 3).trans rfl
 have p4:W3.cell? ⟨tb+1,4,none⟩=some (.func (.func V.empty.k) V.empty.f V.empty.c):=(P3.cell 4).trans rfl
 have p5:W3.cell? ⟨tb+1,5,none⟩=some (.func (.func V.flush.k) V.flush.f V.flush.c):=(P3.cell 5).trans rfl
 have p6:W3.cell? ⟨tb+1,6,none⟩=some (.func (.func V.swap.k) V.swap.f V.swap.c):=(P3.cell 6).trans rfl
 have p7:W3.cell? ⟨tb+1,7,none⟩=some (.func (.func V.sleep.k) V.sleep.f V.sleep.c):=(P3.cell 7).trans rfl
 have p8:W3.cell? ⟨tb+1,8,none⟩=some (.func (.func V.wake.k) V.wake.f V.wake.c):=(P3.cell 8).trans rfl
 have p9:W3.cell? ⟨tb+1,9,none⟩=some (.func (.func V.remote.k) V.remote.f V.remote.c):=(P3.cell 9).trans rfl
 have p10:W3.cell? ⟨tb+1,10,none⟩=some (.func (.func V.note.k) V.note.f V.note.c):=(P3.cell 10).trans rfl
 have d0:W4.cell? ⟨tb,0,none⟩=some (.int .i64 (p:Int)):=(T4.cell 0).trans rfl
 obtain ⟨b,off,hA,hblt,hcc⟩:=hca4 (by omega)
 have hi:=hco.ins p hp
 obtain ⟨i,hci⟩: ∃i,c.F p=i:=⟨_,rfl⟩
 have hcr:=hcc p hp
 dsimp only at hcr
 rw [hci]at hi hr hcr
 have hra:W4.rangeAt b (off+p*5) i.cells:=hcr
 have hcl:c.len<=c.cap:=hco.hl
 have hcm:c.cap<=9223372036854775807:=hco.hm
 have hM5:=hM.setIns hP i
 have hth:W4.there rb 10 i.cells.toArray.size:=hM.rn.thereI
 have hone:i.cells.toArray.all (·.oneCell')=true:=by simp [Ins.cells,Value.oneCell']
 obtain ⟨W5,hW5⟩: ∃W5,W4.setCells rb 10 i.cells=W5:=⟨_,rfl⟩
 rw [hW5]at hM5
 have hT5:=hM5.tab hP hI4 hT4 (by omega)
 have hrI:=hM5.rn.rangeI
 have hRt:=right_any i c.len hi (by omega) (by omega) W5 hT5
 rw [hr]at hRt
 have HR:=Lib.hid (And.intro R4 (And.intro hlt (And.intro hrb (And.intro P4 (And.intro hi (And.intro hI4 (And.intro hT4 T4)))))))
 have HM5:=Lib.hid (And.intro hM5 hT5)
 have hp1:(p:Int)<(c.len:Int):=by omega
 have hp0: ¬(c.len:Int)<=(p:Int):=by omega
 have hpn: ¬(p:Int)<0:=by omega
 have hnn:(0:Int)<=(p:Int):=by omega
 have HP:=Lib.hid (And.intro hP hc)
 clear hB3 hB4 hca hT hI hlt hI4 hrb hrb4 T3 P3 R3 T4 P4 R4 hM hT4 hco hP hc hM5 hT5 hcc hcr hr hp hi
 unfold Th.val Cd.val Pv.val Fv.val
 dsimp only at hW3 hW4⊢
 rw [hA]
 go_enter Tryz.func126,Tryz.ntmps126
 go_wp2_with (first
  |(refine wpList_load_mid rfl 75 (.tmp 33) rfl _ _ rfl i.cells _ (by simpa using hra) Tryz.underlying75 rfl (by kernel_rfl) ?_)
  |(refine wpList_store_mid rfl 75 (.tmp 36) (.tmp 34) rfl _ _ i.cells.toArray rfl rfl hth (by kernel_rfl) hone ?_;change wpList _ _ _ _ _ (W4.setCells rb 10 i.cells);rw [hW5])
  |(refine wpList_load_mid rfl 75 (.tmp 39) rfl _ _ rfl i.cells _ hrI Tryz.underlying75 rfl (by kernel_rfl) ?_))
 refine hRt.mono ?_
 rintro e W6 ⟨rfl,hb6⟩
 have hM6:=HM5.out.1.below HP.out.1 hb6
 have hT6:=HM5.out.2.step hb6
 clear hRt hb6 HM5 hth hone hra hrI c0 c1 c2 c3 c4 c5 c6 c7 c8 c9 p0 p1 p2 p3 p4 p5 p6 p7 p8 p9 p10 hW3 hW4 hW5 hca4 htb2 d0 hp1 hp0 hpn hnn hcl hcm hblt
 have hH:=hM6.then_ (t':=⟨(p:Int),regs,3⟩) (fun own1 k1 k2=>faults_any HP.out.1 n s own1 rb ⟨(p:Int),regs,0⟩ i 0 W6 hM6.rn k1 k2 HP.out.2)
 clear hM6 hT6
 go_wp2_with fail
 refine hH.mono ?_
 rintro e W5 ⟨rfl,hM5⟩
 have R5:=hM5.blk HR.out.1 (fun h=>by have :=HR.out.2.1 _ h;omega) (by have :=HR.out.2.2.1;omega)
 have HM5:=Lib.hid hM5
 clear hH hM5 HR
 unfold Th.val
 dsimp only
 go_wp2_with (refine wpList_store_row rfl 124 (.tmp 6) (.tmp 46) rfl _ rfl (thArr (⟨(p:Int),regs,3⟩:Th)) rfl 124 _ R5 rfl th_info (th_one _) ?_;intro W9 hb9 hg9)
 exact bodyPost_ret (results_cell Tryz.results126 _ _ _ _ rfl (run_row _ _ _ _ _ _ hb9 Tryz.underlying124 rfl th_info)) rfl ⟨rfl,by
  obtain ⟨hP,hI,hB4,hrb,hrb4⟩:=HX.out
  subst htb
  exact step_end hP hI hB4 HM5.out (by omega) (by omega) (by omega) hg9⟩
set_option maxHeartbeats 3000000 in
theorem step_far {σ:Type} {O:Ops σ} {V:Pv} {Inv:σ->(Nat->Prop)->World->Prop} {can:Nat->σ->Prop} (hP:PortOk O V Inv can) (n:Nat) (s:σ) (own:Nat->Prop) (t:Th) (c:Cd) (W:World)
 (hI:Inv s own W) (hT:Tab W) (hca:c.At W) (hco:c.Ok) (hst:t.st=0) (p:Nat) (hpc:t.pc=(p:Int)) (hp:p<c.len) (hr:rightB (c.F p) c.len=true) (hk:askB (c.F p).op=true) (hsz:(O.size:Int)<=9223372036854775807) (hbig:(O.size:Int)<=addrF t (c.F p)) (hc:can (n+1) s):
 Calls Tryz.prog 126 #[t.val,c.val,V.val O.size] W fun e W'=>e= .returned ({t with st:=3}:Th).val/\Moves Inv (O.note s ⟨13,0,t.pc,0,0,0,0,false⟩) own W W':=by
 obtain ⟨pc,regs,st⟩:=t
 dsimp only at*
 subst hst
 subst hpc
 obtain ⟨tb,rb,W3,W4,htb,hW3,hsz3,hW4,hB3,hB4,T3,P3,R3,T4,P4,R4,hM,hca4,hT4,hrb,htb2,hrb4,hI4,hlt⟩:=step_boxes hP s own ⟨(p:Int),regs,0⟩ c W hI hT hca
 unfold thArr Pv.arr th0 Fv.val at hW3
 unfold rnArr Fv.val at hW4
 have HX:=Lib.hid (And.intro hP (And.intro hI (And.intro hB4 (And.intro hrb hrb4))))
 have c0:W3.cell? ⟨tb,0,none⟩=some (.int .i64 (p:Int)):=(T3.cell 0).trans rfl
 have c1:W3.cell? ⟨tb,1,none⟩=some (.int .u32 (regs 0)):=(T3.cell 1).trans rfl
 have c2:W3.cell? ⟨tb,2,none⟩=some (.int .u32 (regs 1)):=(T3.cell 2).trans rfl
 have c3:W3.cell? ⟨tb,3,none⟩=some (.int .u32 (regs 2)):=(T3.cell 3).trans rfl
 have c4:W3.cell? ⟨tb,4,none⟩=some (.int .u32 (regs 3)):=(T3.cell 4).trans rfl
 have c5:W3.cell? ⟨tb,5,none⟩=some (.int .u32 (regs 4)):=(T3.cell 5).trans rfl
 have c6:W3.cell? ⟨tb,6,none⟩=some (.int .u32 (regs 5)):=(T3.cell 6).trans rfl
 have c7:W3.cell? ⟨tb,7,none⟩=some (.int .u32 (regs 6)):=(T3.cell 7).trans rfl
 have c8:W3.cell? ⟨tb,8,none⟩=some (.int .u32 (regs 7)):=(T3.cell 8).trans rfl
 have c9:W3.cell? ⟨tb,9,none⟩=some (.int .i64 0):=(T3.cell 9).trans rfl
 have p0:W3.cell? ⟨tb+1,0,none⟩=some (.int .i64 (O.size:Int)):=(P3.cell 0).trans rfl
 have p1:W3.cell? ⟨tb+1,1,none⟩=some (.func (.func V.load.k) V.load.f V.load.c):=(P3.cell 1).trans rfl
 have p2:W3.cell? ⟨tb+1,2,none⟩=some (.func (.func V.room.k) V.room.f V.room.c):=(P3.cell 2).trans rfl
 have p3:W3.cell? ⟨tb+1,3,none⟩=some (.func (.func V.store.k) V.store.f V.store.c):=(P3.cell 3).trans rfl
 have p4:W3.cell? ⟨tb+1,4,none⟩=some (.func (.func V.empty.k) V.empty.f V.empty.c):=(P3.cell 4).trans rfl
 have p5:W3.cell? ⟨tb+1,5,none⟩=some (.func (.func V.flush.k) V.flush.f V.flush.c):=(P3.cell 5).trans rfl
 have p6:W3.cell? ⟨tb+1,6,none⟩=some (.func (.func V.swap.k) V.swap.f V.swap.c):=(P3.cell 6).trans rfl
 have p7:W3.cell? ⟨tb+1,7,none⟩=some (.func (.func V.sleep.k) V.sleep.f V.sleep.c):=(P3.cell 7).trans rfl
 have p8:W3.cell? ⟨tb+1,8,none⟩=some (.func (.func V.wake.k) V.wake.f V.wake.c):=(P3.cell 8).trans rfl
 have p9:W3.cell? ⟨tb+1,9,none⟩=some (.func (.func V.remote.k) V.remote.f V.remote.c):=(P3.cell 9).trans rfl
 have p10:W3.cell? ⟨tb+1,10,none⟩=some (.func (.func V.note.k) V.note.f V.note.c):=(P3.cell 10).trans rfl
 have d0:W4.cell? ⟨tb,0,none⟩=some (.int .i64 (p:Int)):=(T4.cell 0).trans rfl
 obtain ⟨b,off,hA,hblt,hcc⟩:=hca4 (by omega)
 have hi:=hco.ins p hp
 obtain ⟨i,hci⟩: ∃i,c.F p=i:=⟨_,rfl⟩
 have hcr:=hcc p hp
 dsimp only at hcr
 rw [hci]at hi hr hcr hk hbig
 have hra:W4.rangeAt b (off+p*5) i.cells:=hcr
 have hcl:c.len<=c.cap:=hco.hl
 have hcm:c.cap<=9223372036854775807:=hco.hm
 have hM5:=hM.setIns hP i
 have hth:W4.there rb 10 i.cells.toArray.size:=hM.rn.thereI
 have hone:i.cells.toArray.all (·.oneCell')=true:=by simp [Ins.cells,Value.oneCell']
 obtain ⟨W5,hW5⟩: ∃W5,W4.setCells rb 10 i.cells=W5:=⟨_,rfl⟩
 rw [hW5]at hM5
 have hT5:=hM5.tab hP hI4 hT4 (by omega)
 have hrI:=hM5.rn.rangeI
 have hRt:=right_any i c.len hi (by omega) (by omega) W5 hT5
 rw [hr]at hRt
 have HR:=Lib.hid (And.intro R4 (And.intro hlt (And.intro hrb (And.intro P4 (And.intro hi (And.intro hI4 (And.intro hT4 T4)))))))
 have HM5:=Lib.hid (And.intro hM5 hT5)
 have hp1:(p:Int)<(c.len:Int):=by omega
 have hp0: ¬(c.len:Int)<=(p:Int):=by omega
 have hpn: ¬(p:Int)<0:=by omega
 have hnn:(0:Int)<=(p:Int):=by omega
 have HP:=Lib.hid (And.intro hP hc)
 clear hB3 hB4 hca hT hI hlt hI4 hrb hrb4 T3 P3 R3 T4 P4 R4 hM hT4 hco hP hc hM5 hT5 hcc hcr hr hp hi
 unfold Th.val Cd.val Pv.val Fv.val
 dsimp only at hW3 hW4⊢
 rw [hA]
 go_enter Tryz.func126,Tryz.ntmps126
 go_wp2_with (first
  |(refine wpList_load_mid rfl 75 (.tmp 33) rfl _ _ rfl i.cells _ (by simpa using hra) Tryz.underlying75 rfl (by kernel_rfl) ?_)
  |(refine wpList_store_mid rfl 75 (.tmp 36) (.tmp 34) rfl _ _ i.cells.toArray rfl rfl hth (by kernel_rfl) hone ?_;change wpList _ _ _ _ _ (W4.setCells rb 10 i.cells);rw [hW5])
  |(refine wpList_load_mid rfl 75 (.tmp 39) rfl _ _ rfl i.cells _ hrI Tryz.underlying75 rfl (by kernel_rfl) ?_))
 refine hRt.mono ?_
 rintro e W6 ⟨rfl,hb6⟩
 have hM6:=HM5.out.1.below HP.out.1 hb6
 have hT6:=HM5.out.2.step hb6
 clear hRt hb6 HM5 hth hone hra hrI c0 c1 c2 c3 c4 c5 c6 c7 c8 c9 p0 p1 p2 p3 p4 p5 p6 p7 p8 p9 p10 hW3 hW4 hW5 hca4 htb2 d0 hp1 hp0 hpn hnn hcl hcm hblt
 have hAs:=asks_any i.op W6 hT6
 rw [hk]at hAs
 have q10:=hM6.rn.ic (j:=0) rfl
 have HM6:=Lib.hid (And.intro hM6 hT6)
 clear hM6 hT6
 go_wp2_with fail
 refine hAs.mono ?_
 rintro e W7 ⟨rfl,hb7⟩
 have hM7:=HM6.out.1.below HP.out.1 hb7
 have hT7:=HM6.out.2.step hb7
 clear hAs q10 hb7 HM6
 have hno: ¬own tb:=fun h=>by have :=HR.out.2.1 _ h;omega
 have T7:=hM7.blk HR.out.2.2.2.2.2.2.2 hno (by have :=HR.out.2.2.1;omega)
 have c0:W7.cell? ⟨tb,0,none⟩=some (.int .i64 (p:Int)):=(T7.cell 0).trans rfl
 have c1:W7.cell? ⟨tb,1,none⟩=some (.int .u32 (regs 0)):=(T7.cell 1).trans rfl
 have c2:W7.cell? ⟨tb,2,none⟩=some (.int .u32 (regs 1)):=(T7.cell 2).trans rfl
 have c3:W7.cell? ⟨tb,3,none⟩=some (.int .u32 (regs 2)):=(T7.cell 3).trans rfl
 have c4:W7.cell? ⟨tb,4,none⟩=some (.int .u32 (regs 3)):=(T7.cell 4).trans rfl
 have c5:W7.cell? ⟨tb,5,none⟩=some (.int .u32 (regs 4)):=(T7.cell 5).trans rfl
 have c6:W7.cell? ⟨tb,6,none⟩=some (.int .u32 (regs 5)):=(T7.cell 6).trans rfl
 have c7:W7.cell? ⟨tb,7,none⟩=some (.int .u32 (regs 6)):=(T7.cell 7).trans rfl
 have c8:W7.cell? ⟨tb,8,none⟩=some (.int .u32 (regs 7)):=(T7.cell 8).trans rfl
 have c9:W7.cell? ⟨tb,9,none⟩=some (.int .i64 0):=(T7.cell 9).trans rfl
 have e0:=hM7.rn.ic (j:=0) rfl
 have e1:=hM7.rn.ic (j:=1) rfl
 have e2:=hM7.rn.ic (j:=2) rfl
 have e3:=hM7.rn.ic (j:=3) rfl
 have e4:=hM7.rn.ic (j:=4) rfl
 obtain ⟨had0,had1⟩:=addrF_u32 ⟨(p:Int),regs,0⟩ i HR.out.2.2.2.2.1.k0 HR.out.2.2.2.2.1.k1
 have hAd:=address_any ⟨(p:Int),regs,0⟩ i HR.out.2.2.2.2.1.k0 HR.out.2.2.2.2.1.k1 W7.drew
 obtain ⟨ad,hade⟩: ∃ad,addrF ⟨(p:Int),regs,0⟩ i=ad:=⟨_,rfl⟩
 rw [hade]at hAd had0 had1 hbig
 have HM7:=Lib.hid (And.intro (hM7.drew HP.out.1) hT7.drew)
 clear T7 hno hM7 hT7
 unfold Th.val at hAd
 dsimp only at hAd
 go_wp2
 go_still_tail 5,(by kernel_rfl)
 change wpList _ _ _ _ _ W7.drew
 clear c0 c1 c2 c3 c4 c5 c6 c7 c8 c9 e0 e1 e2 e3 e4
 generalize W7.drew=W8 at hAd HM7⊢
 go_wp2_with fail
 refine hAd.mono ?_
 rintro e W9 ⟨rfl,hb9⟩
 have hM9:=HM7.out.1.below HP.out.1 hb9
 have hT9:=HM7.out.2.step hb9
 have P9:=hM9.blk HR.out.2.2.2.1 (fun h=>by have :=HR.out.2.1 _ h;omega) (by have :=HR.out.2.2.1;omega)
 have p0:W9.cell? ⟨tb+1,0,none⟩=some (.int .i64 (O.size:Int)):=(P9.cell 0).trans rfl
 clear hAd HM7 hb9 P9
 have hH:=hM9.then_ (t':=⟨(p:Int),regs,3⟩) (fun own1 k1 k2=>faults_any HP.out.1 n s own1 rb ⟨(p:Int),regs,0⟩ i 0 W9 hM9.rn k1 k2 HP.out.2)
 clear hM9 hT9
 have hs0:(0:Int)<=(O.size:Int):=by omega
 have had2:ad<=18446744073709551615:=by omega
 have hsz2:(O.size:Int)<=18446744073709551615:=by omega
 go_wp2_with fail
 refine hH.mono ?_
 rintro e W5 ⟨rfl,hM5⟩
 have R5:=hM5.blk HR.out.1 (fun h=>by have :=HR.out.2.1 _ h;omega) (by have :=HR.out.2.2.1;omega)
 have HM5:=Lib.hid hM5
 clear hH hM5 HR
 unfold Th.val
 dsimp only
 go_wp2_with (refine wpList_store_row rfl 124 (.tmp 6) (.tmp 66) rfl _ rfl (thArr (⟨(p:Int),regs,3⟩:Th)) rfl 124 _ R5 rfl th_info (th_one _) ?_;intro W9 hb9 hg9)
 exact bodyPost_ret (results_cell Tryz.results126 _ _ _ _ rfl (run_row _ _ _ _ _ _ hb9 Tryz.underlying124 rfl th_info)) rfl ⟨rfl,by
  obtain ⟨hP,hI,hB4,hrb,hrb4⟩:=HX.out
  subst htb
  exact step_end hP hI hB4 HM5.out (by omega) (by omega) (by omega) hg9⟩
end Go.Proofs.YtmhfpjnkjlhbpaaGreatDoor
