/- A thread's step over an abstract port: the port's functions as contracts; the run's row. The run's row, cell by cell; reg, halts, faults, goes. core.run.locked. -/
import Derived.Test.YtmhfpjnkjlhbpaaGreatDoorQd03
import Derived.Test.YtmhfpjnkjlhbpaaGreatDoorQd02
import Derived.RegionTactic
import Derived.BigRegion
import Derived.StillTailTactics
import Derived.Deep.QuietTactic
import Derived.BigQuiet
namespace Go.Proofs.YtmhfpjnkjlhbpaaGreatDoor
open Go.ChangeShapes Go.WideShapes Go.ChangeAt Go.RowKit Go.Deep
set_option linter.unusedVariables false
set_option maxRecDepth 100000
set_option linter.unusedSimpArgs false
open List renaming setIfInBounds_toArray->zD,set_cons_zero->zE,set_cons_succ->zF
structure Th where
 (pc:Int)
 (regs:Nat->Int)
 (st:Int)
def Th.cells (t:Th):List Value:=[.int .i64 t.pc,.int .u32 (t.regs 0),.int .u32 (t.regs 1),.int .u32 (t.regs 2),.int .u32 (t.regs 3),.int .u32 (t.regs 4),.int .u32 (t.regs 5),.int .u32 (t.regs 6),.int .u32 (t.regs 7),.int .i64 t.st]
def Th.val (t:Th):Value:= .agg #[.int .i64 t.pc,.int .u32 (t.regs 0),.int .u32 (t.regs 1),.int .u32 (t.regs 2),.int .u32 (t.regs 3),.int .u32 (t.regs 4),.int .u32 (t.regs 5),.int .u32 (t.regs 6),.int .u32 (t.regs 7),.int .i64 t.st]
structure Evt where
 (kind who pc addr value old k:Int)
 ok:Bool
def Evt.cells (x:Evt):List Value:=[.int .i64 x.kind,.int .i64 x.who,.int .i64 x.pc,.int .i64 x.addr,.int .u32 x.value,.int .u32 x.old,.int .u32 x.k,.bool x.ok]
def Evt.val (x:Evt):Value:= .agg #[.int .i64 x.kind,.int .i64 x.who,.int .i64 x.pc,.int .i64 x.addr,.int .u32 x.value,.int .u32 x.old,.int .u32 x.k,.bool x.ok]
structure Fv where
 k:FuncId
 (f c:Array Value)
def Fv.val (v:Fv):Value:= .func (.func v.k) v.f v.c
structure KeepOut (own:Nat->Prop) (W W':World):Prop where
 os:W'.os=W.os
 tape:W'.tape=W.tape
 output:W'.output=W.output
 size:W.heap.size<=W'.heap.size
 block: ∀i,i<W.heap.size-> ¬own i->W'.heap[i]?=W.heap[i]?
theorem KeepOut.refl (own:Nat->Prop) (W:World):KeepOut own W W:=⟨rfl,rfl,rfl,Nat.le_refl _,fun _ _ _=>rfl⟩
theorem KeepOut.trans {own own':Nat->Prop} {A B C:World} (h:KeepOut own A B) (k:KeepOut own' B C) (ho: ∀i,own' i->own i∨A.heap.size<=i):KeepOut own A C:=
 ⟨k.os.trans h.os,k.tape.trans h.tape,k.output.trans h.output,Nat.le_trans h.size k.size,fun i hi hn=>(k.block i (Nat.lt_of_lt_of_le hi h.size) (fun e=>by
  rcases ho i e with h1|h1
  ·exact hn h1
  ·omega)).trans (h.block i hi hn)⟩
theorem KeepOut.of_below {own:Nat->Prop} {A B:World} (h:Below A.heap.size A B):KeepOut own A B:=⟨h.os,h.tape,h.output,h.size,fun i hi _=>h.block i hi⟩
theorem KeepOut.blk {own:Nat->Prop} {A B:World} {b:Nat} {t:TypeId} {cs:Array Value} (h:KeepOut own A B) (hb:Blk A b t cs) (hn: ¬own b):Blk B b t cs:=(h.block b hb.lt hn).trans hb
theorem KeepOut.drewN {own:Nat->Prop} {A B:World} (h:KeepOut own A B) (q:Nat):KeepOut own A (B.drewN q):=⟨h.os,h.tape,h.output,h.size,h.block⟩
theorem KeepOut.drew {own:Nat->Prop} {A B:World} (h:KeepOut own A B):KeepOut own A B.drew:=⟨h.os,h.tape,h.output,h.size,h.block⟩
theorem KeepOut.alloc {own:Nat->Prop} {A B:World} (h:KeepOut own A B) (o:Obj):KeepOut own A (B.alloc o):=
 have hB:=(Below.refl B.heap.size B).alloc (Nat.le_refl _) o
 ⟨hB.os.trans h.os,hB.tape.trans h.tape,hB.output.trans h.output,Nat.le_trans h.size hB.size,fun i hi hn=>(hB.block i (Nat.lt_of_lt_of_le hi h.size)).trans (h.block i hi hn)⟩
theorem KeepOut.setCell {own:Nat->Prop} {A B:World} (h:KeepOut own A B) {g j:Nat} (hg:own g∨A.heap.size<=g) (u:Value):KeepOut own A (B.setCell ⟨g,j,none⟩ u):=
 ⟨h.os,h.tape,h.output,by simpa [World.setCell]using h.size,fun i hi hn=>(Below.heap_setCell B ⟨g,j,none⟩ u i (by intro e;simp only at e;subst e;rcases hg with h1|h1<;>first|exact hn h1|omega)).trans (h.block i hi hn)⟩
structure Stay (own:Nat->Prop) (W W':World):Prop where
 own: ∀i,own i->W'.heap[i]?=W.heap[i]?
 size:W.heap.size<=W'.heap.size
theorem Stay.refl (own:Nat->Prop) (W:World):Stay own W W:=⟨fun _ _=>rfl,Nat.le_refl _⟩
theorem Stay.trans {own:Nat->Prop} {A B C:World} (h:Stay own A B) (k:Stay own B C):Stay own A C:=⟨fun i hi=>(k.own i hi).trans (h.own i hi),Nat.le_trans h.size k.size⟩
theorem Stay.alloc {own:Nat->Prop} {A B:World} (h:Stay own A B) (hlt: ∀i,own i->i<A.heap.size) (o:Obj):Stay own A (B.alloc o):=
 have hB:=(Below.refl B.heap.size B).alloc (Nat.le_refl _) o
 ⟨fun i hi=>(hB.block i (Nat.lt_of_lt_of_le (hlt i hi) h.size)).trans (h.own i hi),Nat.le_trans h.size hB.size⟩
theorem Stay.below {own:Nat->Prop} {A B C:World} (h:Stay own A B) (hlt: ∀i,own i->i<A.heap.size) (hb:Below B.heap.size B C):Stay own A C:=
 ⟨fun i hi=>(hb.block i (Nat.lt_of_lt_of_le (hlt i hi) h.size)).trans (h.own i hi),Nat.le_trans h.size hb.size⟩
theorem Stay.setCell {own:Nat->Prop} {A B:World} (h:Stay own A B) {g j:Nat} (hg: ¬own g) (u:Value):Stay own A (B.setCell ⟨g,j,none⟩ u):=
 ⟨fun i hi=>(Below.heap_setCell B ⟨g,j,none⟩ u i (by intro e;simp only at e;subst e;exact hg hi)).trans (h.own i hi),by simpa [World.setCell]using h.size⟩
theorem Stay.drewN {own:Nat->Prop} {A B:World} (h:Stay own A B) (q:Nat):Stay own A (B.drewN q):=⟨h.own,h.size⟩
theorem Stay.drew {own:Nat->Prop} {A B:World} (h:Stay own A B):Stay own A B.drew:=⟨h.own,h.size⟩
structure Ops (σ:Type) where
 size:Nat
 load:σ->Nat->Int×σ
 room:σ->Bool
 store:σ->Nat->Int->σ
 empty:σ->Bool
 flush:σ->σ
 swap:σ->Nat->Int->σ
 sleep:σ->Nat->σ
 wake:σ->Nat->Int->Int×σ
 remote:σ->σ
 note:σ->Evt->σ
structure Pv where
 (load room store empty flush swap sleep wake remote note:Fv)
def Moves {σ:Type} (Inv:σ->(Nat->Prop)->World->Prop) (s:σ) (own:Nat->Prop) (W W':World):Prop:=
 ∃own',Inv s own' W'/\(∀i,own' i->own i∨W.heap.size<=i)/\KeepOut own W W'
def Goes (k:FuncId):Prop:= ∀args w,(callFunc k args).run Tryz.prog w= .ok (.enter k args) w
structure PortOk {σ:Type} (O:Ops σ) (V:Pv) (Inv:σ->(Nat->Prop)->World->Prop) (can:Nat->σ->Prop):Prop where
 lt: ∀s own W i,Inv s own W->own i->i<W.heap.size
 hi: ∀s own W i,Inv s own W->own i->2<=i
 keep: ∀s own W W',Inv s own W->Stay own W W'->Inv s own W'
 less: ∀n s,can (n+1) s->can n s
 cload: ∀n s a,can (n+1) s->can n (O.load s a).2
 cstore: ∀n s a v,can (n+1) s->can n (O.store s a v)
 cflush: ∀n s,can (n+1) s->can n (O.flush s)
 cswap: ∀n s a v,can (n+1) s->can n (O.swap s a v)
 csleep: ∀n s a,can (n+1) s->can n (O.sleep s a)
 cwake: ∀n s a v,can (n+1) s->can n (O.wake s a v).2
 cremote: ∀n s,can (n+1) s->can n (O.remote s)
 cnote: ∀n s x,can (n+1) s->can n (O.note s x)
 goes:Goes V.load.k/\Goes V.room.k/\Goes V.store.k/\Goes V.empty.k/\Goes V.flush.k/\Goes V.swap.k/\Goes V.sleep.k/\Goes V.wake.k/\Goes V.remote.k/\Goes V.note.k
 load: ∀n s own W (a:Nat),can (n+1) s->Inv s own W->a<O.size->Calls Tryz.prog V.load.k (V.load.f.push (.int .i64 (a:Int))++V.load.c) W fun e W'=>e= .returned (.int .u32 (O.load s a).1)/\Moves Inv (O.load s a).2 own W W'
 room: ∀n s own W,can (n+1) s->Inv s own W->Calls Tryz.prog V.room.k (V.room.f++V.room.c) W fun e W'=>e= .returned (.bool (O.room s))/\Moves Inv s own W W'
 store: ∀n s own W (a:Nat) (v:Int),can (n+1) s->Inv s own W->a<O.size->O.room s=true->Calls Tryz.prog V.store.k (V.store.f++(#[.int .i64 (a:Int),.int .u32 v]++V.store.c)) W fun e W'=>(∃u,e= .returned u)/\Moves Inv (O.store s a v) own W W'
 empty: ∀n s own W,can (n+1) s->Inv s own W->Calls Tryz.prog V.empty.k (V.empty.f++V.empty.c) W fun e W'=>e= .returned (.bool (O.empty s))/\Moves Inv s own W W'
 flush: ∀n s own W,can (n+1) s->Inv s own W->Calls Tryz.prog V.flush.k (V.flush.f++V.flush.c) W fun e W'=>(∃u,e= .returned u)/\Moves Inv (O.flush s) own W W'
 swap: ∀n s own W (a:Nat) (v:Int),can (n+1) s->Inv s own W->a<O.size->Calls Tryz.prog V.swap.k (V.swap.f++(#[.int .i64 (a:Int),.int .u32 v]++V.swap.c)) W fun e W'=>(∃u,e= .returned u)/\Moves Inv (O.swap s a v) own W W'
 sleep: ∀n s own W (a:Nat),can (n+1) s->Inv s own W->Calls Tryz.prog V.sleep.k (V.sleep.f.push (.int .i64 (a:Int))++V.sleep.c) W fun e W'=>(∃u,e= .returned u)/\Moves Inv (O.sleep s a) own W W'
 wake: ∀n s own W (a:Nat) (v:Int),can (n+1) s->Inv s own W->0<=v->v<=4294967295->Calls Tryz.prog V.wake.k (V.wake.f++(#[.int .i64 (a:Int),.int .u32 v]++V.wake.c)) W fun e W'=>e= .returned (.int .u32 (O.wake s a v).1)/\Moves Inv (O.wake s a v).2 own W W'
 remote: ∀n s own W,can (n+1) s->Inv s own W->Calls Tryz.prog V.remote.k (V.remote.f++V.remote.c) W fun e W'=>(∃u,e= .returned u)/\Moves Inv (O.remote s) own W W'
 note: ∀n s own W (x:Evt),can (n+1) s->Inv s own W->Calls Tryz.prog V.note.k (V.note.f.push x.val++V.note.c) W fun e W'=>(∃u,e= .returned u)/\Moves Inv (O.note s x) own W W'
structure Rn (W:World) (rb:Nat) (t:Th) (i:Ins) (size:Nat) (V:Pv) (addr:Int):Prop where
 row: ∃cs:Array Value,Blk W rb 230 cs/\cs.size=27/\(∀(j:Nat) (u:Value),t.cells[j]?=some u->cs[j]?=some u)/\(∀(j:Nat) (u:Value),i.cells[j]?=some u->cs[10+j]?=some u)/\cs[15]?=some (.int .i64 (size:Int))/\
  cs[16]?=some V.load.val/\cs[17]?=some V.room.val/\cs[18]?=some V.store.val/\cs[19]?=some V.empty.val/\cs[20]?=some V.flush.val/\cs[21]?=some V.swap.val/\cs[22]?=some V.sleep.val/\cs[23]?=some V.wake.val/\cs[24]?=some V.remote.val/\cs[25]?=some V.note.val/\cs[26]?=some (.int .i64 addr)
theorem Rn.keep {W W':World} {rb:Nat} {t:Th} {i:Ins} {size:Nat} {V:Pv} {addr:Int} {own:Nat->Prop} (h:Rn W rb t i size V addr) (k:KeepOut own W W') (hn: ¬own rb):Rn W' rb t i size V addr:=by
 obtain ⟨cs,h1,h2⟩:=h.row
 exact ⟨cs,k.blk h1 hn,h2⟩
theorem Rn.lt {W:World} {rb:Nat} {t:Th} {i:Ins} {size:Nat} {V:Pv} {addr:Int} (h:Rn W rb t i size V addr):rb<W.heap.size:=by
 obtain ⟨cs,h1,_⟩:=h.row
 exact h1.lt
set_option maxHeartbeats 2000000 in
theorem note_any {σ:Type} {O:Ops σ} {V:Pv} {Inv:σ->(Nat->Prop)->World->Prop} {can:Nat->σ->Prop} (hP:PortOk O V Inv can) (n:Nat) (s:σ) (own:Nat->Prop) (rb:Nat) (t:Th) (i:Ins) (addr:Int) (x:Evt) (W:World)
 (hR:Rn W rb t i O.size V addr) (hI:Inv s own W) (hc:can (n+1) s) (hn: ¬own rb):
 Calls Tryz.prog 165 #[.pointer (some ⟨rb,0,none⟩),.agg #[.int .i64 x.kind,.int .i64 x.who,.int .i64 x.pc,.int .i64 x.addr,.int .u32 x.value,.int .u32 x.old,.int .u32 x.k,.bool x.ok]] W
  fun e W'=>(∃u,e= .returned u)/\Moves Inv (O.note s {x with pc:=t.pc,addr:=addr}) own W W':=by
 obtain ⟨cs,hb,hsz,ht,hi,q15,q16,q17,q18,q19,q20,q21,q22,q23,q24,q25,q26⟩:=hR.row
 have q0:=ht 0 _ rfl
 have hlt:=hb.lt
 have hal:=hb.alloc (.cells #[.int .i64 x.kind,.int .i64 x.who,.int .i64 x.pc,.int .i64 x.addr,.int .u32 x.value,.int .u32 x.old,.int .u32 x.k,.bool x.ok] 65)
 have hK:=(KeepOut.refl own W).alloc (.cells #[.int .i64 x.kind,.int .i64 x.who,.int .i64 x.pc,.int .i64 x.addr,.int .u32 x.value,.int .u32 x.old,.int .u32 x.k,.bool x.ok] 65)
 have hX:=Blk.new W 65 #[.int .i64 x.kind,.int .i64 x.who,.int .i64 x.pc,.int .i64 x.addr,.int .u32 x.value,.int .u32 x.old,.int .u32 x.k,.bool x.ok]
 have hC:=fun W' h=>hP.note n s own W' {x with pc:=t.pc,addr:=addr} hc (hP.keep s own W W' hI h)
 have hlo:=fun j h=>hP.lt s own W j hI h
 have hG:=hP.goes.2.2.2.2.2.2.2.2.2
 generalize hV:V.note=vn at q25 hC hG
 obtain ⟨kN,fN,cN⟩:=vn
 clear hV q15 q16 q17 q18 q19 q20 q21 q22 q23 q24 ht hi hP hR
 go_enter Tryz.func165,Tryz.ntmps165
 go_wp2
 obtain ⟨xb,hxb⟩: ∃xb,W.heap.size=xb:=⟨_,rfl⟩
 have hxr:rb≠xb:=by omega
 have HXB:=Lib.hid hxb
 rw [hxb]at hX⊢
 have hS:=(Stay.refl own W).alloc hlo (.cells #[.int .i64 x.kind,.int .i64 x.who,.int .i64 x.pc,.int .i64 x.addr,.int .u32 x.value,.int .u32 x.old,.int .u32 x.k,.bool x.ok] 65)
 generalize W.alloc (.cells #[.int .i64 x.kind,.int .i64 x.who,.int .i64 x.pc,.int .i64 x.addr,.int .u32 x.value,.int .u32 x.old,.int .u32 x.k,.bool x.ok] 65)=W1 at hal hK hX hS⊢
 clear hxb hb
 have c0:=(hal.cell 0).trans q0
 have c26:=(hal.cell 26).trans q26
 have x2:=(hX.cell 2).trans rfl
 have x3:=(hX.cell 3).trans rfl
 have f2:=hX.frozen 2
 have f3:=hX.frozen 3
 have HA:=Lib.hid (And.intro hal (And.intro hK (And.intro hX (And.intro hS hlo))))
 clear hal hK hX hS hlo
 go_region
 all_goals
  obtain ⟨hal,hK,hX,hS,hlo⟩:=HA.out
  have hxo: ¬own xb:=fun h=>by have :=hlo xb h;have :=HXB.out;omega
  have hX2:=((hX.set_ 2 (.int .i64 t.pc)).set_ 3 (.int .i64 addr)).drew
  have hR2:=((hal.far (p:=⟨xb,2,none⟩) hxr (.int .i64 t.pc)).far (p:=⟨xb,3,none⟩) hxr (.int .i64 addr)).drew
  have hK2:=((hK.setCell (j:=2) (.inr (Nat.le_of_eq HXB.out)) (.int .i64 t.pc)).setCell (j:=3) (.inr (Nat.le_of_eq HXB.out)) (.int .i64 addr)).drew
  have hS2:=((hS.setCell (j:=2) hxo (.int .i64 t.pc)).setCell (j:=3) hxo (.int .i64 addr)).drew
  clear hal hK hX hS c0 c26 x2 x3 f2 f3
  go_wp2
  generalize ((W1.setCell ⟨xb,2,none⟩ (.int .i64 t.pc)).setCell ⟨xb,3,none⟩ (.int .i64 addr)).drew=W2 at hX2 hR2 hK2 hS2⊢
  have c25:=(hR2.cell 25).trans q25
  have HB:=Lib.hid (And.intro hX2 (And.intro hK2 hS2))
  simp only [zD,zE,zF]at hX2
  have y0:=hX2.cell 0
  have y1:=hX2.cell 1
  have y2:=hX2.cell 2
  have y3:=hX2.cell 3
  have y4:=hX2.cell 4
  have y5:=hX2.cell 5
  have y6:=hX2.cell 6
  have y7:=hX2.cell 7
  simp only [List.getElem?_toArray,List.getElem?_cons_zero,List.getElem?_cons_succ]at y0 y1 y2 y3 y4 y5 y6 y7
  clear hX2 hR2 hK2 hS2 q25 q0 q26
  unfold Fv.val at c25
  go_still_tail 6,(by kernel_rfl)
  change wpList _ _ _ _ _ W2.drew
  have hK3:=HB.out.2.1.drew
  have hS3:=HB.out.2.2.drew
  have cN':=hC W2.drew hS3
  have hgo:=fun a=>hG a W2.drew
  unfold Goes at hG
  clear hC hG y0 y1 y2 y3 y4 y5 y6 y7 c25
  generalize W2.drew=W3 at hK3 hS3 cN' hgo⊢
  have HE:=Lib.hid hK3
  clear hK3 hS3
  unfold Evt.val at cN'
  dsimp only at cN'
  go_wp2_with fail
  refine cN'.mono ?_
  rintro e W4 ⟨⟨u,rfl⟩,own',h1,h2,h3⟩
  have hlo:=HA.out.2.2.2.2
  have h4:=HE.out.trans h3 (fun i h=> .inl h)
  have HF:=Lib.hid (And.intro h1 (And.intro (fun j h=>(h2 j h).imp id (fun q=>Nat.le_trans HE.out.size q)) h4))
  clear h1 h2 h3 h4 cN' hgo hlo
  go_wp2
  go_end0
  exact ⟨⟨_,rfl⟩,own',HF.out.1,HF.out.2.1,HF.out.2.2⟩
def updR (f:Nat->Int) (r:Nat) (v:Int):Nat->Int:=fun k=>if k=r then v else f k
section
variable {W:World} {rb:Nat} {t:Th} {i:Ins} {size:Nat} {V:Pv} {addr:Int}
theorem Rn.tc (h:Rn W rb t i size V addr) {j:Nat} {u:Value} (hu:t.cells[j]?=some u):W.cell? ⟨rb,j,none⟩=some u:=by
 obtain ⟨cs,hb,hsz,ht,_⟩:=h.row
 exact (hb.cell j).trans (ht j u hu)
theorem Rn.ic (h:Rn W rb t i size V addr) {j:Nat} {u:Value} (hu:i.cells[j]?=some u):W.cell? ⟨rb,10+j,none⟩=some u:=by
 obtain ⟨cs,hb,hsz,ht,hi,_⟩:=h.row
 exact (hb.cell (10+j)).trans (hi j u hu)
theorem Rn.reg (h:Rn W rb t i size V addr) {r:Nat} (hr:r<8):W.cell? ⟨rb,1+r,none⟩=some (.int .u32 (t.regs r)):=by
 refine h.tc ?_
 rcases (by omega:r=0∨r=1∨r=2∨r=3∨r=4∨r=5∨r=6∨r=7)with rfl|rfl|rfl|rfl|rfl|rfl|rfl|rfl<;>rfl
theorem Rn.fz (h:Rn W rb t i size V addr) (j:Nat):W.frozen? ⟨rb,j,none⟩=false:=by
 obtain ⟨cs,hb,_⟩:=h.row
 exact hb.frozen j
theorem Rn.pt (h:Rn W rb t i size V addr):W.cell? ⟨rb,15,none⟩=some (.int .i64 (size:Int))/\W.cell? ⟨rb,16,none⟩=some V.load.val/\W.cell? ⟨rb,17,none⟩=some V.room.val/\W.cell? ⟨rb,18,none⟩=some V.store.val/\W.cell? ⟨rb,19,none⟩=some V.empty.val/\W.cell? ⟨rb,20,none⟩=some V.flush.val/\
 W.cell? ⟨rb,21,none⟩=some V.swap.val/\W.cell? ⟨rb,22,none⟩=some V.sleep.val/\W.cell? ⟨rb,23,none⟩=some V.wake.val/\W.cell? ⟨rb,24,none⟩=some V.remote.val/\W.cell? ⟨rb,25,none⟩=some V.note.val/\W.cell? ⟨rb,26,none⟩=some (.int .i64 addr):=by
 obtain ⟨cs,hb,hsz,ht,hi,q15,q16,q17,q18,q19,q20,q21,q22,q23,q24,q25,q26⟩:=h.row
 exact ⟨(hb.cell 15).trans q15,(hb.cell 16).trans q16,(hb.cell 17).trans q17,(hb.cell 18).trans q18,(hb.cell 19).trans q19,(hb.cell 20).trans q20,(hb.cell 21).trans q21,(hb.cell 22).trans q22,(hb.cell 23).trans q23,(hb.cell 24).trans q24,(hb.cell 25).trans q25,(hb.cell 26).trans q26⟩
theorem Rn.drewN (h:Rn W rb t i size V addr) (q:Nat):Rn (W.drewN q) rb t i size V addr:=by
 obtain ⟨cs,hb,h2⟩:=h.row
 exact ⟨cs,hb.drewN q,h2⟩
theorem Rn.alloc (h:Rn W rb t i size V addr) (o:Obj):Rn (W.alloc o) rb t i size V addr:=by
 obtain ⟨cs,hb,h2⟩:=h.row
 exact ⟨cs,hb.alloc o,h2⟩
theorem Rn.setT (h:Rn W rb t i size V addr) (t':Th) (j:Nat) (hj:j<10) (v:Value) (hv: ∀(k:Nat) (u:Value),t'.cells[k]?=some u->(k=j/\u=v)∨(k≠j/\t.cells[k]?=some u)):Rn (W.setCell ⟨rb,j,none⟩ v) rb t' i size V addr:=by
 obtain ⟨cs,hb,hsz,ht,hi,q15,q16,q17,q18,q19,q20,q21,q22,q23,q24,q25,q26⟩:=h.row
 have ne: ∀k,k≠j-> ∀u,cs[k]?=some u->(cs.setIfInBounds j v)[k]?=some u:=fun k hk u hu=>by rw [Array.getElem?_setIfInBounds_ne (Ne.symm hk)];exact hu
 refine ⟨cs.setIfInBounds j v,hb.set_ j v,by simpa using hsz,fun k u hu=>?_,fun k u hu=>ne _ (by omega) u (hi k u hu),ne _ (by omega) _ q15,ne _ (by omega) _ q16,ne _ (by omega) _ q17,ne _ (by omega) _ q18,ne _ (by omega) _ q19,ne _ (by omega) _ q20,ne _ (by omega) _ q21,ne _ (by omega) _ q22,ne _ (by omega) _ q23,ne _ (by omega) _ q24,ne _ (by omega) _ q25,ne _ (by omega) _ q26⟩
 rcases hv k u hu with ⟨rfl,rfl⟩|⟨hk,hu⟩
 ·rw [Array.getElem?_setIfInBounds_self_of_lt (by omega)]
 ·exact ne k hk u (ht k u hu)
end
theorem ten {k:Nat} (h:k<10):k=0∨k=1∨k=2∨k=3∨k=4∨k=5∨k=6∨k=7∨k=8∨k=9:=by omega
theorem th_len (t:Th):t.cells.length=10:=rfl
section
variable {W:World} {rb:Nat} {t:Th} {i:Ins} {size:Nat} {V:Pv} {addr:Int}
theorem Rn.setReg (h:Rn W rb t i size V addr) {r:Nat} (hr:r<8) (v:Int):Rn (W.setCell ⟨rb,1+r,none⟩ (.int .u32 v)) rb {t with regs:=updR t.regs r v} i size V addr:=by
 refine h.setT _ (1+r) (by omega) _ (fun k u hu=>?_)
 have hk:=(List.getElem?_eq_some_iff.1 hu).1
 rw [th_len]at hk
 rcases (by omega:r=0∨r=1∨r=2∨r=3∨r=4∨r=5∨r=6∨r=7)with rfl|rfl|rfl|rfl|rfl|rfl|rfl|rfl<;>
  rcases ten hk with rfl|rfl|rfl|rfl|rfl|rfl|rfl|rfl|rfl|rfl<;>
  first
   |exact .inr ⟨by decide,hu⟩
   |exact .inl ⟨rfl,(Option.some.inj hu).symm⟩
theorem Rn.setPc (h:Rn W rb t i size V addr) (v:Int):Rn (W.setCell ⟨rb,0,none⟩ (.int .i64 v)) rb {t with pc:=v} i size V addr:=by
 refine h.setT _ 0 (by omega) _ (fun k u hu=>?_)
 have hk:=(List.getElem?_eq_some_iff.1 hu).1
 rw [th_len]at hk
 rcases ten hk with rfl|rfl|rfl|rfl|rfl|rfl|rfl|rfl|rfl|rfl<;>
  first
   |exact .inr ⟨by decide,hu⟩
   |exact .inl ⟨rfl,(Option.some.inj hu).symm⟩
theorem Rn.setSt (h:Rn W rb t i size V addr) (v:Int):Rn (W.setCell ⟨rb,9,none⟩ (.int .i64 v)) rb {t with st:=v} i size V addr:=by
 refine h.setT _ 9 (by omega) _ (fun k u hu=>?_)
 have hk:=(List.getElem?_eq_some_iff.1 hu).1
 rw [th_len]at hk
 rcases ten hk with rfl|rfl|rfl|rfl|rfl|rfl|rfl|rfl|rfl|rfl<;>
  first
   |exact .inr ⟨by decide,hu⟩
   |exact .inl ⟨rfl,(Option.some.inj hu).symm⟩
end
def RMoves {σ:Type} (Inv:σ->(Nat->Prop)->World->Prop) (s:σ) (own:Nat->Prop) (rb:Nat) (t:Th) (i:Ins) (size:Nat) (V:Pv) (addr:Int) (W W':World):Prop:=
 ∃own',Inv s own' W'/\(∀j,own' j->own j∨W.heap.size<=j)/\KeepOut (fun j=>own j∨j=rb) W W'/\Rn W' rb t i size V addr/\ ¬own' rb
set_option maxHeartbeats 1000000 in
theorem reg_any (rb:Nat) (t:Th) (i:Ins) (size:Nat) (V:Pv) (addr:Int) (a:Nat) (ha:i.a=(a:Int)) (ha8:a<8) (W:World) (hR:Rn W rb t i size V addr):
 Calls Tryz.prog 166 #[.pointer (some ⟨rb,0,none⟩)] W fun e W'=>e= .returned (.pointer (some ⟨rb,1+a,none⟩))/\ ∃q,W'=W.drewN q:=by
 have c:=hR.ic (j:=1) rfl
 rw [ha]at c
 have h0:(0:Int)<=(a:Int):=by omega
 have h8:(a:Int)<8:=by omega
 clear hR ha
 go_enter Tryz.func166,Tryz.ntmps166
 go_wp2
 go_quiet (fail)
 go_wp2
 go_ret
 exact ⟨rfl,_,rfl⟩
section
variable {σ:Type} {O:Ops σ} {V:Pv} {Inv:σ->(Nat->Prop)->World->Prop} {can:Nat->σ->Prop}
theorem RMoves.start (hP:PortOk O V Inv can) {s:σ} {own:Nat->Prop} {rb:Nat} {t:Th} {i:Ins} {addr:Int} {W:World} (hR:Rn W rb t i O.size V addr) (hI:Inv s own W) (hn: ¬own rb):RMoves Inv s own rb t i O.size V addr W W:=
 ⟨own,hI,fun j h=> .inl h,KeepOut.refl _ _,hR,hn⟩
theorem RMoves.drewN (hP:PortOk O V Inv can) {s:σ} {own:Nat->Prop} {rb:Nat} {t:Th} {i:Ins} {size:Nat} {addr:Int} {W W1:World} (h:RMoves Inv s own rb t i size V addr W W1) (q:Nat):RMoves Inv s own rb t i size V addr W (W1.drewN q):=by
 obtain ⟨own1,h1,h2,h3,h4,h5⟩:=h
 exact ⟨own1,hP.keep s own1 W1 _ h1 ((Stay.refl own1 W1).drewN q),h2,h3.drewN q,h4.drewN q,h5⟩
theorem RMoves.drew (hP:PortOk O V Inv can) {s:σ} {own:Nat->Prop} {rb:Nat} {t:Th} {i:Ins} {size:Nat} {addr:Int} {W W1:World} (h:RMoves Inv s own rb t i size V addr W W1):RMoves Inv s own rb t i size V addr W W1.drew:=h.drewN hP 1
theorem RMoves.alloc (hP:PortOk O V Inv can) {s:σ} {own:Nat->Prop} {rb:Nat} {t:Th} {i:Ins} {size:Nat} {addr:Int} {W W1:World} (h:RMoves Inv s own rb t i size V addr W W1) (o:Obj):RMoves Inv s own rb t i size V addr W (W1.alloc o):=by
 obtain ⟨own1,h1,h2,h3,h4,h5⟩:=h
 exact ⟨own1,hP.keep s own1 W1 _ h1 ((Stay.refl own1 W1).alloc (fun j hj=>hP.lt s own1 W1 j h1 hj) o),h2,h3.alloc o,h4.alloc o,h5⟩
theorem RMoves.below (hP:PortOk O V Inv can) {s:σ} {own:Nat->Prop} {rb:Nat} {t:Th} {i:Ins} {size:Nat} {addr:Int} {W W1 W2:World} (h:RMoves Inv s own rb t i size V addr W W1) (hb:Below W1.heap.size W1 W2):RMoves Inv s own rb t i size V addr W W2:=by
 obtain ⟨own1,h1,h2,h3,h4,h5⟩:=h
 have hk:KeepOut own1 W1 W2:=KeepOut.of_below hb
 exact ⟨own1,hP.keep s own1 W1 _ h1 ((Stay.refl own1 W1).below (fun j hj=>hP.lt s own1 W1 j h1 hj) hb),h2,h3.trans hk (fun j hj=>by
  rcases h2 j hj with h|h
  ·exact .inl (.inl h)
  ·exact .inr h),h4.keep hk h5,h5⟩
theorem RMoves.set_ (hP:PortOk O V Inv can) {s:σ} {own:Nat->Prop} {rb:Nat} {t t':Th} {i:Ins} {size:Nat} {addr:Int} {W W1:World} (h:RMoves Inv s own rb t i size V addr W W1) (j:Nat) (v:Value)
 (hs:Rn W1 rb t i size V addr->Rn (W1.setCell ⟨rb,j,none⟩ v) rb t' i size V addr):RMoves Inv s own rb t' i size V addr W (W1.setCell ⟨rb,j,none⟩ v):=by
 obtain ⟨own1,h1,h2,h3,h4,h5⟩:=h
 exact ⟨own1,hP.keep s own1 W1 _ h1 ((Stay.refl own1 W1).setCell h5 v),h2,h3.setCell (.inl (.inr rfl)) v,hs h4,h5⟩
theorem RMoves.rn {s:σ} {own:Nat->Prop} {rb:Nat} {t:Th} {i:Ins} {size:Nat} {addr:Int} {W W1:World} (h:RMoves Inv s own rb t i size V addr W W1):Rn W1 rb t i size V addr:=by
 obtain ⟨_,_,_,_,h4,_⟩:=h
 exact h4
theorem note_r (hP:PortOk O V Inv can) (n:Nat) {s:σ} {own:Nat->Prop} {rb:Nat} {t:Th} {i:Ins} {addr:Int} {W W1:World} (x:Evt) (h:RMoves Inv s own rb t i O.size V addr W W1) (hc:can (n+1) s) (hrb:rb<W.heap.size):
 Calls Tryz.prog 165 #[.pointer (some ⟨rb,0,none⟩),.agg #[.int .i64 x.kind,.int .i64 x.who,.int .i64 x.pc,.int .i64 x.addr,.int .u32 x.value,.int .u32 x.old,.int .u32 x.k,.bool x.ok]] W1
  fun e W2=>(∃u,e= .returned u)/\RMoves Inv (O.note s {x with pc:=t.pc,addr:=addr}) own rb t i O.size V addr W W2:=by
 obtain ⟨own1,h1,h2,h3,h4,h5⟩:=h
 refine (note_any hP n s own1 rb t i addr x W1 h4 h1 hc h5).mono fun e W2 ⟨hu,hm⟩=>⟨hu,?_⟩
 obtain ⟨own2,k1,k2,k3⟩:=hm
 refine ⟨own2,k1,fun j hj=>?_,h3.trans k3 (fun j hj=>?_),h4.keep k3 h5,fun hj=>?_⟩
 ·rcases k2 j hj with h|h
  ·exact h2 j h
  ·exact .inr (Nat.le_trans h3.size h)
 ·rcases h2 j hj with h|h
  ·exact .inl (.inl h)
  ·exact .inr h
 ·rcases k2 rb hj with h|h
  ·exact h5 h
  ·have :=h3.size;omega
theorem reg_r (hP:PortOk O V Inv can) {s:σ} {own:Nat->Prop} {rb:Nat} {t:Th} {i:Ins} {addr:Int} {W W1:World} (a:Nat) (ha:i.a=(a:Int)) (ha8:a<8) (h:RMoves Inv s own rb t i O.size V addr W W1):
 Calls Tryz.prog 166 #[.pointer (some ⟨rb,0,none⟩)] W1 fun e W2=>e= .returned (.pointer (some ⟨rb,1+a,none⟩))/\RMoves Inv s own rb t i O.size V addr W W2:=
 (reg_any rb t i O.size V addr a ha ha8 W1 h.rn).mono fun e W2 ⟨he,q,hq⟩=>⟨he,hq▸h.drewN hP q⟩
theorem RMoves.calls {s s':σ} {own:Nat->Prop} {rb:Nat} {t:Th} {i:Ins} {size:Nat} {addr:Int} {W W1:World} (h:RMoves Inv s own rb t i size V addr W W1) (hrb:rb<W.heap.size) {f:FuncId} {args:Array Value} {R:Ending->Prop}
 (k: ∀own1,Inv s own1 W1->Calls Tryz.prog f args W1 fun e W2=>R e/\Moves Inv s' own1 W1 W2):Calls Tryz.prog f args W1 fun e W2=>R e/\RMoves Inv s' own rb t i size V addr W W2:=by
 obtain ⟨own1,h1,h2,h3,h4,h5⟩:=h
 refine (k own1 h1).mono fun e W2 ⟨he,hm⟩=>⟨he,?_⟩
 obtain ⟨own2,k1,k2,k3⟩:=hm
 refine ⟨own2,k1,fun j hj=>?_,h3.trans k3 (fun j hj=>?_),h4.keep k3 h5,fun hj=>?_⟩
 ·rcases k2 j hj with h|h
  ·exact h2 j h
  ·exact .inr (Nat.le_trans h3.size h)
 ·rcases h2 j hj with h|h
  ·exact .inl (.inl h)
  ·exact .inr h
 ·rcases k2 rb hj with h|h
  ·exact h5 h
  ·have :=h3.size;omega
end
section
variable {σ:Type} {O:Ops σ} {V:Pv} {Inv:σ->(Nat->Prop)->World->Prop} {can:Nat->σ->Prop}
theorem load_r (hP:PortOk O V Inv can) (n:Nat) {s:σ} {own:Nat->Prop} {rb:Nat} {t:Th} {i:Ins} {addr:Int} {W W1:World} (m:Nat) (h:RMoves Inv s own rb t i O.size V addr W W1) (hc:can (n+1) s) (hrb:rb<W.heap.size) (hm:m<O.size):
 Calls Tryz.prog V.load.k (V.load.f.push (.int .i64 (m:Int))++V.load.c) W1 fun e W2=>e= .returned (.int .u32 (O.load s m).1)/\RMoves Inv ((O.load s m).2) own rb t i O.size V addr W W2:=
 h.calls (R:=fun e=>e= .returned (.int .u32 (O.load s m).1)) hrb fun own1 h1=>hP.load n s own1 W1 m hc h1 hm
theorem room_r (hP:PortOk O V Inv can) (n:Nat) {s:σ} {own:Nat->Prop} {rb:Nat} {t:Th} {i:Ins} {addr:Int} {W W1:World} (h:RMoves Inv s own rb t i O.size V addr W W1) (hc:can (n+1) s) (hrb:rb<W.heap.size):
 Calls Tryz.prog V.room.k (V.room.f++V.room.c) W1 fun e W2=>e= .returned (.bool (O.room s))/\RMoves Inv (s) own rb t i O.size V addr W W2:=
 h.calls (R:=fun e=>e= .returned (.bool (O.room s))) hrb fun own1 h1=>hP.room n s own1 W1 hc h1
theorem store_r (hP:PortOk O V Inv can) (n:Nat) {s:σ} {own:Nat->Prop} {rb:Nat} {t:Th} {i:Ins} {addr:Int} {W W1:World} (m:Nat) (v:Int) (h:RMoves Inv s own rb t i O.size V addr W W1) (hc:can (n+1) s) (hrb:rb<W.heap.size) (hm:m<O.size) (hr:O.room s=true):
 Calls Tryz.prog V.store.k (V.store.f++(#[.int .i64 (m:Int),.int .u32 v]++V.store.c)) W1 fun e W2=>(∃u,e= .returned u)/\RMoves Inv (O.store s m v) own rb t i O.size V addr W W2:=
 h.calls (R:=fun e=>(∃u,e= .returned u)) hrb fun own1 h1=>hP.store n s own1 W1 m v hc h1 hm hr
theorem empty_r (hP:PortOk O V Inv can) (n:Nat) {s:σ} {own:Nat->Prop} {rb:Nat} {t:Th} {i:Ins} {addr:Int} {W W1:World} (h:RMoves Inv s own rb t i O.size V addr W W1) (hc:can (n+1) s) (hrb:rb<W.heap.size):
 Calls Tryz.prog V.empty.k (V.empty.f++V.empty.c) W1 fun e W2=>e= .returned (.bool (O.empty s))/\RMoves Inv (s) own rb t i O.size V addr W W2:=
 h.calls (R:=fun e=>e= .returned (.bool (O.empty s))) hrb fun own1 h1=>hP.empty n s own1 W1 hc h1
theorem flush_r (hP:PortOk O V Inv can) (n:Nat) {s:σ} {own:Nat->Prop} {rb:Nat} {t:Th} {i:Ins} {addr:Int} {W W1:World} (h:RMoves Inv s own rb t i O.size V addr W W1) (hc:can (n+1) s) (hrb:rb<W.heap.size):
 Calls Tryz.prog V.flush.k (V.flush.f++V.flush.c) W1 fun e W2=>(∃u,e= .returned u)/\RMoves Inv (O.flush s) own rb t i O.size V addr W W2:=
 h.calls (R:=fun e=>(∃u,e= .returned u)) hrb fun own1 h1=>hP.flush n s own1 W1 hc h1
theorem swap_r (hP:PortOk O V Inv can) (n:Nat) {s:σ} {own:Nat->Prop} {rb:Nat} {t:Th} {i:Ins} {addr:Int} {W W1:World} (m:Nat) (v:Int) (h:RMoves Inv s own rb t i O.size V addr W W1) (hc:can (n+1) s) (hrb:rb<W.heap.size) (hm:m<O.size):
 Calls Tryz.prog V.swap.k (V.swap.f++(#[.int .i64 (m:Int),.int .u32 v]++V.swap.c)) W1 fun e W2=>(∃u,e= .returned u)/\RMoves Inv (O.swap s m v) own rb t i O.size V addr W W2:=
 h.calls (R:=fun e=>(∃u,e= .returned u)) hrb fun own1 h1=>hP.swap n s own1 W1 m v hc h1 hm
theorem sleep_r (hP:PortOk O V Inv can) (n:Nat) {s:σ} {own:Nat->Prop} {rb:Nat} {t:Th} {i:Ins} {addr:Int} {W W1:World} (m:Nat) (h:RMoves Inv s own rb t i O.size V addr W W1) (hc:can (n+1) s) (hrb:rb<W.heap.size):
 Calls Tryz.prog V.sleep.k (V.sleep.f.push (.int .i64 (m:Int))++V.sleep.c) W1 fun e W2=>(∃u,e= .returned u)/\RMoves Inv (O.sleep s m) own rb t i O.size V addr W W2:=
 h.calls (R:=fun e=>(∃u,e= .returned u)) hrb fun own1 h1=>hP.sleep n s own1 W1 m hc h1
theorem wake_r (hP:PortOk O V Inv can) (n:Nat) {s:σ} {own:Nat->Prop} {rb:Nat} {t:Th} {i:Ins} {addr:Int} {W W1:World} (m:Nat) (v:Int) (h:RMoves Inv s own rb t i O.size V addr W W1) (hc:can (n+1) s) (hrb:rb<W.heap.size) (h0:0<=v) (h9:v<=4294967295):
 Calls Tryz.prog V.wake.k (V.wake.f++(#[.int .i64 (m:Int),.int .u32 v]++V.wake.c)) W1 fun e W2=>e= .returned (.int .u32 (O.wake s m v).1)/\RMoves Inv ((O.wake s m v).2) own rb t i O.size V addr W W2:=
 h.calls (R:=fun e=>e= .returned (.int .u32 (O.wake s m v).1)) hrb fun own1 h1=>hP.wake n s own1 W1 m v hc h1 h0 h9
theorem remote_r (hP:PortOk O V Inv can) (n:Nat) {s:σ} {own:Nat->Prop} {rb:Nat} {t:Th} {i:Ins} {addr:Int} {W W1:World} (h:RMoves Inv s own rb t i O.size V addr W W1) (hc:can (n+1) s) (hrb:rb<W.heap.size):
 Calls Tryz.prog V.remote.k (V.remote.f++V.remote.c) W1 fun e W2=>(∃u,e= .returned u)/\RMoves Inv (O.remote s) own rb t i O.size V addr W W2:=
 h.calls (R:=fun e=>(∃u,e= .returned u)) hrb fun own1 h1=>hP.remote n s own1 W1 hc h1
end
def lockS {σ:Type} (O:Ops σ) (s:σ) (pc:Int) (m:Nat) (old v:Int) (ok:Bool):σ:=
 O.note (if ok then O.swap s m v else s) ⟨4,0,pc,(m:Int),if ok then v else old,old,0,ok⟩
set_option maxHeartbeats 2000000 in
theorem locked_any {σ:Type} {O:Ops σ} {V:Pv} {Inv:σ->(Nat->Prop)->World->Prop} {can:Nat->σ->Prop} (hP:PortOk O V Inv can) (n:Nat) (s:σ) (own:Nat->Prop) (rb:Nat) (t:Th) (i:Ins) (m a:Nat) (old v:Int) (ok:Bool) (W W1:World)
 (hM:RMoves Inv s own rb t i O.size V (m:Int) W W1) (hc:can (n+2) s) (hrb:rb<W.heap.size) (hm:m<O.size) (ha:i.a=(a:Int)) (ha8:a<8):
 Calls Tryz.prog 167 #[.pointer (some ⟨rb,0,none⟩),.int .u32 old,.int .u32 v,.bool ok] W1
  fun e W'=>(∃u,e= .returned u)/\RMoves Inv (lockS O s t.pc m old v ok) own rb {t with regs:=updR t.regs a old} i O.size V (m:Int) W W':=by
 have hR:=hM.rn
 obtain ⟨c15,c16,c17,c18,c19,c20,c21,c22,c23,c24,c25,c26⟩:=hR.pt
 have hG:=hP.goes.2.2.2.2.2.1
 have hlt:=hR.lt
 clear c15 c16 c17 c18 c19 c20 c22 c23 c24 c25 hR
 cases ok
 ·have HM:=Lib.hid (And.intro hM (hP.less (n+1) s hc))
  clear hM hc c21 c26 hG
  go_enter Tryz.func167,Tryz.ntmps167
  go_wp2_with fail
  refine (note_r hP n (s:=s) (W:=W) ⟨4,0,0,0,old,old,0,false⟩ HM.out.1 HM.out.2 hrb).mono ?_
  rintro e W4 ⟨⟨u,rfl⟩,hM4⟩
  have hr4:=reg_r hP a ha ha8 hM4
  clear hM4
  go_wp2_with fail
  refine hr4.mono ?_
  rintro e W5 ⟨rfl,hM5⟩
  have c5:=hM5.rn.reg ha8
  have f5:=hM5.rn.fz (1+a)
  have HM5:=Lib.hid (hM5.set_ hP (1+a) (.int .u32 old) (fun h=>h.setReg ha8 old))
  clear hr4 hM5
  go_wp2
  go_end0
  exact ⟨⟨_,rfl⟩,HM5.out⟩
 ·have hc2:=hP.cswap (n+1) s m v hc
  unfold Fv.val at c21
  unfold Goes at hG
  have HM:=Lib.hid (And.intro hM (And.intro hc hc2))
  clear hM hc hc2
  go_enter Tryz.func167,Tryz.ntmps167
  go_wp2
  go_still_tail 10,(by kernel_rfl)
  change wpList _ _ _ _ _ W1.drew
  have hgo:=fun a=>hG a W1.drew
  have hS:=swap_r hP (n+1) m v (HM.out.1.drew hP) HM.out.2.1 hrb hm
  clear hG c21 c26
  generalize W1.drew=W2 at hgo hS⊢
  go_wp2_with fail
  refine hS.mono ?_
  rintro e W3 ⟨⟨u,rfl⟩,hM3⟩
  have hN:=note_r hP n (s:=O.swap s m v) (W:=W) ⟨4,0,0,0,v,old,0,true⟩ hM3 HM.out.2.2 hrb
  clear hS hgo hM3
  go_wp2_with fail
  refine hN.mono ?_
  rintro e W4 ⟨⟨u,rfl⟩,hM4⟩
  have hr4:=reg_r hP a ha ha8 hM4
  clear hN hM4
  go_wp2_with fail
  refine hr4.mono ?_
  rintro e W5 ⟨rfl,hM5⟩
  have c5:=hM5.rn.reg ha8
  have f5:=hM5.rn.fz (1+a)
  have HM5:=Lib.hid (hM5.set_ hP (1+a) (.int .u32 old) (fun h=>h.setReg ha8 old))
  clear hr4 hM5
  go_wp2
  go_end0
  exact ⟨⟨_,rfl⟩,HM5.out⟩
end Go.Proofs.YtmhfpjnkjlhbpaaGreatDoor
