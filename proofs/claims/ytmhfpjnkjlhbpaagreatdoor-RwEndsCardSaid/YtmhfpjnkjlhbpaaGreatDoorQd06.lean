/- A buffer as a list of entries and a room; its cells; the small methods. Put and Pop. Pop. Find. Entries, and the law's 'same'. -/
import Derived.Test.YtmhfpjnkjlhbpaaGreatDoorQd02
import Derived.Deep.RegionHeld3
import Derived.Deep.RegionWith
namespace Go.Proofs.YtmhfpjnkjlhbpaaGreatDoor
open Go.ChangeShapes Go.WideShapes Go.ChangeAt Go.RowKit Go.Deep
set_option linter.unusedVariables false
set_option maxRecDepth 100000
open List renaming setIfInBounds_toArray->zD,set_cons_zero->zE,set_cons_succ->zF
abbrev Ent:=Int×Int
structure BufC (cs:Array Value) (R:Nat->Ent) (first n:Nat) (room:Int):Prop where
 size:cs.size=35
 addr: ∀i,i<16->cs[i*2]?=some (.int .i64 (R i).1)
 val: ∀i,i<16->cs[i*2+1]?=some (.int .u32 (R i).2)
 first:cs[32]?=some (.int .i64 first)
 n:cs[33]?=some (.int .i64 n)
 room:cs[34]?=some (.int .i64 room)
structure Buf (cs:Array Value) (l:List Ent) (room:Int):Prop where
 ex: ∃R first,first<16/\BufC cs R first l.length room/\ ∀j,j<l.length->R ((first+j)% 16)=l.getD j (0,0)
 le:l.length<=16
 r0: -9223372036854775808<=room
 r1:room<=9223372036854775807
theorem BufC.one {cs:Array Value} {R:Nat->Ent} {first n:Nat} {room:Int} (h:BufC cs R first n room): ∀i,i<35-> ∃k z,cs[i]?=some (.int k z):=by
 intro i hi
 rcases (by omega:i<32∨i=32∨i=33∨i=34)with h32|rfl|rfl|rfl
 ·rcases Nat.mod_two_eq_zero_or_one i with h0|h1
  ·have :=h.addr (i/2) (by omega)
   rw [show i/2*2=i by omega]at this
   exact ⟨_,_,this⟩
  ·have :=h.val (i/2) (by omega)
   rw [show i/2*2+1=i by omega]at this
   exact ⟨_,_,this⟩
 ·exact ⟨_,_,h.first⟩
 ·exact ⟨_,_,h.n⟩
 ·exact ⟨_,_,h.room⟩
theorem len_any (cs:Array Value) (l:List Ent) (room:Int) (h:Buf cs l room) (w:World):
 Calls Tryz.prog 50 #[.agg cs] w fun e w'=>e= .returned (.int .i64 l.length)/\Below w.heap.size w w':=by
 obtain ⟨R,first,hf,hc,hl⟩:=h.ex
 have hn:=hc.n
 go_enter Tryz.func50,Tryz.ntmps50
 go_wp2
 go_ret
 exact ⟨rfl,(Below.refl _ _).alloc (Nat.le_refl _) _⟩
theorem full_any (cs:Array Value) (l:List Ent) (room:Int) (h:Buf cs l room) (w:World):
 Calls Tryz.prog 170 #[.agg cs] w fun e w'=>e= .returned (.bool (decide (room<=l.length)))/\Below w.heap.size w w':=by
 obtain ⟨R,first,hf,hc,hl⟩:=h.ex
 have hn:=hc.n
 have hr:=hc.room
 go_enter Tryz.func170,Tryz.ntmps170
 go_wp2
 go_ret
 exact ⟨rfl,(Below.refl _ _).alloc (Nat.le_refl _) _⟩
theorem at_any (cs:Array Value) (R:Nat->Ent) (first n:Nat) (room:Int) (h:BufC cs R first n room) (hf:first<16) (i:Int) (h0:0<=i) (h1:i<=100) (w:World):
 Calls Tryz.prog 162 #[.agg cs,.int .i64 i] w fun e w'=>e= .returned (.int .i64 (((first+i.toNat)% 16:Nat):Int))/\Below w.heap.size w w':=by
 obtain ⟨i,rfl⟩: ∃j:Nat,i=(j:Int):=⟨i.toNat,by omega⟩
 have hfr:=h.first
 have hw:IntKind.i64.wrap ((first:Int)+(i:Int))=(first:Int)+(i:Int):=IntWalk.i64_in _ (by omega)
 go_enter Tryz.func162,Tryz.ntmps162
 go_wp2
 go_ret
 refine ⟨?_,(Below.refl _ _).alloc (Nat.le_refl _) _⟩
 simp
def emptyCells (room:Int):Array Value:= #[.int .i64 0,.int .u32 0,.int .i64 0,.int .u32 0,.int .i64 0,.int .u32 0,.int .i64 0,.int .u32 0,.int .i64 0,.int .u32 0,.int .i64 0,.int .u32 0,.int .i64 0,.int .u32 0,.int .i64 0,.int .u32 0,
 .int .i64 0,.int .u32 0,.int .i64 0,.int .u32 0,.int .i64 0,.int .u32 0,.int .i64 0,.int .u32 0,.int .i64 0,.int .u32 0,.int .i64 0,.int .u32 0,.int .i64 0,.int .u32 0,.int .i64 0,.int .u32 0,.int .i64 0,.int .i64 0,.int .i64 room]
theorem empty_buf (room:Int) (r0: -9223372036854775808<=room) (r1:room<=9223372036854775807):Buf (emptyCells room) [] room:=
 ⟨⟨fun _=>(0,0),0,by decide,⟨rfl,fun i hi=>by
  rcases (by omega:i=0∨i=1∨i=2∨i=3∨i=4∨i=5∨i=6∨i=7∨i=8∨i=9∨i=10∨i=11∨i=12∨i=13∨i=14∨i=15)with rfl|rfl|rfl|rfl|rfl|rfl|rfl|rfl|rfl|rfl|rfl|rfl|rfl|rfl|rfl|rfl<;>rfl,fun i hi=>by
  rcases (by omega:i=0∨i=1∨i=2∨i=3∨i=4∨i=5∨i=6∨i=7∨i=8∨i=9∨i=10∨i=11∨i=12∨i=13∨i=14∨i=15)with rfl|rfl|rfl|rfl|rfl|rfl|rfl|rfl|rfl|rfl|rfl|rfl|rfl|rfl|rfl|rfl<;>rfl,rfl,rfl,rfl⟩,fun j hj=>absurd hj (by simp)⟩,by simp,r0,r1⟩
theorem buf_size (n:Nat) (h:n=35):(Tryz.prog.info? 114).map (·.size)=some n:=by subst h;kernel_rfl
theorem BufC.all {cs:Array Value} {R:Nat->Ent} {first n:Nat} {room:Int} (h:BufC cs R first n room):cs.all (·.oneCell')=true:=by
 rw [Array.all_eq_true_iff_forall_mem]
 intro v hv
 obtain ⟨i,hi,rfl⟩:=Array.getElem_of_mem hv
 obtain ⟨k,z,e⟩:=h.one i (by rw [<-h.size];exact hi)
 rw [Array.getElem?_eq_getElem hi]at e
 rw [Option.some.inj e]
 rfl
theorem Buf.all {cs:Array Value} {l:List Ent} {room:Int} (h:Buf cs l room):cs.all (·.oneCell')=true:=by
 obtain ⟨R,first,_,hc,_⟩:=h.ex
 exact hc.all
theorem Buf.size {cs:Array Value} {l:List Ent} {room:Int} (h:Buf cs l room):cs.size=35:=by
 obtain ⟨R,first,_,hc,_⟩:=h.ex
 exact hc.size
theorem Buf.size35 {cs:Array Value} {l:List Ent} {room:Int} (h:Buf cs l room):35=cs.size:=h.size.symm
theorem Buf.info {cs:Array Value} {l:List Ent} {room:Int} (h:Buf cs l room):(Tryz.prog.info? 114).map (·.size)=some cs.size:=buf_size _ h.size
theorem run_buf {w:World} {g:Nat} {cs:Array Value} {l:List Ent} {room:Int} (h:Buf cs l room) (hb:Blk w g 114 cs):(loadVar 114 ⟨g,0,none⟩).run Tryz.prog w= .ok (.agg cs) w:=
 run_row w g _ _ cs _ hb Tryz.underlying114 rfl h.info
theorem new_any (room:Int) (w:World):
 Calls Tryz.prog 44 #[.int .i64 room] w fun e w'=>e= .returned (.tuple #[.agg (emptyCells (if 1<=room/\room<=16 then room else 0)),.int .i64 (if 1<=room/\room<=16 then 0 else 1)])/\Below w.heap.size w w':=by
 have hB: ∀o,Below w.heap.size w (w.alloc o):=fun o=>(Below.refl _ _).alloc (Nat.le_refl _) o
 by_cases h:1<=room/\room<=16
 ·rw [if_pos h,if_pos h]
  obtain ⟨h0,h1⟩:=h
  have E:=empty_buf room (by omega) (by omega)
  go_enter Tryz.func44,Tryz.ntmps44
  go_wp2_with (refine wpList_store_row rfl 114 (.tmp 2) (.tmp 12) rfl _ rfl (emptyCells room) rfl 114 (emptyCells 0) (Blk.new _ _ _) rfl E.info E.all ?_;intro w1 hb1 hg1;have hB1:=below_row (hB _) hg1 (by simp) (Nat.le_refl _);clear hB hg1)
  exact bodyPost_ret (results_row_tmp rfl _ _ _ _ rfl (run_buf E hb1)) rfl ⟨rfl,hB1⟩
 ·rw [if_neg h,if_neg h]
  have E:=empty_buf 0 (by omega) (by omega)
  by_cases h0:room<1
  ·clear h
   go_enter Tryz.func44,Tryz.ntmps44
   go_wp2_with (refine wpList_store_row rfl 114 (.tmp 2) (.tmp 10) rfl _ rfl (emptyCells 0) rfl 114 (emptyCells 0) (Blk.new _ _ _) rfl E.info E.all ?_;intro w1 hb1 hg1;have hB1:=below_row (hB _) hg1 (by simp) (Nat.le_refl _);clear hB hg1)
   exact bodyPost_ret (results_row_tmp rfl _ _ _ _ rfl (run_buf E hb1)) rfl ⟨rfl,hB1⟩
  ·have h1:16<room:=by omega
   clear h
   go_enter Tryz.func44,Tryz.ntmps44
   go_wp2_with (refine wpList_store_row rfl 114 (.tmp 2) (.tmp 10) rfl _ rfl (emptyCells 0) rfl 114 (emptyCells 0) (Blk.new _ _ _) rfl E.info E.all ?_;intro w1 hb1 hg1;have hB1:=below_row (hB _) hg1 (by simp) (Nat.le_refl _);clear hB hg1)
   exact bodyPost_ret (results_row_tmp rfl _ _ _ _ rfl (run_buf E hb1)) rfl ⟨rfl,hB1⟩
end Go.Proofs.YtmhfpjnkjlhbpaaGreatDoor
namespace Go.Proofs.YtmhfpjnkjlhbpaaGreatDoor
open Go.ChangeShapes Go.WideShapes Go.ChangeAt Go.RowKit Go.Deep
set_option linter.unusedVariables false
set_option maxRecDepth 100000
set_option linter.unusedSimpArgs false
open List renaming setIfInBounds_toArray->zD,set_cons_zero->zE,set_cons_succ->zF
structure PutW (w W:World) (cs:Array Value) (x:Ent) (old:Array Value):Prop where
 b:Blk W w.heap.size 114 cs
 x:Blk W (w.heap.size+1) 111 #[.int .i64 x.1,.int .u32 x.2]
 r:Blk W (w.heap.size+1+1) 114 old
 B:Below w.heap.size w W
theorem putW_new (w:World) (cs:Array Value) (x:Ent):PutW w (((w.alloc (Obj.cells cs 114)).alloc (Obj.cells #[.int .i64 x.1,.int .u32 x.2] 111)).alloc (Obj.cells (emptyCells 0) 114)) cs x (emptyCells 0):=by
 have e1:(w.alloc (Obj.cells cs 114)).heap.size=w.heap.size+1:=by simp
 have e2:((w.alloc (Obj.cells cs 114)).alloc (Obj.cells #[.int .i64 x.1,.int .u32 x.2] 111)).heap.size=w.heap.size+1+1:=by simp
 refine ⟨((Blk.new w _ _).alloc _).alloc _,?_,?_,(((Below.refl _ _).alloc (Nat.le_refl _) _).alloc (by simp) _).alloc (by simp;omega) _⟩
 ·have :=(Blk.new (w.alloc (Obj.cells cs 114)) 111 #[.int .i64 x.1,.int .u32 x.2]).alloc (Obj.cells (emptyCells 0) 114)
  rw [e1]at this
  exact this
 ·have :=Blk.new ((w.alloc (Obj.cells cs 114)).alloc (Obj.cells #[.int .i64 x.1,.int .u32 x.2] 111)) 114 (emptyCells 0)
  rw [e2]at this
  exact this
theorem PutW.step {w W W1:World} {cs old:Array Value} {x:Ent} (h:PutW w W cs x old) (hb:Below W.heap.size W W1):PutW w W1 cs x old:=
 ⟨h.b.below hb h.b.lt,h.x.below hb h.x.lt,h.r.below hb h.r.lt,step_below h.B hb⟩
def putCells (cs:Array Value) (at_:Nat) (n:Int) (x:Ent):Array Value:=((cs.setIfInBounds (at_*2) (.int .i64 x.1)).setIfInBounds (at_*2+1) (.int .u32 x.2)).setIfInBounds 33 (.int .i64 n)
theorem put_buf {cs:Array Value} {l:List Ent} {room:Int} {R:Nat->Ent} {first:Nat} (h:Buf cs l room) (hf:first<16) (hc:BufC cs R first l.length room) (hl: ∀j,j<l.length->R ((first+j)% 16)=l.getD j (0,0)) (x:Ent) (hn:l.length<16):
 Buf (putCells cs ((first+l.length)% 16) ((l.length:Int)+1) x) (l++[x]) room:=by
 have hat:(first+l.length)% 16<16:=Nat.mod_lt _ (by decide)
 generalize hatq:(first+l.length)% 16=q at hat⊢
 have hs:=hc.size
 refine ⟨⟨fun i=>if i=q then x else R i,first,hf,⟨?_,?_,?_,?_,?_,?_⟩,?_⟩,by simp;omega,h.r0,h.r1⟩
 ·unfold putCells;simp [hs]
 ·intro i hi
  unfold putCells
  rw [Array.getElem?_setIfInBounds_ne (by omega),Array.getElem?_setIfInBounds_ne (by omega)]
  by_cases e:i=q
  ·subst e
   rw [if_pos rfl,Array.getElem?_setIfInBounds_self_of_lt (by omega)]
  ·rw [if_neg e,Array.getElem?_setIfInBounds_ne (by omega)]
   exact hc.addr i hi
 ·intro i hi
  unfold putCells
  rw [Array.getElem?_setIfInBounds_ne (by omega)]
  by_cases e:i=q
  ·subst e
   rw [if_pos rfl,Array.getElem?_setIfInBounds_self_of_lt (by simp;omega)]
  ·rw [if_neg e,Array.getElem?_setIfInBounds_ne (by omega),Array.getElem?_setIfInBounds_ne (by omega)]
   exact hc.val i hi
 ·unfold putCells
  rw [Array.getElem?_setIfInBounds_ne (by omega),Array.getElem?_setIfInBounds_ne (by omega),Array.getElem?_setIfInBounds_ne (by omega)]
  exact hc.first
 ·unfold putCells
  rw [Array.getElem?_setIfInBounds_self_of_lt (by simp;omega)]
  simp
 ·unfold putCells
  rw [Array.getElem?_setIfInBounds_ne (by omega),Array.getElem?_setIfInBounds_ne (by omega),Array.getElem?_setIfInBounds_ne (by omega)]
  exact hc.room
 ·intro j hj
  simp only [List.length_append,List.length_cons,List.length_nil]at hj
  by_cases hjl:j<l.length
  ·have :(first+j)% 16≠q:=by omega
   simp only [if_neg this]
   rw [hl j hjl]
   simp only [List.getD_eq_getElem?_getD,List.getElem?_append_left hjl]
  ·obtain rfl:j=l.length:=by omega
   simp only [hatq,if_true]
   simp [List.getD]
theorem put_yes (cs:Array Value) (l:List Ent) (room:Int) (h:Buf cs l room) (x:Ent) (hf:l.length<room) (hn:l.length<16) (w:World):
 Calls Tryz.prog 171 #[.agg cs,.agg #[.int .i64 x.1,.int .u32 x.2]] w fun e w'=> ∃cs',Buf cs' (l++[x]) room/\e= .returned (.tuple #[.agg cs',.bool true])/\Below w.heap.size w w':=by
 have hb0:=Blk.new w 114 cs
 have hP:=putW_new w cs x
 have hE:=empty_buf 0 (by decide) (by decide)
 have cF:=full_any cs l room h
 rw [decide_eq_false (show¬room<=l.length by omega)]at cF
 obtain ⟨R,first,hfi,hc,hl⟩:=h.ex
 have hN:=put_buf h hfi hc hl x hn
 have cA:=at_any cs R first l.length room hc hfi l.length (by omega) (by omega)
 rw [Int.toNat_natCast]at cA
 have hq:(first+l.length)% 16<16:=Nat.mod_lt _ (by decide)
 generalize (first+l.length)% 16=q at hN cA hq
 have HN:=Lib.hid hN
 clear hl hN
 go_enter Tryz.func171,Tryz.ntmps171
 go_wp2_with (refine wpList_load_row rfl 114 (.tmp 2) rfl _ rfl 114 cs (0,0) _ (show Blk _ _ _ _ from (hb0.alloc _).alloc _) Tryz.underlying114 rfl h.info ?_)
 refine (cF _).mono ?_
 rintro e w1 ⟨rfl,hb1⟩
 have hP1:=hP.step hb1
 clear hP hb0 hb1
 have n0:=(hP1.b.cell 33).trans hc.n
 have x0:=hP1.x.cell 0
 have x1:=hP1.x.cell 1
 simp only [List.getElem?_toArray,List.getElem?_cons_zero,List.getElem?_cons_succ]at x0 x1
 go_upto_region 3 with fail
 have hH:PutW w w1.drew cs x (emptyCells 0):=⟨hP1.b,hP1.x,hP1.r,hP1.B.drew⟩
 refine startG (fun w'=>PutW w w' cs x (emptyCells 0)) 7 (by kernel_rfl) ?_
 refine takeB (i:=0) (v:= .agg cs) rfl (yields_row (by rfl) 114 (.tmp 2) rfl w.heap.size rfl cs (fun _ hS=>run_buf h hS.b)) hH ?_
 try simp only [Act.put,zD,zE,zF]
 refine takeB (i:=1) (v:= .pointer (some ⟨w.heap.size,33,none⟩)) rfl (Or.inl ⟨by rfl,fun W hW=>by go_simp⟩) hH ?_
 try simp only [Act.put,zD,zE,zF]
 refine takeB (i:=2) (v:= .int .i64 l.length) rfl (Or.inl ⟨by rfl,fun W hW=>by have q:=(hW.b.cell 33).trans hc.n;go_simp⟩) hH ?_
 try simp only [Act.put,zD,zE,zF]
 refine takeB (i:=4) (v:= .agg #[.int .i64 x.1,.int .u32 x.2]) rfl (Or.inl ⟨by rfl,fun W hW=>by have q0:=hW.x.cell 0;have q1:=hW.x.cell 1;simp only [List.getElem?_toArray,List.getElem?_cons_zero,List.getElem?_cons_succ]at q0 q1;go_simp⟩) hH ?_
 try simp only [Act.put,zD,zE,zF]
 refine takeB (i:=5) (v:= .pointer (some ⟨w.heap.size,0,none⟩)) rfl (Or.inl ⟨by rfl,fun W hW=>by go_simp⟩) hH ?_
 try simp only [Act.put,zD,zE,zF]
 refine onlyG (i:=3) (by kernel_rfl) rfl (fun K hK=>?_)
 go_simp
 refine (cA _).mono ?_
 rintro e w2 ⟨rfl,hb2⟩
 go_wp2_with fail
 refine hK.out _ _ (hH.step hb2) (fun hH2=>?_)
 clear hK K hH hP1 n0 x0 x1 hb2
 have h16: ¬(16:Int)<=(q:Int):=by omega
 try simp only [Act.put,zD,zE,zF]
 refine takeB (i:=6) (v:= .pointer (some ⟨w.heap.size,q*2,none⟩)) rfl (Or.inl ⟨by rfl,fun W hW=>by go_simp⟩) hH2 ?_
 try simp only [Act.put,zD,zE,zF]
 refine lastG (by kernel_rfl) rfl (by kernel_rfl) (fun K hK=>?_)
 have c0:=(hH2.b.cell (q*2)).trans (hc.addr q hq)
 have c1:=(hH2.b.cell (q*2+1)).trans (hc.val q hq)
 have f0:=hH2.b.frozen (q*2)
 have f1:=hH2.b.frozen (q*2+1)
 go_simp
 refine hK.out _ _ ?_
 clear hK K c0 c1 f0 f1
 have hb3:=(hH2.b.set_ (q*2) (.int .i64 x.1)).set_ (q*2+1) (.int .u32 x.2)
 have hr3:=(hH2.r.far (p:=⟨w.heap.size,q*2,none⟩) (fun e=>by dsimp only at e;omega) (.int .i64 x.1)).far (p:=⟨w.heap.size,q*2+1,none⟩) (fun e=>by dsimp only at e;omega) (.int .u32 x.2)
 have hB3:=(hH2.B.setCell (p:=⟨w.heap.size,q*2,none⟩) (Nat.le_refl _) (.int .i64 x.1)).setCell (p:=⟨w.heap.size,q*2+1,none⟩) (Nat.le_refl _) (.int .u32 x.2)
 generalize ((w2.setCell ⟨w.heap.size,q*2,none⟩ (.int .i64 x.1)).setCell ⟨w.heap.size,q*2+1,none⟩ (.int .u32 x.2))=w3 at hb3 hr3 hB3⊢
 have hs3:33<((cs.setIfInBounds (q*2) (.int .i64 x.1)).setIfInBounds (q*2+1) (.int .u32 x.2)).size:=by simp [hc.size]
 have n3:w3.cell? ⟨w.heap.size,33,none⟩=some (.int .i64 l.length):=by
  rw [hb3.cell,Array.getElem?_setIfInBounds_ne (by omega),Array.getElem?_setIfInBounds_ne (by omega)]
  exact hc.n
 have f3:=hb3.frozen 33
 have hb4:=hb3.set_ 33 (.int .i64 ((l.length:Int)+1))
 have hr4:=hr3.far (p:=⟨w.heap.size,33,none⟩) (fun e=>by dsimp only at e;omega) (.int .i64 ((l.length:Int)+1))
 have hB4:=hB3.setCell (p:=⟨w.heap.size,33,none⟩) (Nat.le_refl _) (.int .i64 ((l.length:Int)+1))
 have hN2:=HN.out
 change Blk _ _ _ (putCells cs q ((l.length:Int)+1) x)at hb4
 generalize putCells cs q ((l.length:Int)+1) x=cs2 at hb4 hN2
 go_wp2_with (first
  |(refine wpList_load_row rfl 114 (.tmp 2) rfl _ rfl 114 cs2 (0,0) _ hb4 Tryz.underlying114 rfl hN2.info ?_)
  |(refine wpList_store_row rfl 114 (.tmp 4) (.tmp 20) rfl _ rfl cs2 rfl 114 (emptyCells 0) hr4 (hE.size.trans hN2.size35) hN2.info hN2.all ?_;intro w5 hb5 hg5;have hB5:=below_row hB4 hg5 hB4.size (by omega)))
 exact bodyPost_ret (results_row_tmp rfl _ _ _ _ rfl (run_buf hN2 hb5)) rfl ⟨cs2,hN2,rfl,hB5⟩
def entCells (x:Ent):Array Value:= #[.int .i64 x.1,.int .u32 x.2]
structure PopW (w W:World) (cs:Array Value) (x:Array Value) (old:Array Value):Prop where
 b:Blk W w.heap.size 114 cs
 x:Blk W (w.heap.size+1) 111 x
 r:Blk W (w.heap.size+1+1) 114 old
 B:Below w.heap.size w W
theorem popW_new (w:World) (cs:Array Value):PopW w (((w.alloc (Obj.cells cs 114)).alloc (Obj.cells #[.int .i64 0,.int .u32 0] 111)).alloc (Obj.cells (emptyCells 0) 114)) cs (entCells (0,0)) (emptyCells 0):=by
 obtain ⟨h1,h2,h3,h4⟩:=putW_new w cs (0,0)
 exact ⟨h1,h2,h3,h4⟩
theorem PopW.step {w W W1:World} {cs old x:Array Value} (h:PopW w W cs x old) (hb:Below W.heap.size W W1):PopW w W1 cs x old:=
 ⟨h.b.below hb h.b.lt,h.x.below hb h.x.lt,h.r.below hb h.r.lt,step_below h.B hb⟩
theorem PopW.drew {w W:World} {cs old x:Array Value} (h:PopW w W cs x old):PopW w W.drew cs x old:=⟨h.b,h.x,h.r,h.B.drew⟩
theorem PopW.setB {w W:World} {cs old x:Array Value} (h:PopW w W cs x old) (i:Nat) (v:Value):PopW w (W.setCell ⟨w.heap.size,i,none⟩ v) (cs.setIfInBounds i v) x old:=
 ⟨h.b.set_ i v,h.x.far (fun e=>by dsimp only at e;omega) v,h.r.far (fun e=>by dsimp only at e;omega) v,h.B.setCell (Nat.le_refl _) v⟩
theorem PopW.row {w W W1:World} {cs old x new:Array Value} (h:PopW w W cs x old) (hr:Blk W1 (w.heap.size+1+1) 114 new) (hg:W.grownBy W1 (some (w.heap.size+1+1))):PopW w W1 cs x new:=
 ⟨h.b.grown hg (by simp;omega),h.x.grown hg (by simp),hr,below_row h.B hg h.B.size (by omega)⟩
theorem PopW.rowX {w W W1:World} {cs old x new:Array Value} (h:PopW w W cs x old) (hr:Blk W1 (w.heap.size+1) 111 new) (hg:W.grownBy W1 (some (w.heap.size+1))):PopW w W1 cs new old:=
 ⟨h.b.grown hg (by simp),hr,h.r.grown hg (by simp),below_row h.B hg h.B.size (by omega)⟩
theorem ent_info:(Tryz.prog.info? 111).map (·.size)=some 2:=by kernel_rfl
theorem ent_all (x:Ent):(entCells x).all (·.oneCell')=true:=by
 rw [Array.all_eq_true_iff_forall_mem]
 intro v hv
 have hv':v= .int .i64 x.1∨v= .int .u32 x.2:=by simpa [entCells]using hv
 rcases hv' with rfl|rfl<;>rfl
theorem run_ent {w:World} {g:Nat} {x:Ent} (hb:Blk w g 111 (entCells x)):(loadVar 111 ⟨g,0,none⟩).run Tryz.prog w= .ok (.agg (entCells x)) w:=
 run_row w g _ _ (entCells x) _ hb Tryz.underlying111 rfl (by show _=some 2;kernel_rfl)
theorem pop_none (cs:Array Value) (room:Int) (h:Buf cs [] room) (w:World):
 Calls Tryz.prog 128 #[.agg cs] w fun e w'=>e= .returned (.tuple #[.agg (entCells (0,0)),.agg cs,.bool false])/\Below w.heap.size w w':=by
 have hP:=popW_new w cs
 have hE:=empty_buf 0 (by decide) (by decide)
 obtain ⟨R,first,hfi,hc,hl⟩:=h.ex
 have hn0:cs[33]?=some (.int .i64 0):=hc.n
 clear hl
 go_enter Tryz.func128,Tryz.ntmps128
 go_upto_region 2 with fail
 clear hn0
 generalize hW:((w.alloc (Obj.cells cs 114)).alloc (Obj.cells #[.int .i64 0,.int .u32 0] 111)).alloc (Obj.cells (emptyCells 0) 114)=W at hP
 unfold emptyCells at hW
 rw [hW]
 clear hW
 have hH:=hP.drew
 refine startG (fun W'=>Blk W' w.heap.size 114 cs) 4 (by kernel_rfl) ?_
 generalize W.drew=W1 at hH
 refine takeB (i:=0) (v:= .agg (entCells (0,0))) rfl (Or.inl ⟨by rfl,fun W hW=>by unfold entCells;go_simp⟩) hH.b ?_
 try simp only [Act.put,zD,zE,zF]
 refine takeB (i:=1) (v:= .agg cs) rfl (yields_row (by rfl) 114 (.tmp 1) rfl w.heap.size rfl cs (fun _ hS=>run_buf h hS)) hH.b ?_
 try simp only [Act.put,zD,zE,zF]
 refine onlyG (i:=2) (by kernel_rfl) rfl (fun K hK=>?_)
 refine step_store_row rfl 111 (.tmp 2) (.tmp 9) rfl _ rfl (entCells (0,0)) rfl 111 (entCells (0,0)) hH.x rfl ent_info (ent_all _) ?_
 intro W2 hx2 hg2
 have hH2:=hH.rowX hx2 hg2
 refine hK.out _ _ hH2.b (fun hS2=>?_)
 clear hK K hx2 hg2
 try simp only [Act.put,zD,zE,zF]
 refine onlyG (i:=3) (by kernel_rfl) rfl (fun K hK=>?_)
 refine step_store_row rfl 114 (.tmp 3) (.tmp 10) rfl _ rfl cs rfl 114 (emptyCells 0) hH2.r (hE.size.trans h.size35) h.info h.all ?_
 intro W3 hr3 hg3
 have hH3:=hH2.row hr3 hg3
 refine hK.out _ _ hH3.b (fun hS3=>?_)
 clear hK K hr3 hg3
 try simp only [Act.put,zD,zE,zF]
 refine lastG (by kernel_rfl) rfl (by kernel_rfl) (fun K hK=>?_)
 go_simp
 refine hK.out _ _ ?_
 clear hK K
 go_wp2_with fail
 exact bodyPost_ret (results_row_row_tmp rfl _ _ _ _ _ _ rfl (run_ent hH3.x) rfl (run_buf h hH3.r)) rfl ⟨rfl,hH3.B⟩
def popCells (cs:Array Value) (first:Nat) (n:Int):Array Value:=
 (((cs.setIfInBounds (first*2) (.int .i64 0)).setIfInBounds (first*2+1) (.int .u32 0)).setIfInBounds 32 (.int .i64 (((first:Int)+1)% 16))).setIfInBounds 33 (.int .i64 n)
theorem pop_bufC {cs:Array Value} {R:Nat->Ent} {first n:Nat} {room:Int} (hc:BufC cs R first n room) (hf:first<16):
 BufC ((cs.setIfInBounds (first*2) (.int .i64 0)).setIfInBounds (first*2+1) (.int .u32 0)) (fun i=>if i=first then (0,0)else R i) first n room:=by
 have hs:=hc.size
 refine ⟨by simp [hs],fun i hi=>?_,fun i hi=>?_,?_,?_,?_⟩
 ·by_cases e:i=first
  ·subst e
   rw [if_pos rfl,Array.getElem?_setIfInBounds_ne (by omega),Array.getElem?_setIfInBounds_self_of_lt (by omega)]
  ·rw [if_neg e,Array.getElem?_setIfInBounds_ne (by omega),Array.getElem?_setIfInBounds_ne (by omega)]
   exact hc.addr i hi
 ·by_cases e:i=first
  ·subst e
   rw [if_pos rfl,Array.getElem?_setIfInBounds_self_of_lt (by simp;omega)]
  ·rw [if_neg e,Array.getElem?_setIfInBounds_ne (by omega),Array.getElem?_setIfInBounds_ne (by omega)]
   exact hc.val i hi
 ·rw [Array.getElem?_setIfInBounds_ne (by omega),Array.getElem?_setIfInBounds_ne (by omega)];exact hc.first
 ·rw [Array.getElem?_setIfInBounds_ne (by omega),Array.getElem?_setIfInBounds_ne (by omega)];exact hc.n
 ·rw [Array.getElem?_setIfInBounds_ne (by omega),Array.getElem?_setIfInBounds_ne (by omega)];exact hc.room
theorem pop_buf {cs:Array Value} {x:Ent} {l:List Ent} {room:Int} {R:Nat->Ent} {first:Nat} (h:Buf cs (x::l) room) (hf:first<16) (hc:BufC cs R first (l.length+1) room)
 (hl: ∀j,j<l.length+1->R ((first+j)% 16)=(x::l).getD j (0,0)):Buf (popCells cs first l.length) l room:=by
 have hle:=h.le
 simp only [List.length_cons]at hle
 have hd:=pop_bufC hc hf
 unfold popCells
 generalize (cs.setIfInBounds (first*2) (Value.int .i64 0)).setIfInBounds (first*2+1) (Value.int .u32 0)=ds at hd⊢
 have hs:=hd.size
 refine ⟨⟨fun i=>if i=first then (0,0)else R i,(first+1)% 16,by omega,⟨by simp [hs],fun i hi=>?_,fun i hi=>?_,?_,?_,?_⟩,fun j hj=>?_⟩,by omega,h.r0,h.r1⟩
 ·rw [Array.getElem?_setIfInBounds_ne (by omega),Array.getElem?_setIfInBounds_ne (by omega)];exact hd.addr i hi
 ·rw [Array.getElem?_setIfInBounds_ne (by omega),Array.getElem?_setIfInBounds_ne (by omega)];exact hd.val i hi
 ·rw [Array.getElem?_setIfInBounds_ne (by omega),Array.getElem?_setIfInBounds_self_of_lt (by omega),show ((first:Int)+1)% 16=(((first+1)% 16:Nat):Int) by omega]
 ·rw [Array.getElem?_setIfInBounds_self_of_lt (by simp;omega)]
 ·rw [Array.getElem?_setIfInBounds_ne (by omega),Array.getElem?_setIfInBounds_ne (by omega)];exact hd.room
 ·have e:((first+1)% 16+j)% 16=(first+(j+1))% 16:=by omega
  have hne:(first+(j+1))% 16≠first:=by omega
  simp only [e,if_neg hne]
  rw [hl (j+1) (by omega)]
  rfl
theorem pop_some (cs:Array Value) (x:Ent) (l:List Ent) (room:Int) (h:Buf cs (x::l) room) (w:World):
 Calls Tryz.prog 128 #[.agg cs] w fun e w'=> ∃cs',Buf cs' l room/\e= .returned (.tuple #[.agg (entCells x),.agg cs',.bool true])/\Below w.heap.size w w':=by
 have hP:=popW_new w cs
 have hE:=empty_buf 0 (by decide) (by decide)
 obtain ⟨R,first,hfi,hc,hl⟩:=h.ex
 have hN:=pop_buf h hfi hc hl
 have hle:=h.le
 have hd:=pop_bufC hc hfi
 have hx:R first=x:=by
  have :=hl 0 (by simp)
  rw [Nat.add_zero,Nat.mod_eq_of_lt hfi]at this
  exact this
 have HN:=Lib.hid hN
 have HX:=Lib.hid hx
 simp only [List.length_cons]at hc hd hle
 have hn0:cs[33]?=some (.int .i64 (((l.length+1:Nat):Int))):=hc.n
 have hnz:((((l.length+1:Nat):Int))==0)=false:=by rw [beq_eq_false_iff_ne];omega
 clear hl hN hx
 go_enter Tryz.func128,Tryz.ntmps128
 go_upto_region 3 with fail
 clear hn0 hnz
 generalize hW:((w.alloc (Obj.cells cs 114)).alloc (Obj.cells #[.int .i64 0,.int .u32 0] 111)).alloc (Obj.cells (emptyCells 0) 114)=W at hP
 unfold emptyCells at hW
 rw [hW]
 clear hW
 have q32:=(hP.b.cell 32).trans hc.first
 have e0:=(hP.b.cell (first*2)).trans (hc.addr first hfi)
 have e1:=(hP.b.cell (first*2+1)).trans (hc.val first hfi)
 have f0:=hP.b.frozen (first*2)
 have f1:=hP.b.frozen (first*2+1)
 have h16:(first:Int)<16:=by omega
 have hgl:=hP.b.lt
 rw [HX.out]at e0 e1
 go_upto_region 5 with fail
 clear q32 e0 e1 f0 f1 h16
 have hP2:=(hP.setB (first*2) (.int .i64 0)).setB (first*2+1) (.int .u32 0)
 have hs2:((W.setCell ⟨w.heap.size,first*2,none⟩ (.int .i64 0)).setCell ⟨w.heap.size,first*2+1,none⟩ (.int .u32 0)).heap.size=W.heap.size:=by simp [World.setCell]
 have hx2:=Blk.new ((W.setCell ⟨w.heap.size,first*2,none⟩ (.int .i64 0)).setCell ⟨w.heap.size,first*2+1,none⟩ (.int .u32 0)) 111 (entCells x)
 rw [hs2]at hx2
 have hP3:=hP2.step ((Below.refl _ _).alloc (Nat.le_refl _) (Obj.cells (entCells x) 111))
 change PopW w (((W.setCell ⟨w.heap.size,first*2,none⟩ (.int .i64 0)).setCell ⟨w.heap.size,first*2+1,none⟩ (.int .u32 0)).alloc (Obj.cells #[.int .i64 x.1,.int .u32 x.2] 111)) _ _ _ at hP3
 change Blk (((W.setCell ⟨w.heap.size,first*2,none⟩ (.int .i64 0)).setCell ⟨w.heap.size,first*2+1,none⟩ (.int .u32 0)).alloc (Obj.cells #[.int .i64 x.1,.int .u32 x.2] 111)) _ _ _ at hx2
 have hg3:w.heap.size+1+1<W.heap.size:=hP.r.lt
 clear hs2 hP2 hP hgl
 generalize (((W.setCell ⟨w.heap.size,first*2,none⟩ (.int .i64 0)).setCell ⟨w.heap.size,first*2+1,none⟩ (.int .u32 0)).alloc (Obj.cells #[.int .i64 x.1,.int .u32 x.2] 111))=W3 at hP3 hx2⊢
 unfold popCells at HN
 generalize (cs.setIfInBounds (first*2) (Value.int .i64 0)).setIfInBounds (first*2+1) (Value.int .u32 0)=ds at hd HN hP3
 generalize W.heap.size=gx at hx2 hg3⊢
 have hds:=buf_size _ hd.size
 have cA:=at_any ds _ first _ room hd hfi 1 (by decide) (by decide)
 go_wp2_with (refine wpList_load_row rfl 114 (.tmp 1) rfl _ rfl 114 ds (0,0) _ hP3.b Tryz.underlying114 rfl hds ?_)
 refine (cA _).mono ?_
 rintro e W4 ⟨rfl,hb4⟩
 have hP4:=hP3.step hb4
 have hx4:=hx2.below hb4 hx2.lt
 have q32:=(hP4.b.cell 32).trans hd.first
 have q33:=(hP4.b.cell 33).trans hd.n
 have f32:=hP4.b.frozen 32
 have f33:=hP4.b.frozen 33
 clear hP3 hx2 hb4 cA
 go_upto_region 7 with fail
 clear q32 q33 f32 f33
 have hP5:=(hP4.setB 32 (.int .i64 (((first:Int)+1)% 16))).setB 33 (.int .i64 l.length)
 have hx5:=(hx4.far (p:=⟨w.heap.size,32,none⟩) (fun e=>by dsimp only at e;omega) (.int .i64 (((first:Int)+1)% 16))).far (p:=⟨w.heap.size,33,none⟩) (fun e=>by dsimp only at e;omega) (.int .i64 l.length)
 clear hP4 hx4
 generalize (W4.setCell ⟨w.heap.size,32,none⟩ (.int .i64 (((first:Int)+1)% 16))).setCell ⟨w.heap.size,33,none⟩ (.int .i64 l.length)=W5 at hP5 hx5⊢
 have hN:=HN.out
 generalize (ds.setIfInBounds 32 (Value.int .i64 (((first:Int)+1)% 16))).setIfInBounds 33 (Value.int .i64 l.length)=es at hP5 hN
 have hH:=hP5.drew
 refine startG (fun W'=>Blk W' w.heap.size 114 es/\Blk W' gx 111 (entCells x)) 4 (by kernel_rfl) ?_
 have hxd:=hx5.drew
 generalize W5.drew=W6 at hH hxd
 refine takeB (i:=0) (v:= .agg (entCells x)) rfl (yields_row (by rfl) 111 (.tmp 5) rfl gx rfl (entCells x) (fun _ hS=>run_ent hS.2)) ⟨hH.b,hxd⟩ ?_
 try simp only [Act.put,zD,zE,zF]
 refine takeB (i:=1) (v:= .agg es) rfl (yields_row (by rfl) 114 (.tmp 1) rfl w.heap.size rfl es (fun _ hS=>run_buf hN hS.1)) ⟨hH.b,hxd⟩ ?_
 try simp only [Act.put,zD,zE,zF]
 refine onlyG (i:=2) (by kernel_rfl) rfl (fun K hK=>?_)
 refine step_store_row rfl 111 (.tmp 2) (.tmp 28) rfl _ rfl (entCells x) rfl 111 (entCells (0,0)) hH.x rfl ent_info (ent_all _) ?_
 intro W7 hx7 hg7
 have hH7:=hH.rowX hx7 hg7
 have hxd7:=hxd.grown hg7 (fun e=>by injection e with e;omega)
 refine hK.out _ _ ⟨hH7.b,hxd7⟩ (fun hS2=>?_)
 clear hK K hx7 hg7
 try simp only [Act.put,zD,zE,zF]
 refine onlyG (i:=3) (by kernel_rfl) rfl (fun K hK=>?_)
 refine step_store_row rfl 114 (.tmp 3) (.tmp 29) rfl _ rfl es rfl 114 (emptyCells 0) hH7.r (hE.size.trans hN.size35) hN.info hN.all ?_
 intro W8 hr8 hg8
 have hH8:=hH7.row hr8 hg8
 have hxd8:=hxd7.grown hg8 (fun e=>by injection e with e;omega)
 refine hK.out _ _ ⟨hH8.b,hxd8⟩ (fun hS3=>?_)
 clear hK K hr8 hg8
 try simp only [Act.put,zD,zE,zF]
 refine lastG (by kernel_rfl) rfl (by kernel_rfl) (fun K hK=>?_)
 go_simp
 refine hK.out _ _ ?_
 clear hK K
 go_wp2_with fail
 exact bodyPost_ret (results_row_row_tmp rfl _ _ _ _ _ _ rfl (run_ent hH8.x) rfl (run_buf hN hH8.r)) rfl ⟨es,hN,rfl,hH8.B⟩
inductive FindP (l:List Ent) (a:Int):Int->Bool->Prop
 |hit (i:Nat):i<l.length->(l.getD i (0,0)).1=a->(∀j,i<j->j<l.length->(l.getD j (0,0)).1≠a)->FindP l a (l.getD i (0,0)).2 true
 |miss:(∀j,j<l.length->(l.getD j (0,0)).1≠a)->FindP l a 0 false
set_option maxHeartbeats 1000000 in
theorem bfind_any (cs:Array Value) (l:List Ent) (room:Int) (h:Buf cs l room) (a v:Int) (is:Bool) (hF:FindP l a v is) (w:World):
 Calls Tryz.prog 169 #[.agg cs,.int .i64 a] w fun e w'=>e= .returned (.tuple #[.int .u32 v,.bool is])/\Below w.heap.size w w':=by
 have hB:=(Below.refl w.heap.size w).alloc (Nat.le_refl _) (Obj.cells cs 114)
 have hq:=Blk.new w 114 cs
 obtain ⟨R,first,hfi,hc,hl⟩:=h.ex
 have hle:=h.le
 have hn:cs[33]?=some (.int .i64 l.length):=hc.n
 have HF:=Lib.hid hF
 have HL:=Lib.hid hl
 clear hF hl
 go_enter Tryz.func169,Tryz.ntmps169
 go_wp2_with fail
 clear hn
 obtain ⟨w0,hw0⟩: ∃w0,w.alloc (Obj.cells cs 114)=w0:=⟨_,rfl⟩
 rw [hw0]at hB hq⊢
 clear hw0
 go_loopw [6] (fun s wr=> ∃k:Nat,k<=l.length/\s= .int .i64 ((k:Int)-1)/\(∀j,k<=j->j<l.length->(l.getD j (0,0)).1≠a)/\Below w0.heap.size w0 wr) (fun s _=>(intOf s+1).toNat)
 case atStart=>exact ⟨l.length,Nat.le_refl _,rfl,fun j h1 h2=>absurd h1 (by omega),Below.refl _ _⟩
 case round=>
  obtain ⟨k,hk,rfl,hno,hBr⟩:=hrel
  have hBw:=step_below hB hBr
  rcases k with _|k
  ·have hm:FindP l a 0 false:= .miss fun j hj=>hno j (Nat.zero_le _) hj
   obtain ⟨rfl,rfl⟩:v=0/\is=false:=by
    cases HF.out with
    |hit i hi h1 h2=>exact absurd h1 (hno i (Nat.zero_le _) hi)
    |miss _=>exact ⟨rfl,rfl⟩
   clear hno hm
   go_wp2
   go_ret2
   exact ⟨rfl,hBw⟩
  ·have hs:((k+1:Nat):Int)-1=(k:Int):=by omega
   rw [hs]
   clear hs
   have hqr:=hq.below hBr hq.lt
   have cA:=at_any cs R first _ room hc hfi (k:Int) (by omega) (by omega)
   rw [Int.toNat_natCast]at cA
   have hR:=HL.out k (by omega)
   have hat:(first+k)% 16<16:=Nat.mod_lt _ (by decide)
   generalize (first+k)% 16=q at cA hR hat
   have a0:=hc.addr q hat
   have a1:=hc.val q hat
   rw [hR]at a0 a1
   have HN:=Lib.hid hno
   have hk0:0<=(k:Int):=by omega
   have hq16:(q:Int)<16:=by omega
   have hinf:=h.info
   clear hno hR
   obtain ⟨z,hz⟩: ∃z,l.getD k (0,0)=z:=⟨_,rfl⟩
   rw [hz]at a0 a1
   have HZ:=Lib.hid hz
   clear hz
   by_cases hza:z.1=a
   ·have hab:(z.1==a)=true:=by rw [beq_iff_eq];exact hza
    have hres:v=z.2/\is=true:=by
     cases HF.out with
     |hit i hi h1 h2=>
      rcases (by omega:i<k∨i=k∨k<i)with h3|rfl|h3
      ·exact absurd (by rw [HZ.out];exact hza) (h2 k h3 (by omega))
      ·exact ⟨by rw [HZ.out],rfl⟩
      ·exact absurd h1 (HN.out i (by omega) hi)
     |miss h1=>exact absurd (by rw [HZ.out];exact hza) (h1 k (by omega))
    obtain ⟨rfl,rfl⟩:=hres
    clear hza
    go_wp2_with (first
     |(refine wpList_load_row rfl 114 (.tmp 2) rfl _ rfl 114 cs (0,0) _ hqr Tryz.underlying114 rfl hinf ?_)
     |(go_at_call 162;refine (cA _).mono ?_;rintro e w2 ⟨rfl,hb2⟩;have hq2:=hqr.below hb2 hqr.lt;have e0:=(hq2.cell (q*2)).trans a0;have e1:=(hq2.cell (q*2+1)).trans a1;have hB2:=step_below hBr hb2;clear hqr cA))
    go_ret2
    exact ⟨rfl,(step_below hB hB2).alloc (step_below hB hB2).size _⟩
   ·have hab:(z.1==a)=false:=by rw [beq_eq_false_iff_ne];exact hza
    have HA:=Lib.hid hza
    clear hza
    go_wp2_with (first
     |(refine wpList_load_row rfl 114 (.tmp 2) rfl _ rfl 114 cs (0,0) _ hqr Tryz.underlying114 rfl hinf ?_)
     |(go_at_call 162;refine (cA _).mono ?_;rintro e w2 ⟨rfl,hb2⟩;have hq2:=hqr.below hb2 hqr.lt;have e0:=(hq2.cell (q*2)).trans a0;have e1:=(hq2.cell (q*2+1)).trans a1;have hB2:=step_below hBr hb2;clear hqr cA))
    go_roundw
    case rel=>exact ⟨k,by omega,rfl,fun j h1 h2=>by
     rcases (by omega:j=k∨k+1<=j)with rfl|h3
     ·rw [HZ.out];exact HA.out
     ·exact HN.out j h3 h2,hB2.alloc hB2.size _⟩
    case measure=>simp [intOf]
end Go.Proofs.YtmhfpjnkjlhbpaaGreatDoor
