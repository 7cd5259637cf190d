/- trace.Of, as an iterator: its contract for every loop body that keeps old memory. trace.Outs: what a thread put out. A thread alone: what serves its laws (printed by gen/alone.py out of XSeqR, XSeqA). A machine with buffers (plain): the numbers that its events tell are words; how many events there are. -/
import Derived.RangeFuncNested
import Derived.RangeFuncBox
import Derived.RangeFuncBound
import Derived.RangeFuncCalls
import Derived.RangeFuncLeaves
import Derived.Shelf.Abstract
import Derived.Shelf.RegionOpen
import Derived.WalkKit
import Derived.OwnWalkIn
import Derived.TacticsInMore
import Derived.LoopNIn
import Derived.LoopIn
import Derived.Test.YtmhfpjnkjlhbpaaGreatDoorQd26
import Derived.Maps.AppendAt
import Derived.Laws.OwnMore
import Derived.Test.YtmhfpjnkjlhbpaaGreatDoorQd21
import Derived.Test.YtmhfpjnkjlhbpaaGreatDoorQd23
namespace Go.Proofs.YtmhfpjnkjlhbpaaGreatDoor
open Go.ChangeShapes Go.WideShapes Go.ChangeAt Go.RowKit Go.Shelf
set_option linter.unusedVariables false
set_option maxRecDepth 100000
set_option linter.unusedSimpArgs false
attribute [local go_sem] Oper.semAt_some
def evEnc (x:Nat×Ev):Array Value:= #[.int .i64 (x.1:Int),.agg #[.int .i64 x.2.kind,.int .i64 x.2.who,.int .i64 x.2.pc,.int .i64 x.2.addr,.int .u32 x.2.value,.int .u32 x.2.old,.int .u32 x.2.k,.bool x.2.ok]]
structure KpOf (n₀ Bt:Nat) (A B:World):Prop where
 below:Below n₀ A B
 keep: ∀o,A.heap[Bt]?=some o->B.heap[Bt]?=some o
theorem KpOf.refl (n₀ Bt:Nat) (A:World):KpOf n₀ Bt A A:=⟨Below.refl _ _,fun _ h=>h⟩
theorem KpOf.trans {n₀ Bt:Nat} {A B C:World} (h:KpOf n₀ Bt A B) (k:KpOf n₀ Bt B C):KpOf n₀ Bt A C:=⟨h.below.trans k.below,fun o ho=>k.keep o (h.keep o ho)⟩
theorem KpOf.of_below {n₀ Bt:Nat} {A B:World} (h:Below A.heap.size A B) (hn:n₀<=A.heap.size):KpOf n₀ Bt A B:=
 ⟨h.mono hn,fun o ho=>(h.block Bt (Array.getElem?_eq_some_iff.1 ho).1).trans ho⟩
theorem KpOf.of_grown {n₀ Bt:Nat} {A B:World} {row:Option Nat} (hg:A.grownBy B row) (hn:n₀<=A.heap.size) (hr: ∀r,row=some r->n₀<=r/\r≠Bt):KpOf n₀ Bt A B:=
 ⟨(Below.refl n₀ A).grown hg hn (fun k e=>(hr k e).1),fun o ho=>(hg.block Bt (Array.getElem?_eq_some_iff.1 ho).1 (fun e=>(hr Bt e.symm).2 rfl)).trans ho⟩
theorem kpOf_b {n₀ Bt:Nat} {w:World} (hn:n₀<=w.heap.size) (hB:Bt<w.heap.size) (W:World) (l:Nat) (o o':Obj) (hl:w.heap.size<=l) (h:W.heap[l]?=some o) (h1:o.isCells=false) (h2:o.isWalk=false):KpOf n₀ Bt W (W.putObj l o'):=
 KpOf.of_grown (grownBy_putObj' W l o') (by have :=(Array.getElem?_eq_some_iff.1 h).1;omega) (fun r e=>by cases e;exact ⟨by omega,by omega⟩)
def OfEnd (E:Nat->Ev) (t:Int) (len:Nat) (J Jx:List (Nat×Ev)->World->Prop) (e:Ending) (W':World):Prop:=(∃v,e= .returned v)/\((∃ys,ys=evs E t len/\J ys W')∨(∃pre,True/\Jx pre W'))
set_option maxRecDepth 100000 in
set_option maxHeartbeats 2000000 in
theorem of1_in (F:Fence) (n:Nat) (hFn:F.fn 109) (hro:F.round=none) (hn:1<=n) (l Bs Bt n₀ b off len cap:Nat) (E:Nat->Ev) (t:Int) (hl:len<=1000000000) (hb:b<n₀) (J Jx:List (Nat×Ev)->World->Prop) (W:World) (hn₀:n₀<=W.heap.size)
 (hJ:AbidesFrom W.heap.size J)
 (hY: ∀pre x W,J pre W->pre.length<len->YieldAt F (n-1) Tryz.prog l (evEnc x) W fun e W'=>
   (e= .returned (.bool true)/\J (pre++[x]) W'/\KpOf n₀ Bt W W')∨(e= .returned (.bool false)/\Jx (pre++[x]) W'))
 (hBs:W.cell? ⟨Bs,0,none⟩=some (.slice (some ⟨b,off,none⟩) len cap)) (ht:Blk W Bt 3 #[.int .i64 t]) (hc: ∀i,i<len-> ∀j u,(E i).cells[j]?=some u->W.cell? ⟨b,off+i*8+j,none⟩=some u) (h0:J [] W):
 CallsIn F n Tryz.prog 109 #[.func (.yield l) #[] #[], .pointer (some ⟨Bs, 0, none⟩), .pointer (some ⟨Bt, 0, none⟩)] W (OfEnd E t len J Jx) := by
 have hAl: ∀pre W1 o,J pre W1->J pre (W1.alloc o):=fun pre W1 o h=>hJ pre W1 _ none h (World.grownBy_alloc W1 o none) (fun r e=>by cases e)
 refine callsIn_of_wp Tryz.func109 rfl hFn ?_ hro
 simp only [Tryz.ntmps109,List.size_toArray,List.length_cons,List.length_nil,Nat.reduceAdd,Nat.reduceSub,Array.replicate_succ,Array.replicate_zero,List.push_toArray,List.append_toArray,List.nil_append,List.cons_append]
 gi_wp2
 gi_loopw [8] (fun i wr=> ∃k:Nat,k<=len/\i= .int .i64 k/\J (evs E t k) wr/\KpOf n₀ Bt W wr) (fun i _=>len-(intOf i).toNat)
 case atStart=>exact ⟨0,Nat.zero_le _,rfl,h0,KpOf.refl _ _ _⟩
 case round=>
  obtain ⟨k,hk,rfl,hJs,hnx⟩:=hrel
  by_cases hlt:k<len
  ·have hcx: ∀j u,(E k).cells[j]?=some u->wr.cell? ⟨b,off+k*8+j,none⟩=some u:=fun j u hu=>(hnx.below.cell (p:=⟨b,_,none⟩) hb).trans (hc k hlt j u hu)
   have htx:Blk wr Bt 3 #[.int .i64 t]:=hnx.keep _ ht
   have hlt':(k:Int)<(len:Int):=by omega
   obtain ⟨x,hx⟩: ∃x,E k=x:=⟨_,rfl⟩
   rw [hx]at hcx
   have c0:=hcx 0 _ rfl
   have c1:=hcx 1 _ rfl
   have c2:=hcx 2 _ rfl
   have c3:=hcx 3 _ rfl
   have c4:=hcx 4 _ rfl
   have c5:=hcx 5 _ rfl
   have c6:=hcx 6 _ rfl
   have c7:=hcx 7 _ rfl
   rw [Nat.add_zero]at c0
   clear hcx
   have hal:=(Below.refl wr.heap.size wr).alloc (Nat.le_refl _) (.cells #[.int .i64 x.kind,.int .i64 x.who,.int .i64 x.pc,.int .i64 x.addr,.int .u32 x.value,.int .u32 x.old,.int .u32 x.k,.bool x.ok] 65)
   have htz:(wr.alloc (.cells #[.int .i64 x.kind,.int .i64 x.who,.int .i64 x.pc,.int .i64 x.addr,.int .u32 x.value,.int .u32 x.old,.int .u32 x.k,.bool x.ok] 65)).cell? ⟨Bt,0,none⟩=some (.int .i64 t):=((htx.alloc _).cell 0).trans rfl
   have hJ1:=hAl _ wr (.cells #[.int .i64 x.kind,.int .i64 x.who,.int .i64 x.pc,.int .i64 x.addr,.int .u32 x.value,.int .u32 x.old,.int .u32 x.k,.bool x.ok] 65) hJs
   have hn1:KpOf n₀ Bt W (wr.alloc (.cells #[.int .i64 x.kind,.int .i64 x.who,.int .i64 x.pc,.int .i64 x.addr,.int .u32 x.value,.int .u32 x.old,.int .u32 x.k,.bool x.ok] 65)):=hnx.trans (KpOf.of_below hal (Nat.le_trans hn₀ hnx.below.size))
   have HX:=Lib.hid hx
   clear hx hal
   by_cases hw:x.who=t
   ·have hwb:(x.who==t)=true:=by simpa using hw
    have HW:=Lib.hid hw
    clear hw
    obtain ⟨fn,tmps,assign,body,hy,hR⟩:=hY _ (k,x) _ hJ1 (Nat.lt_of_le_of_lt (evs_len E t k) hlt)
    unfold evEnc at hy
    dsimp only at hy
    gi_wp2
    refine hR.mono ?_
    rintro e W3 (⟨rfl,hJ3,hk3⟩|⟨rfl,hJx3⟩)
    ·gi_wp2
     go_roundw
     case rel=>exact ⟨k+1,by omega,by go_num,by rw [evs_hit (by rw [HX.out];exact HW.out),HX.out];exact hJ3,hn1.trans hk3⟩
     case measure=>simp [intOf];omega
    ·gi_wp2
     refine bodyPost_ret (results_none rfl _ _ _) rfl ?_
     exact ⟨⟨_,rfl⟩,.inr ⟨_,trivial,hJx3⟩⟩
   ·have hwb:(x.who==t)=false:=by simpa using hw
    have HW:=Lib.hid hw
    clear hw
    gi_wp2
    refine ⟨fun _ h=>(by cases h),?_⟩
    gi_wp2
    go_roundw
    case rel=>exact ⟨k+1,by omega,by go_num,by rw [evs_miss (by rw [HX.out];exact HW.out)];exact hJ1,hn1⟩
    case measure=>simp [intOf];omega
  ·obtain rfl:k=len:=by omega
   have hlt': ¬(k:Int)<(k:Int):=by omega
   gi_wp2
   go_end0
   exact ⟨⟨_,rfl⟩,.inl ⟨_,rfl,hJs⟩⟩
theorem of_in (F:Fence) (n:Nat) (hFn:F.fn 66) (hro:F.round=none) (A:Option Addr) (len cap:Nat) (t:Int) (w:World):
 CallsIn F n Tryz.prog 66 #[.slice A len cap, .int .i64 t] w fun e w' => e = .returned (.func (.func 109) #[] #[.pointer (some ⟨w.heap.size, 0, none⟩), .pointer (some ⟨w.heap.size + 1, 0, none⟩)]) /\
  w'=(w.alloc (.cells #[.slice A len cap] 40)).alloc (.cells #[.int .i64 t] 3):=by
 refine callsIn_of_wp Tryz.func66 rfl hFn ?_ hro
 simp only [Tryz.ntmps66,List.size_toArray,List.length_cons,List.length_nil,Nat.reduceAdd,Nat.reduceSub,Array.replicate_succ,Array.replicate_zero,List.push_toArray,List.append_toArray,List.nil_append,List.cons_append]
 gi_wp2
 go_ret
 exact ⟨rfl,rfl⟩
set_option maxRecDepth 100000 in
set_option maxHeartbeats 1000000 in
theorem of1_nil_in (F:Fence) (n:Nat) (hFn:F.fn 109) (hro:F.round=none) (l Bs Bt cap:Nat) (A:Option Addr) (E:Nat->Ev) (t:Int) (J Jx:List (Nat×Ev)->World->Prop) (W:World)
 (hBs:W.cell? ⟨Bs,0,none⟩=some (.slice A 0 cap)) (h0:J [] W):
 CallsIn F n Tryz.prog 109 #[.func (.yield l) #[] #[], .pointer (some ⟨Bs, 0, none⟩), .pointer (some ⟨Bt, 0, none⟩)] W (OfEnd E t 0 J Jx) := by
 refine callsIn_of_wp Tryz.func109 rfl hFn ?_ hro
 simp only [Tryz.ntmps109,List.size_toArray,List.length_cons,List.length_nil,Nat.reduceAdd,Nat.reduceSub,Array.replicate_succ,Array.replicate_zero,List.push_toArray,List.append_toArray,List.nil_append,List.cons_append]
 gi_wp2
 gi_loopw [8] (fun i wr=>i= .int .i64 0/\J [] wr) (fun _ _=>0)
 case atStart=>exact ⟨rfl,h0⟩
 case round=>
  obtain ⟨rfl,hJs⟩:=hrel
  gi_wp2
  go_end0
  exact ⟨⟨_,rfl⟩,.inl ⟨_,rfl,hJs⟩⟩
theorem of_stops (F:Fence) (n:Nat) (hFn:F.fn 109) (hro:F.round=none) (hn:1<=n) (Bs Bt n₀:Nat) (A:Option Addr) (len cap:Nat) (E:Nat->Ev) (t:Int) (hl:len<=1000000000) (w:World) (hBs:Bs<w.heap.size) (hn₀:n₀<=w.heap.size)
 (hc:w.cell? ⟨Bs,0,none⟩=some (.slice A len cap)) (ht:Blk w Bt 3 #[.int .i64 t]) (hb:0<len-> ∀b off,A=some ⟨b,off,none⟩->b<n₀) (hs:SlE w A len 8 (fun i=>(E i).cells)):
 SeqStopsK F n Tryz.prog 109 #[.pointer (some ⟨Bs,0,none⟩),.pointer (some ⟨Bt,0,none⟩)] evEnc (KpOf n₀ Bt) (fun ys=>ys=evs E t len) (fun _=>True) len w:=fun l J Jx W hW hJ _ hY h0=>by
 have hc':=(hW.cell (p:=⟨Bs,0,none⟩) hBs).trans hc
 have ht':=ht.below hW ht.lt
 rcases Nat.eq_zero_or_pos len with rfl|hp
 ·exact of1_nil_in F n hFn hro l Bs Bt cap A E t J Jx W hc' h0
 ·obtain ⟨b,off,rfl,hlt,hcc⟩:=hs hp
  exact of1_in F n hFn hro hn l Bs Bt n₀ b off len cap E t hl (hb hp b off rfl) J Jx W (Nat.le_trans hn₀ hW.size) hJ hY hc' ht' (fun i hi j u hu=>(hW.cell (p:=⟨b,_,none⟩) hlt).trans (hcc i hi j u hu)) h0
end Go.Proofs.YtmhfpjnkjlhbpaaGreatDoor
namespace Go.Proofs.YtmhfpjnkjlhbpaaGreatDoor
open Go.ChangeShapes Go.WideShapes Go.ChangeAt Go.RowKit Go.Shelf
set_option linter.unusedVariables false
set_option maxRecDepth 100000
set_option linter.unusedSimpArgs false
attribute [local go_sem] Oper.semAt_some
theorem u32_info:(Tryz.prog.info? 42).map (fun i=>(i.zero,i.size,i.bytes))=some (some (.int .u32 0),1,4):=by kernel_rfl
def oL (pre:List (Nat×Ev)):List Int:=(pre.filter fun x=>x.2.kind==6).map fun x=>x.2.value
theorem oL_hit (pre:List (Nat×Ev)) {x:Nat×Ev} (h:x.2.kind=6):oL (pre++[x])=oL pre++[x.2.value]:=by
 unfold oL
 rw [List.filter_append,List.map_append,List.filter_cons_of_pos (p:=fun x:Nat×Ev=>x.2.kind==6) (by simpa using h)]
 rfl
theorem oL_miss (pre:List (Nat×Ev)) {x:Nat×Ev} (h:x.2.kind≠6):oL (pre++[x])=oL pre:=by
 unfold oL
 rw [List.filter_append,List.map_append,List.filter_cons_of_neg (p:=fun x:Nat×Ev=>x.2.kind==6) (by simpa using h)]
 simp
theorem oL_len (pre:List (Nat×Ev)):(oL pre).length<=pre.length:=by
 unfold oL
 rw [List.length_map]
 exact List.length_filter_le _ _
theorem blk_kept {X Y:World} {B:Nat} {t:TypeId} {cs:Array Value} {row:Option Nat} (h:Blk X B t cs) (hg:X.grownBy Y row) (hr: ∀r,row=some r-> ∃o:Obj,X.heap[r]?=some o/\o.isCells=false):Blk Y B t cs:=
 h.grown hg (fun e=>by
  obtain ⟨o,ho,hc⟩:=hr B e.symm
  unfold Blk at h
  rw [h]at ho
  cases ho
  cases hc)
def tvArr (x:Ev):Array Value:= #[.int .i64 x.kind,.int .i64 x.who,.int .i64 x.pc,.int .i64 x.addr,.int .u32 x.value,.int .u32 x.old,.int .u32 x.k,.bool x.ok]
set_option maxRecDepth 100000 in
set_option maxHeartbeats 2000000 in
theorem outs_in (F:Fence) (n:Nat) (h1':F.fn 30) (h2':F.fn 66) (h3':F.fn 109) (hro:F.round=none) (hn:3<=n) (A:Option Addr) (len cap:Nat) (E:Nat->Ev) (t:Int) (hl:len<=1000000000) (w:World) (hs:SlE w A len 8 (fun i=>(E i).cells)):
 CallsIn F n Tryz.prog 30 #[.slice A len cap,.int .i64 t] w fun e W'=> ∃v,e= .returned v/\W'.ownsRow w.heap.size 42 1 v (oL (evs E t len)).length ((oL (evs E t len)).map (Value.int .u32))/\Below w.heap.size w W':=by
 have h1:1<=n:=by omega
 obtain ⟨i0,hi,hz0,hz1,hz2⟩:=info_parts u32_info
 refine callsIn_of_wp_marks Tryz.func30 rfl h1' ?_ hro
 simp only [Tryz.ntmps30,List.size_toArray,List.length_cons,List.length_nil,Nat.reduceAdd,Nat.reduceSub,Array.replicate_succ,Array.replicate_zero,List.push_toArray,List.append_toArray,List.nil_append,List.cons_append]
 gi_wp2_with (gi_at_call 66;refine (of_in F (n-1) h2' hro _ _ _ _ _).mono ?_;rintro e w' ⟨rfl,rfl⟩)
 have bO:=Boxed.new w 27 (.slice none 0 0)
 have bS:=Boxed.new (w.alloc (.cells #[.slice none 0 0] 27)) 40 (.slice A len cap)
 have bT:=Boxed.new ((w.alloc (.cells #[.slice none 0 0] 27)).alloc (.cells #[.slice A len cap] 40)) 3 (.int .i64 t)
 rw [World.size_alloc]at bS bT
 rw [World.size_alloc]at bT
 have hB0:Below w.heap.size w (((w.alloc (.cells #[.slice none 0 0] 27)).alloc (.cells #[.slice A len cap] 40)).alloc (.cells #[.int .i64 t] 3)):=(((Below.refl _ w).alloc (Nat.le_refl _) _).alloc (by simp) _).alloc (by simp;omega) _
 have hsz:(((w.alloc (.cells #[.slice none 0 0] 27)).alloc (.cells #[.slice A len cap] 40)).alloc (.cells #[.int .i64 t] 3)).heap.size=w.heap.size+3:=by simp
 have bO2:=(bO.alloc (.cells #[.slice A len cap] 40)).alloc (.cells #[.int .i64 t] 3)
 have bS2:=bS.alloc (.cells #[.int .i64 t] 3)
 obtain ⟨W0,hW0⟩: ∃W0,((w.alloc (.cells #[.slice none 0 0] 27)).alloc (.cells #[.slice A len cap] 40)).alloc (.cells #[.int .i64 t] 3)=W0:=⟨_,rfl⟩
 rw [hW0]at bO2 bS2 bT hB0 hsz⊢
 clear hW0 bO bS
 have hbA:0<len-> ∀b off,A=some ⟨b,off,none⟩->b<w.heap.size:=fun hp b off e=>by
  obtain ⟨b',off',e',hlt,_⟩:=hs hp
  rw [e]at e'
  injection e' with e'
  injection e' with e1 _
  omega
 refine wpIn_rangeFunc_ownH hro h1 (gf:=109) (lb:= #[.pointer (some ⟨w.heap.size+1,0,none⟩),.pointer (some ⟨w.heap.size+1+1,0,none⟩)]) rfl h3' (enters_of Tryz.func109 (by kernel_rfl) rfl)
  (of_stops F (n-1) h3' hro (by omega) (w.heap.size+1) (w.heap.size+1+1) w.heap.size A len cap E t hl W0 (by omega) (by omega) bS2.cell bT hbA (SlE.step hs hB0)) KpOf.trans (kpOf_b (by omega) (by omega)) (Below.refl _ _) (fun _=>rfl)
  (fun pre W=>((∃v,Boxed W w.heap.size 27 v/\W.ownsRow w.heap.size 42 1 v (oL pre).length ((oL pre).map (Value.int .u32))/\True)/\Boxed W (w.heap.size+1+1) 3 (.int .i64 t))/\Below w.heap.size w W)
  (fun _ _ _=>False)
  (OwnFrom.and (OwnFrom.and (Own.from (holdsRow_own w.heap.size w.heap.size 27 42 1 (fun pre=>(oL pre).length) (fun pre=>(oL pre).map (Value.int .u32)) (fun pre v=>True)) _) (Own.from (boxed_own _ _ _) _)) (ownFrom_below (Nat.le_refl _) (by omega)))
  (fun _ _ _ _ _ hs _ _=>hs)
  ⟨⟨⟨_,bO2,World.ownsRow_nil _ _ _ _,trivial⟩,bT⟩,hB0⟩
  (fun x a' W => ∃ Bx, w.heap.size + 1 + 1 < Bx /\ Blk W Bx 65 (tvArr x.2) /\ a' = { tmps := #[.slice A len cap, .int .i64 t, undef, undef, .slice none 0 0, .pointer (some ⟨w.heap.size, 0, none⟩), undef, .pointer (some ⟨Bx, 0, none⟩), .slice A len cap, .int .i64 t, .func (.func 109) #[] #[.pointer (some ⟨w.heap.size + 1, 0, none⟩), .pointer (some ⟨w.heap.size + 1 + 1, 0, none⟩)], .int .i64 (x.1 : Int), .agg #[.int .i64 x.2.kind, .int .i64 x.2.who, .int .i64 x.2.pc, .int .i64 x.2.addr, .int .u32 x.2.value, .int .u32 x.2.old, .int .u32 x.2.k, .bool x.2.ok], undef, undef, undef, undef, undef, undef, undef, undef, undef], defers := [] })
  (fun x a' _ X Y row hs hg hr=>by obtain ⟨Bx,h1,h2,h3⟩:=hs;exact ⟨Bx,h1,blk_kept h2 hg (fun r e=>(hr r e).2),h3⟩)
  ?assign ?body ?done ?stop
 case assign=>
  rintro l pre x W K ⟨⟨⟨v,hv,hrow,_⟩,bT1⟩,hB1⟩ hK
  unfold evEnc
  gi_wp2
  exact hK _ _ ((KeepsOthers.alloc _ _).from _) (KpOf.of_below ((Below.refl _ W).alloc (Nat.le_refl _) _) hB1.size) ⟨⟨⟨v,hv.alloc _,hrow.alloc _,trivial⟩,bT1.alloc _⟩,hB1.alloc hB1.size _⟩ ⟨W.heap.size,bT1.lt,Blk.new W _ _,rfl⟩
 case body=>
  rintro l pre x a' W hl9 ⟨r,hr⟩ ⟨⟨⟨v,hv,hrow,_⟩,bT1⟩,hB1⟩ ⟨Bx,hBx,bX,rfl⟩ hlt
  have hc:=hv.cell
  have x0:=bX.cell 0
  have x4:=bX.cell 4
  simp only [tvArr,List.getElem?_toArray,List.getElem?_cons_zero,List.getElem?_cons_succ]at x0 x4
  have hpl:=oL_len pre
  have hxlt:=bX.lt
  by_cases hk:x.2.kind=6
  ·have hkb:(x.2.kind==6)=true:=by simpa using hk
   have hL:=oL_hit pre hk
   have HL:=Lib.hid hL
   clear hk hL
   gi_wp2_with (gi_at_builtin;refine wpListIn_append_own _ rfl _ _ 27 rfl w.heap.size 42 i0 (.int .u32 0) 1 4 Tryz.underlying27 hi hz0 hz1 hz2 rfl (by decide) _ _ _ rfl (hrow.alloc _) ⟨W.heap.size,0,none⟩ 1 1 [.int .u32 x.2.value] rfl rfl (cell_one_new _ _ _) (by simp [Value.oneCell']) (by unfold maxLen;omega) (by omega) (by have :=hB1.size;simp;omega) ?_;intro v' w1 hown' hgrow _;obtain ⟨g',cap',rfl⟩:=ownsRow_succ hown';obtain ⟨hv1,hv2,hr2,hk2,hb2⟩:=hv.appended (by decide) hrow hB1.size (Nat.le_refl _) hown' hgrow;have hc1:=hv1.cell;have hf1:=hv1.frozen)
   have bT2:=((bT1.alloc (.cells [Value.int .u32 x.2.value].toArray 42)).kept hgrow (bT1.not_row (by decide) hrow)).other (B':=w.heap.size) (by omega) (Value.slice (some ⟨g',0,none⟩) ((oL pre).length+1) cap')
   have hKp:KpOf w.heap.size (w.heap.size+1+1) W (w1.setCell ⟨w.heap.size,0,none⟩ (Value.slice (some ⟨g',0,none⟩) ((oL pre).length+1) cap')):=⟨hb2,fun o ho=>by
    have e:=bT1.symm.trans ho
    rw [<-Option.some.inj e]
    exact bT2⟩
   refine ⟨hk2.from _,hKp,⟨⟨_,hv2,?_,trivial⟩,bT2⟩,hB1.trans hb2⟩
   rw [HL.out,List.length_append,List.map_append]
   exact hr2
  ·have hkb:(x.2.kind==6)=false:=by simpa using hk
   have hL:=oL_miss pre hk
   have HL:=Lib.hid hL
   clear hk hL
   gi_wp2
   exact ⟨KeepsFrom.refl _ _,KpOf.refl _ _ _,⟨⟨v,hv,by rw [HL.out];exact hrow,trivial⟩,bT1⟩,hB1⟩
 case done=>
  rintro D ys W hD rfl ⟨⟨⟨v,hv,hrow,_⟩,bT1⟩,hB⟩ hK
  have hc:=hv.cell
  gi_wp2
  refine ⟨by simp,.inl ⟨_,_,rfl,run_takeDeferred hK,?_⟩⟩
  exact ⟨_,results_tmp rfl _ _ _,v,rfl,ownsRow_putObj hrow _ hK rfl,hB.trans (belowK_b (w:=w) (Nat.le_refl _) W D _ _ (by omega) hK rfl rfl)⟩
 case stop=>
  rintro D c pre W _ _ h _
  exact h.elim
theorem outs_any (A:Option Addr) (len cap:Nat) (E:Nat->Ev) (t:Int) (hl:len<=1000000000) (w:World) (hs:SlE w A len 8 (fun i=>(E i).cells)):
 Calls Tryz.prog 30 #[.slice A len cap,.int .i64 t] w fun e W'=> ∃v,e= .returned v/\W'.ownsRow w.heap.size 42 1 v (oL (evs E t len)).length ((oL (evs E t len)).map (Value.int .u32))/\Below w.heap.size w W':=
 (callsIn_wide (n:=3)).1 (outs_in Fence.wide 3 trivial trivial trivial rfl (by omega) A len cap E t hl w hs)
end Go.Proofs.YtmhfpjnkjlhbpaaGreatDoor
namespace Go.Proofs.YtmhfpjnkjlhbpaaGreatDoor
open Go.ChangeShapes Go.WideShapes Go.ChangeAt Go.RowKit Go.Deep
set_option linter.unusedVariables false
set_option maxRecDepth 100000
set_option linter.unusedSimpArgs false
def outsP (l:List Evt):List Int:=(l.filter fun x=>x.who==0&&x.kind==6).map fun x=>x.value
def aB (l:List Ins) (room:Int) (m:Nat):MB:=⟨0,[⟨none,l.length,0,fun i=>l.getD i default⟩],room,m⟩
def aS (m:Nat):Mst:=⟨[tha],[[]],List.replicate m 0,[],[],0⟩
def okB (x:Ins):Bool:=decide (0<=x.op/\x.op<=100/\0<=x.a/\x.a<=100/\0<=x.b/\x.b<=100/\0<=x.c/\x.c<=100/\0<=x.k/\x.k<=4294967295)
theorem okB_ok {x:Ins} (h:okB x=true):x.Ok:=by
 unfold okB at h
 have h:=of_decide_eq_true h
 obtain ⟨op,a,b,c,k⟩:=x
 exact insOk ⟨⟨h.1,h.2.1⟩,⟨h.2.2.1,h.2.2.2.1⟩,⟨h.2.2.2.2.1,h.2.2.2.2.2.1⟩,⟨h.2.2.2.2.2.2.1,h.2.2.2.2.2.2.2.1⟩,h.2.2.2.2.2.2.2.2⟩
theorem movedI_ok {q:Ins} (h:q.Ok) (z:Int):(movedI z q).Ok:=by
 unfold movedI
 split
 ·exact ⟨h.op0,h.op1,h.a0,h.a1,h.b0,h.b1,h.c0,h.c1,by show 0<=aluF 3 q.k z;unfold aluF;rw [if_pos rfl];omega,by show aluF 3 q.k z<=4294967295;unfold aluF;rw [if_pos rfl];omega⟩
 ·exact h
theorem out_ok {a:Int} (ha:0<=a/\a<=100):(⟨22,a,0,0,0⟩:Ins).Ok:=insOk ⟨⟨by decide,by decide⟩,ha,⟨by decide,by decide⟩,⟨by decide,by decide⟩,by decide,by decide⟩
theorem sl_ins {W:World} {g cap:Nat} {cs:Array Value} {l:List Ins} (hb:Blk W g 75 cs) (h: ∀i,i<l.length->InsAt cs i (l.getD i default)):Sl W (some ⟨g,0,none⟩) (l.length*5) (fun k=>(l.flatMap Ins.cells).getD k undef):=fun hpos=>by
 refine ⟨g,0,rfl,hb.lt,fun k hk=>?_⟩
 have hi:k/5<l.length:=by omega
 have hj:k % 5<5:=by omega
 have e:=flat_get Ins.cells 5 (fun _=>rfl) default l (k/5) hi (k % 5) hj
 rw [show k/5*5+k % 5=k by omega]at e
 have hlt:k % 5<((l.getD (k/5) default).cells).length:=hj
 rw [List.getElem?_eq_getElem hlt]at e
 have :=h (k/5) hi (k % 5) _ (List.getElem?_eq_getElem hlt)
 rw [show k/5*5+k % 5=k by omega]at this
 rw [Nat.zero_add,hb.cell,this]
 have e2:(l.flatMap Ins.cells).getD k undef=((l.getD (k/5) default).cells)[k % 5]:=by rw [List.getD_eq_getElem?_getD,e];rfl
 exact congrArg some e2.symm
theorem ins_cells_one (l:List Ins): ∀k,k<l.length*5->((l.flatMap Ins.cells).getD k undef).oneCell'=true:=fun k hk=>by
 have hj:k % 5<5:=by omega
 have e:=flat_get Ins.cells 5 (fun _=>rfl) default l (k/5) (by omega) (k % 5) hj
 rw [show k/5*5+k % 5=k by omega]at e
 rw [List.getD_eq_getElem?_getD,e]
 have :k % 5=0∨k % 5=1∨k % 5=2∨k % 5=3∨k % 5=4:=by omega
 rcases this with h|h|h|h|h<;>rw [h]<;>rfl
theorem wpList_append_ins {w:World} {ops:Array Oper} {rest:List Oper} {o:Oper} {a:Act} {Q:Exit->Act->World->Prop} (hgd:o.guard=none) (s x:Operand)
 (ho:o.op= .call {callee:= .builtin .append,args:= #[s,x],argTypes:= #[50,50]}) (base:Nat) (v:Value) (l l2:List Ins) (hs:a.eval s=v) (hown:w.ownsRow base 75 5 v l.length (l.flatMap Ins.cells))
 (A:Option Addr) (c:Nat) (hx:a.eval x= .slice A l2.length c) (hr:Sl w A (l2.length*5) (fun k=>(l2.flatMap Ins.cells).getD k undef)) (hb:l.length+l2.length<=1000000) (hbase:base<=w.heap.size)
 (h: ∀A' c' w',w'.ownsRow base 75 5 (.slice A' (l++l2).length c') (l++l2).length ((l++l2).flatMap Ins.cells)->w.grownBy w' v.ownBlock->Below base w w'->wpList Tryz.prog ops Q rest (a.put o.dst (.slice A' (l++l2).length c')) w'):wpList Tryz.prog ops Q (o::rest) a w:=by
 obtain ⟨i0,hi,hy0,hy1,hy2⟩:=info_parts insB_info5
 refine wpList_append_sl w hgd s x 50 ho base 75 i0 _ 5 40 Tryz.underlying50 hi hy0 hy1 hy2 rfl (by omega) v l.length _ hs hown A l2.length c (fun k=>(l2.flatMap Ins.cells).getD k undef) hx hr (ins_cells_one l2) (by unfold maxLen;omega) (by omega) hbase ?_
 intro v' w' h1 h2 _
 have hl2:(l2.flatMap Ins.cells).length=l2.length*5:=by
  clear hr hb hx h h1 h2
  induction l2 with
  |nil=>rfl
  |cons y l2 ih=>rw [List.flatMap_cons,List.length_append,ih];show 5+_=_;rw [List.length_cons];omega
 rw [range_getD _ _ hl2,<-List.flatMap_append]at h1
 have hw:=below_of_grown hbase h2 fun g e=>(own_in hown g e).1
 rw [show l.length+l2.length=(l++l2).length from by simp]at h1
 obtain ⟨A',c',rfl,_,_⟩:=own_cap h1
 exact h A' c' w' h1 h2 hw
theorem sle_ins {W:World} {g:Nat} {cs:Array Value} {l:List Ins} (hb:Blk W g 75 cs) (h: ∀i,i<l.length->InsAt cs i (l.getD i default)):SlE W (some ⟨g,0,none⟩) l.length 5 (fun i=>(l.getD i default).cells):=fun hpos=>
 ⟨g,0,rfl,hb.lt,fun i hi j u hu=>by rw [hb.cell,Nat.zero_add];exact h i hi j u hu⟩
theorem sl_one (W:World) (x:Ins):Sl (W.alloc (.cells x.cells.toArray 75)) (some ⟨W.heap.size,0,none⟩) ([x].length*5) (fun k=>([x].flatMap Ins.cells).getD k undef):=
 sl_ins (cap:=0) (Blk.new _ _ _) fun i hi j u hu=>by
  obtain rfl:i=0:=by simp at hi;omega
  rw [Nat.zero_mul,Nat.zero_add]
  simpa using hu
theorem own_re {W:World} {b s n k m c:Nat} {e:TypeId} {A:Option Addr} {xs:List Value} (h:W.ownsRow b e s (.slice A n c) m xs) (hn:n=k):W.ownsRow b e s (.slice A k c) m xs:=hn▸h
theorem tOps_same {B D:MB} (hm:B.m=D.m) (hr:B.room=D.room) (t:Nat):tOps B t=tOps D t:=by unfold tOps;rw [hm,hr]
theorem stepR_same {σ:Type} (O:Ops σ) (s:σ) (t:Th) (c d:Cd) (hl:c.len=d.len) (hF:c.F=d.F):stepR O s t c=stepR O s t d:=by unfold stepR;rw [hl,hF]
theorem tPick_same {B D:MB} (hm:B.m=D.m) (hr:B.room=D.room) (hc: ∀t,(B.codes.getD t cdd).len=(D.codes.getD t cdd).len/\(B.codes.getD t cdd).F=(D.codes.getD t cdd).F) (s:Mst) (x:Int×Int):tPick B s x=tPick D s x:=by
 unfold tPick tStep
 rw [tOps_same hm hr,stepR_same _ _ _ _ _ (hc _).1 (hc _).2]
theorem tRun_same {B D:MB} (hm:B.m=D.m) (hr:B.room=D.room) (hc: ∀t,(B.codes.getD t cdd).len=(D.codes.getD t cdd).len/\(B.codes.getD t cdd).F=(D.codes.getD t cdd).F) (l:List (Int×Int)): ∀s,tRun B s l=tRun D s l:=by
 induction l with
 |nil=>intro s;rfl
 |cons x l ih=>intro s;show tRun B (tPick B s x) l=tRun D (tPick D s x) l;rw [ih,tPick_same hm hr hc]
theorem words_infoA:(Tryz.prog.info? 42).map (fun i=>(i.zero,i.size,i.bytes))=some (some (.int .u32 0),1,4):=by kernel_rfl
theorem makeW (m:Nat) (hm:m<=1000) (w:World):(Instr.makeSlice 27 (.int .i64 (m:Int)) (.int .i64 (m:Int))).run Tryz.prog w= .ok (.slice (some ⟨w.heap.size,0,none⟩) m m) (w.alloc (.cells (List.replicate m (Value.int .u32 0)).toArray 42)):=by
 obtain ⟨i,hi,hz,hs,hb⟩:=info_parts words_infoA
 have hr:=run_make (P:=Tryz.prog) w 27 42 i _ Tryz.underlying27 hi hz .i64 .i64 m m (by omega) (by omega) (by rw [hb];omega) (by omega)
 rw [hs]at hr
 simp only [Int.toNat_natCast,Nat.mul_one]at hr
 have e:madeCells (Value.int .u32 0).cells m=(List.replicate m (Value.int .u32 0)).toArray:=by
  exact Array.ext' (toList_madeCells_one _ _)
 rw [e]at hr
 exact hr
def aPg (a b:Nat) (A:Option Addr) (c:Nat) (l:List Ins) (room:Int) (m:Nat):Pg:=⟨some ⟨a,0,none⟩,1,1,fun _=>⟨A,l.length,c,fun i=>l.getD i default⟩,some ⟨b,0,none⟩,m,m,fun _=>0,room⟩
theorem aPg_ok (l:List Ins) (room:Int) (m:Nat) (hr:1<=room/\room<=16) (hm:m<=1024) (h1: ∀x∈l,x.Ok) (h2:l.length<=4000) (h3:(l.all fun i=>rightB i (l.length:Int))=true) (base c:Nat) (A:Option Addr) (W:World) (own:W.ownsRow base 75 5 (.slice A l.length c) l.length (l.flatMap Ins.cells)):
 (aPg W.heap.size (W.heap.size+1) A c l room m).Ok/\Chk (aPg W.heap.size (W.heap.size+1) A c l room m) (0:Int) (0:Int) 0/\
   (aPg W.heap.size (W.heap.size+1) A c l room m).At ((W.alloc (.cells #[.slice A l.length c] 50)).alloc (.cells (List.replicate m (Value.int .u32 0)).toArray 42)):=by
 have hget: ∀i,i<l.length->l.getD i default∈l:=fun i hi=>by rw [List.getD_eq_getElem?_getD,List.getElem?_eq_getElem hi];exact List.getElem_mem hi
 obtain ⟨A',cap',e,hle,hsl⟩:=own_sle Ins.cells (fun _=>rfl) default l own
 obtain ⟨_,_,e2,hc1,hc2⟩:=own_cap own
 simp only [Value.slice.injEq]at e e2
 obtain ⟨rfl,_,rfl⟩:=e
 obtain ⟨_,_,rfl⟩:=e2
 have hO:(⟨A,l.length,c,fun i=>l.getD i default⟩:Cd).Ok:=⟨hc1,hc2,fun i hi=>h1 _ (hget i hi)⟩
 have hmm:m<=maxLen:=by unfold maxLen;omega
 refine ⟨⟨Nat.le_refl 1,(by decide:(1:Nat)<=maxLen),Nat.le_refl m,hmm,fun _ _=>hO,fun _ _=>(by decide:(0:Int)<=0/\(0:Int)<=4294967295),(by show-9223372036854775808<=room;omega),(by show room<=9223372036854775807;omega)⟩,.fine (by decide:1<=1) (by decide:1<=8) hr.1 hr.2 hm fun s _=>⟨h2,fun j hj=>List.all_eq_true.1 h3 _ (hget j hj)⟩,?_⟩
 have hb:=(Below.refl W.heap.size W).alloc (Nat.le_refl _) (.cells #[.slice A l.length c] 50)
 have hb2:=hb.alloc hb.size (.cells (List.replicate m (Value.int .u32 0)).toArray 42)
 have b1:=(Blk.new W 50 #[.slice A l.length c]).alloc (.cells (List.replicate m (Value.int .u32 0)).toArray 42)
 have b2:=Blk.new2 W (.cells #[.slice A l.length c] 50) 42 (List.replicate m (Value.int .u32 0)).toArray
 refine ⟨fun _=>⟨_,0,rfl,b1.lt,fun i hi=>?_⟩,fun t _=>SlE.step hsl hb2,fun _=>⟨_,0,rfl,b2.lt,fun i hi=>?_⟩⟩
 ·obtain rfl:i=0:=by have :i<1:=hi;omega
  exact (b1.cell 0).trans rfl
 ·have hi:i<m:=hi
  rw [Nat.zero_add,b2.cell]
  show (List.replicate m (Value.int .u32 0)).toArray[i]?=some (.int .u32 0)
  simp only [List.getElem?_toArray,List.getElem?_replicate,if_pos hi]
theorem aStart (a b c:Nat) (A:Option Addr) (l:List Ins) (room:Int) (m:Nat):t0 (aPg a b A c l room m)=aS m:=by
 have e:(List.range m).map (fun _:Nat=>(0:Int))=List.replicate m 0:=by
  induction m with
  |zero=>rfl
  |succ m ih=>rw [List.range_succ,List.map_append,ih,List.replicate_succ'];rfl
 show (⟨List.replicate 1 tha,List.replicate 1 [],(List.range m).map fun _=>0,[],[],0⟩:Mst)=aS m
 rw [e];rfl
theorem aSame {l:List Ins} {room:Int} {m a b c:Nat} {A:Option Addr} {B:MB} (h:NewM (aPg a b A c l room m) B) (hr:B.room=room) (ps:List (Int×Int)):
 tRun B (t0 (aPg a b A c l room m)) ps=tRun (aB l room m) (aS m) ps:=by
 rw [aStart,tRun_same (D:=aB l room m) h.m hr (fun t=>?_)]
 rcases Nat.lt_or_ge t 1 with ht|ht
 ·obtain rfl:t=0:=by omega
  have :=h.cd 0 (show 0<1 by decide)
  exact ⟨this.1,this.2.1⟩
 ·have e1:B.codes.getD t cdd=cdd:=by rw [List.getD_eq_getElem?_getD,List.getElem?_eq_none (by rw [h.n];exact ht)];rfl
  have e2:(aB l room m).codes.getD t cdd=cdd:=by rw [List.getD_eq_getElem?_getD,List.getElem?_eq_none (by exact ht)];rfl
  rw [e1,e2];exact ⟨rfl,rfl⟩
def toEv (x:Evt):Ev:=⟨x.kind,x.who,x.pc,x.addr,x.value,x.old,x.k,x.ok⟩
def ev0:Evt:=⟨0,0,0,0,0,0,0,false⟩
theorem oL_evs (l:List Evt) (t:Int):oL (evs (fun i=>toEv (l.getD i ev0)) t l.length)=(l.filter fun x=>x.who==t&&x.kind==6).map fun x=>x.value:=by
 have : ∀k,k<=l.length->oL (evs (fun i=>toEv (l.getD i ev0)) t k)=((l.take k).filter fun x=>x.who==t&&x.kind==6).map fun x=>x.value:=by
  intro k hk
  induction k with
  |zero=>rfl
  |succ k ih=>
   have ih:=ih (by omega)
   unfold oL evs at ih⊢
   rw [List.range_succ,List.map_append,List.filter_append,List.filter_append,List.map_append,ih,List.take_add_one,List.getElem?_eq_getElem (show k<l.length by omega),List.filter_append,List.map_append]
   congr 1
   have e:l.getD k ev0=l[k]:=by simp [List.getD_eq_getElem?_getD,List.getElem?_eq_getElem (show k<l.length by omega)]
   simp only [List.map_cons,List.map_nil,e,Option.toList_some]
   generalize l[k]=x
   unfold toEv
   by_cases c1:x.who==t<;>by_cases c2:x.kind==6<;>simp [c1,c2]
 have h:=this l.length (Nat.le_refl _)
 rw [List.take_length]at h
 exact h
def cAdd (C:Nat->List Ins) (l:List Ins) (call:Nat):List Ins:=l++(C call).map (movedI (l.length:Int))++[⟨22,7,0,0,0⟩]
def cTo (C:Nat->List Ins) (cs:List Nat) (k:Nat):List Ins:=(cs.take k).foldl (cAdd C) []
def cAll (C:Nat->List Ins) (cs:List Nat):List Ins:=cs.foldl (cAdd C) []
theorem cTo_all (C:Nat->List Ins) (cs:List Nat):cTo C cs cs.length=cAll C cs:=by unfold cTo cAll;rw [List.take_length]
theorem cTo_succ (C:Nat->List Ins) (cs:List Nat) (k:Nat) (hk:k<cs.length):cTo C cs (k+1)=cAdd C (cTo C cs k) (cs.getD k 0):=by
 unfold cTo
 rw [List.take_add_one,List.foldl_append,List.getElem?_eq_getElem hk]
 simp [List.getD,List.getElem?_eq_getElem hk]
theorem cs_in (cs:List Nat) (k:Nat) (hk:k<cs.length):cs.getD k 0∈cs:=by rw [List.getD_eq_getElem?_getD,List.getElem?_eq_getElem hk];exact List.getElem_mem hk
def CGood (C:Nat->List Ins) (cs:List Nat):Prop:= ∀c∈cs,((C c).all okB&&decide ((C c).length<=60))=true
theorem cTo_ok {C:Nat->List Ins} {cs:List Nat} (h:CGood C cs): ∀k,k<=cs.length->(∀x∈cTo C cs k,x.Ok)/\(cTo C cs k).length<=61*k:=by
 intro k hk
 induction k with
 |zero=>exact ⟨fun x hx=>(by cases hx),Nat.le_refl _⟩
 |succ k ih=>
  obtain ⟨i1,i2⟩:=ih (by omega)
  rw [cTo_succ C cs k (by omega)]
  have hg:=h _ (cs_in cs k (by omega))
  simp only [Bool.and_eq_true,decide_eq_true_eq,List.all_eq_true]at hg
  unfold cAdd
  refine ⟨fun x hx=>?_,by simp only [List.length_append,List.length_map,List.length_cons,List.length_nil];omega⟩
  simp only [List.mem_append,List.mem_cons,List.not_mem_nil,or_false,List.mem_map]at hx
  rcases hx with (hx|⟨y,hy,rfl⟩)|rfl
  ·exact i1 x hx
  ·exact movedI_ok (okB_ok (hg.1 y hy)) _
  ·exact out_ok (by decide)
section
variable {B:MB}
def EvC (K n:Nat) (s:Mst):Prop:=s.evs.length+tot s.bufs+n<=K
theorem EvC.mono {K n m:Nat} {s:Mst} (h:EvC K n s) (hm:m<=n):EvC K m s:=by unfold EvC at*;omega
theorem EvC.flush {K n:Nat} {s:Mst} (h:EvC K n s) (t:Nat):EvC K n (tflush t s):=by
 cases hb:s.bufs.getD t []with
 |nil=>rw [tflush_nil hb];exact h
 |cons x l=>
  have ht:t<s.bufs.length:=by
   rcases Nat.lt_or_ge t s.bufs.length with h1|h1
   ·exact h1
   ·rw [getD_nil_of_ge _ _ _ h1]at hb;cases hb
  rw [tflush_cons hb]
  have h2:=tot_set s.bufs t l ht
  rw [hb]at h2
  unfold EvC at*
  simp only [List.length_cons]at h2
  simp only [List.length_append,List.length_cons,List.length_nil]
  omega
theorem EvC.note {K n:Nat} {s:Mst} (h:EvC K (n+1) s) (t:Int) (x:Evt):EvC K n (noteM t s x):=by
 unfold EvC at*
 show (s.evs++[_]).length+tot s.bufs+n<=K
 simp only [List.length_append,List.length_cons,List.length_nil]
 omega
theorem insR_evc {K n:Nat} (t:Nat) (s:Mst) (th:Th) (i:Ins) (h:EvC K (n+2) s):EvC K n (insR (tOps B t) s th i).2:=by
 have h1:EvC K (n+1) s:=h.mono (by omega)
 have h0:EvC K n s:=h.mono (by omega)
 have hfn: ∀(t m:Nat) (s:Mst) (k:Nat),EvC K k s->EvC K k (tflushN t m s):=fun t m=>by
  induction m with
  |zero=>exact fun _ _ h=>h
  |succ m ih=>exact fun s k h=>ih _ k (h.flush t)
 have hrem: ∀(s:Mst) (k:Nat),EvC K k s->EvC K k (tremote s):=fun s k h=>by
  unfold tremote
  generalize List.range s.bufs.length=l
  induction l generalizing s with
  |nil=>exact h
  |cons a l ih=>exact ih _ (hfn a _ _ _ h)
 have hlock: ∀(s:Mst) (pc:Int) (m:Nat) (old v:Int) (ok:Bool),EvC K (n+1) s->EvC K n (lockS (tOps B t) s pc m old v ok):=fun s pc m old v ok h=>by
  unfold lockS
  cases ok
  ·exact EvC.note h _ _
  ·exact EvC.note (s:={s with mem:=s.mem.set m v}) h _ _
 have hst: ∀(a:Nat) (v:Int),EvC K (n+1) ((tOps B t).store s a v):=fun a v=>by
  show EvC K (n+1) (if a<B.m then ({s with bufs:=_}:Mst)else s)
  split
  ·unfold EvC at*
   show s.evs.length+tot (s.bufs.set t (s.bufs.getD t []++[((a:Int),v)]))+(n+1)<=K
   rcases Nat.lt_or_ge t s.bufs.length with ht|ht
   ·have :=tot_set s.bufs t (s.bufs.getD t []++[((a:Int),v)]) ht
    simp only [List.length_append,List.length_cons,List.length_nil]at this
    omega
   ·rw [List.set_eq_of_length_le ht];omega
  ·exact h1
 have hsl: ∀(s:Mst) (a:Nat) (k:Nat),EvC K k s->EvC K k ((tOps B t).sleep s a):=fun s a k h=>by
  show EvC K k (sleepM (t:Int) s a)
  unfold sleepM
  split<;>exact h
 unfold insR
 split
 ·exact h0.flush _
 split
 ·exact h0.flush _
 split
 ·exact EvC.note h1 _ _
 split
 ·exact h0
 split
 ·show EvC K n (asksR (tOps B t) s th _ _ _ _).2
  unfold asksR
  split
  ·exact EvC.note h1 _ _
  split
  ·exact EvC.note (hst _ _) _ _
  split
  ·exact hlock _ _ _ _ _ _ h1
  split
  ·exact hlock _ _ _ _ _ _ h1
  split
  ·exact hlock _ _ _ _ _ _ h1
  split
  ·unfold waitR
   split
   ·exact hsl _ _ _ (EvC.note h1 _ _)
   ·exact EvC.note h1 _ _
  ·exact EvC.note (s:=((tOps B t).wake s _ _).2) h1 _ _
 ·show EvC K n (plainR (tOps B t) s th _ _ _ _ _ _).2
  unfold plainR
  repeat' split
  all_goals first
   |exact h0
   |exact EvC.note h1 _ _
   |exact EvC.note (hrem _ _ h1) _ _
theorem tPick_evc {K n:Nat} {s:Mst} (h:EvC K (n+2) s) (x:Int×Int):EvC K n (tPick B s x):=by
 have h1:EvC K (n+1) s:=h.mono (by omega)
 have h0:EvC K n s:=h.mono (by omega)
 unfold tPick
 split
 ·exact h0
 split
 ·show EvC K n (stepR (tOps B x.2.toNat) s _ _).2
  unfold stepR
  split
  ·exact h0
  split
  ·exact EvC.note h1 _ _
  split
  ·exact EvC.note h1 _ _
  split
  ·exact EvC.note h1 _ _
  ·exact insR_evc _ _ _ _ h
 split
 ·exact h0.flush _
 split
 ·unfold rouseM
  split
  ·exact EvC.note (s:={s with slp:=_,ths:=_}) h1 _ _
  ·exact h0
 ·exact h0
theorem tRun_evc {K:Nat}: ∀(l:List (Int×Int)) {n:Nat} {s:Mst},EvC K (n+2*l.length) s->EvC K n (tRun B s l)
 |[],_,_,h=>h
 |x::l,n,s,h=>tRun_evc l (tPick_evc (n:=n+2*l.length) (h.mono (by simp only [List.length_cons];omega)) x)
theorem can_of {s:Mst} (hs:TOk B s) (hB:MBok B) (h:EvC 999999000 0 s):mCan B 3 s:=by
 have hl:s.ths.length<=8:=by rw [hs.ok.nt];exact hB.n8
 have h8:=nodup_le s.ths.length (s.slp.map (·.1)) hs.ok.slp.nd (fun x hx=>by
  obtain ⟨y,hy,e⟩:=List.mem_map.1 hx
  rw [<-e];exact hs.ok.slp.lo y hy)
 rw [List.length_map]at h8
 refine ⟨by unfold EvC at h;omega,by omega,fun x hx=>hs.ok.slp.lo x hx,fun b hb e he=>(hs.ok.buf b hb e he).1,hl⟩
end
end Go.Proofs.YtmhfpjnkjlhbpaaGreatDoor
