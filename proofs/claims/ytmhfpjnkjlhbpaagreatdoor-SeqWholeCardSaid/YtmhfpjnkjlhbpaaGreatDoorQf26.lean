/- Events without bounds (XEv): as values; a thread's events with their places. trace.Of, as an iterator: its contract for every loop body that keeps old memory. Events without bounds (XEv): as values; a thread's events with their places. trace.Of, as an iterator: its contract for every loop body that keeps old memory. trace.Outs: what a thread put out. -/
import Derived.Test.YtmhfpjnkjlhbpaaGreatDoorQf02
import Derived.RangeFuncNested
import Derived.RangeFuncBox
import Derived.RangeFuncBound
import Derived.RangeFuncCalls
import Derived.RangeFuncLeaves
import Derived.Shelf.Abstract
import Derived.Shelf.RegionOpen
import Derived.WalkKit
import Derived.OwnWalkIn
import Derived.TacticsInMore
import Derived.LoopNIn
import Derived.LoopIn
import Derived.Maps.AppendAt
namespace Go.Proofs.YtmhfpjnkjlhbpaaGreatDoor
open Go.ChangeShapes Go.WideShapes Go.ChangeAt Go.RowKit Go.Deep
set_option linter.unusedVariables false
set_option maxRecDepth 100000
set_option linter.unusedSimpArgs false
structure EvB where
 (kind who pc addr value old k:Int)
 ok:Bool
 k0:0<=k
 k1:k<=4294967295
instance:Inhabited EvB:=⟨⟨0,0,0,0,0,0,0,false,by decide,by decide⟩⟩
def EvB.cells (x:EvB):List Value:=[.int .i64 x.kind,.int .i64 x.who,.int .i64 x.pc,.int .i64 x.addr,.int .u32 x.value,.int .u32 x.old,.int .u32 x.k,.bool x.ok]
def evsB (E:Nat->EvB) (t:Int) (k:Nat):List (Nat×EvB):=((List.range k).map fun i=>(i,E i)).filter fun x=>x.2.who==t
theorem evs_hitB {E:Nat->EvB} {t:Int} {k:Nat} (h:(E k).who=t):evsB E t (k+1)=evsB E t k++[(k,E k)]:=by
 unfold evsB
 rw [List.range_succ,List.map_append,List.filter_append]
 congr 1
 show List.filter (fun x:Nat×EvB=>x.2.who==t) [(k,E k)]=[(k,E k)]
 rw [List.filter_cons_of_pos (by simpa using h)]
 rfl
theorem evs_missB {E:Nat->EvB} {t:Int} {k:Nat} (h:(E k).who≠t):evsB E t (k+1)=evsB E t k:=by
 unfold evsB
 rw [List.range_succ,List.map_append,List.filter_append]
 show _++List.filter (fun x:Nat×EvB=>x.2.who==t) [(k,E k)]=_
 rw [List.filter_cons_of_neg (by simpa using h)]
 simp
theorem evs_lenB (E:Nat->EvB) (t:Int) (k:Nat):(evsB E t k).length<=k:=by
 unfold evsB
 have :=List.length_filter_le (fun x:Nat×EvB=>x.2.who==t) ((List.range k).map fun i=>(i,E i))
 simpa using this
end Go.Proofs.YtmhfpjnkjlhbpaaGreatDoor
namespace Go.Proofs.YtmhfpjnkjlhbpaaGreatDoor
open Go.ChangeShapes Go.WideShapes Go.ChangeAt Go.RowKit Go.Shelf
set_option linter.unusedVariables false
set_option maxRecDepth 100000
set_option linter.unusedSimpArgs false
attribute [local go_sem] Oper.semAt_some
def evEncB (x:Nat×EvB):Array Value:= #[.int .i64 (x.1:Int),.agg #[.int .i64 x.2.kind,.int .i64 x.2.who,.int .i64 x.2.pc,.int .i64 x.2.addr,.int .u32 x.2.value,.int .u32 x.2.old,.int .u32 x.2.k,.bool x.2.ok]]
structure KpOfB (n₀ Bt:Nat) (A B:World):Prop where
 below:Below n₀ A B
 keep: ∀o,A.heap[Bt]?=some o->B.heap[Bt]?=some o
theorem KpOfB.refl (n₀ Bt:Nat) (A:World):KpOfB n₀ Bt A A:=⟨Below.refl _ _,fun _ h=>h⟩
theorem KpOfB.trans {n₀ Bt:Nat} {A B C:World} (h:KpOfB n₀ Bt A B) (k:KpOfB n₀ Bt B C):KpOfB n₀ Bt A C:=⟨h.below.trans k.below,fun o ho=>k.keep o (h.keep o ho)⟩
theorem KpOfB.of_below {n₀ Bt:Nat} {A B:World} (h:Below A.heap.size A B) (hn:n₀<=A.heap.size):KpOfB n₀ Bt A B:=
 ⟨h.mono hn,fun o ho=>(h.block Bt (Array.getElem?_eq_some_iff.1 ho).1).trans ho⟩
theorem KpOfB.of_grown {n₀ Bt:Nat} {A B:World} {row:Option Nat} (hg:A.grownBy B row) (hn:n₀<=A.heap.size) (hr: ∀r,row=some r->n₀<=r/\r≠Bt):KpOfB n₀ Bt A B:=
 ⟨(Below.refl n₀ A).grown hg hn (fun k e=>(hr k e).1),fun o ho=>(hg.block Bt (Array.getElem?_eq_some_iff.1 ho).1 (fun e=>(hr Bt e.symm).2 rfl)).trans ho⟩
theorem kpOf_bB {n₀ Bt:Nat} {w:World} (hn:n₀<=w.heap.size) (hB:Bt<w.heap.size) (W:World) (l:Nat) (o o':Obj) (hl:w.heap.size<=l) (h:W.heap[l]?=some o) (h1:o.isCells=false) (h2:o.isWalk=false):KpOfB n₀ Bt W (W.putObj l o'):=
 KpOfB.of_grown (grownBy_putObj' W l o') (by have :=(Array.getElem?_eq_some_iff.1 h).1;omega) (fun r e=>by cases e;exact ⟨by omega,by omega⟩)
def OfEndB (E:Nat->EvB) (t:Int) (len:Nat) (J Jx:List (Nat×EvB)->World->Prop) (e:Ending) (W':World):Prop:=(∃v,e= .returned v)/\((∃ys,ys=evsB E t len/\J ys W')∨(∃pre,True/\Jx pre W'))
set_option maxRecDepth 100000 in
set_option maxHeartbeats 2000000 in
theorem of1_inB (F:Fence) (n:Nat) (hFn:F.fn 109) (hro:F.round=none) (hn:1<=n) (l Bs Bt n₀ b off len cap:Nat) (E:Nat->EvB) (t:Int) (hl:len<=1000000000) (hb:b<n₀) (J Jx:List (Nat×EvB)->World->Prop) (W:World) (hn₀:n₀<=W.heap.size)
 (hJ:AbidesFrom W.heap.size J)
 (hY: ∀pre x W,J pre W->pre.length<len->YieldAt F (n-1) Tryz.prog l (evEncB x) W fun e W'=>
   (e= .returned (.bool true)/\J (pre++[x]) W'/\KpOfB n₀ Bt W W')∨(e= .returned (.bool false)/\Jx (pre++[x]) W'))
 (hBs:W.cell? ⟨Bs,0,none⟩=some (.slice (some ⟨b,off,none⟩) len cap)) (ht:Blk W Bt 3 #[.int .i64 t]) (hc: ∀i,i<len-> ∀j u,(E i).cells[j]?=some u->W.cell? ⟨b,off+i*8+j,none⟩=some u) (h0:J [] W):
 CallsIn F n Tryz.prog 109 #[.func (.yield l) #[] #[], .pointer (some ⟨Bs, 0, none⟩), .pointer (some ⟨Bt, 0, none⟩)] W (OfEndB E t len J Jx) := by
 have hAl: ∀pre W1 o,J pre W1->J pre (W1.alloc o):=fun pre W1 o h=>hJ pre W1 _ none h (World.grownBy_alloc W1 o none) (fun r e=>by cases e)
 refine callsIn_of_wp Tryz.func109 rfl hFn ?_ hro
 simp only [Tryz.ntmps109,List.size_toArray,List.length_cons,List.length_nil,Nat.reduceAdd,Nat.reduceSub,Array.replicate_succ,Array.replicate_zero,List.push_toArray,List.append_toArray,List.nil_append,List.cons_append]
 gi_wp2
 gi_loopw [8] (fun i wr=> ∃k:Nat,k<=len/\i= .int .i64 k/\J (evsB E t k) wr/\KpOfB n₀ Bt W wr) (fun i _=>len-(intOf i).toNat)
 case atStart=>exact ⟨0,Nat.zero_le _,rfl,h0,KpOfB.refl _ _ _⟩
 case round=>
  obtain ⟨k,hk,rfl,hJs,hnx⟩:=hrel
  by_cases hlt:k<len
  ·have hcx: ∀j u,(E k).cells[j]?=some u->wr.cell? ⟨b,off+k*8+j,none⟩=some u:=fun j u hu=>(hnx.below.cell (p:=⟨b,_,none⟩) hb).trans (hc k hlt j u hu)
   have htx:Blk wr Bt 3 #[.int .i64 t]:=hnx.keep _ ht
   have hlt':(k:Int)<(len:Int):=by omega
   obtain ⟨x,hx⟩: ∃x,E k=x:=⟨_,rfl⟩
   rw [hx]at hcx
   have c0:=hcx 0 _ rfl
   have c1:=hcx 1 _ rfl
   have c2:=hcx 2 _ rfl
   have c3:=hcx 3 _ rfl
   have c4:=hcx 4 _ rfl
   have c5:=hcx 5 _ rfl
   have c6:=hcx 6 _ rfl
   have c7:=hcx 7 _ rfl
   rw [Nat.add_zero]at c0
   clear hcx
   have hal:=(Below.refl wr.heap.size wr).alloc (Nat.le_refl _) (.cells #[.int .i64 x.kind,.int .i64 x.who,.int .i64 x.pc,.int .i64 x.addr,.int .u32 x.value,.int .u32 x.old,.int .u32 x.k,.bool x.ok] 65)
   have htz:(wr.alloc (.cells #[.int .i64 x.kind,.int .i64 x.who,.int .i64 x.pc,.int .i64 x.addr,.int .u32 x.value,.int .u32 x.old,.int .u32 x.k,.bool x.ok] 65)).cell? ⟨Bt,0,none⟩=some (.int .i64 t):=((htx.alloc _).cell 0).trans rfl
   have hJ1:=hAl _ wr (.cells #[.int .i64 x.kind,.int .i64 x.who,.int .i64 x.pc,.int .i64 x.addr,.int .u32 x.value,.int .u32 x.old,.int .u32 x.k,.bool x.ok] 65) hJs
   have hn1:KpOfB n₀ Bt W (wr.alloc (.cells #[.int .i64 x.kind,.int .i64 x.who,.int .i64 x.pc,.int .i64 x.addr,.int .u32 x.value,.int .u32 x.old,.int .u32 x.k,.bool x.ok] 65)):=hnx.trans (KpOfB.of_below hal (Nat.le_trans hn₀ hnx.below.size))
   have HX:=Lib.hid hx
   clear hx hal
   by_cases hw:x.who=t
   ·have hwb:(x.who==t)=true:=by simpa using hw
    have HW:=Lib.hid hw
    clear hw
    obtain ⟨fn,tmps,assign,body,hy,hR⟩:=hY _ (k,x) _ hJ1 (Nat.lt_of_le_of_lt (evs_lenB E t k) hlt)
    unfold evEncB at hy
    dsimp only at hy
    gi_wp2
    refine hR.mono ?_
    rintro e W3 (⟨rfl,hJ3,hk3⟩|⟨rfl,hJx3⟩)
    ·gi_wp2
     go_roundw
     case rel=>exact ⟨k+1,by omega,by go_num,by rw [evs_hitB (by rw [HX.out];exact HW.out),HX.out];exact hJ3,hn1.trans hk3⟩
     case measure=>simp [intOf];omega
    ·gi_wp2
     refine bodyPost_ret (results_none rfl _ _ _) rfl ?_
     exact ⟨⟨_,rfl⟩,.inr ⟨_,trivial,hJx3⟩⟩
   ·have hwb:(x.who==t)=false:=by simpa using hw
    have HW:=Lib.hid hw
    clear hw
    gi_wp2
    refine ⟨fun _ h=>(by cases h),?_⟩
    gi_wp2
    go_roundw
    case rel=>exact ⟨k+1,by omega,by go_num,by rw [evs_missB (by rw [HX.out];exact HW.out)];exact hJ1,hn1⟩
    case measure=>simp [intOf];omega
  ·obtain rfl:k=len:=by omega
   have hlt': ¬(k:Int)<(k:Int):=by omega
   gi_wp2
   go_end0
   exact ⟨⟨_,rfl⟩,.inl ⟨_,rfl,hJs⟩⟩
theorem of_inB (F:Fence) (n:Nat) (hFn:F.fn 66) (hro:F.round=none) (A:Option Addr) (len cap:Nat) (t:Int) (w:World):
 CallsIn F n Tryz.prog 66 #[.slice A len cap, .int .i64 t] w fun e w' => e = .returned (.func (.func 109) #[] #[.pointer (some ⟨w.heap.size, 0, none⟩), .pointer (some ⟨w.heap.size + 1, 0, none⟩)]) /\
  w'=(w.alloc (.cells #[.slice A len cap] 40)).alloc (.cells #[.int .i64 t] 3):=by
 refine callsIn_of_wp Tryz.func66 rfl hFn ?_ hro
 simp only [Tryz.ntmps66,List.size_toArray,List.length_cons,List.length_nil,Nat.reduceAdd,Nat.reduceSub,Array.replicate_succ,Array.replicate_zero,List.push_toArray,List.append_toArray,List.nil_append,List.cons_append]
 gi_wp2
 go_ret
 exact ⟨rfl,rfl⟩
set_option maxRecDepth 100000 in
set_option maxHeartbeats 1000000 in
theorem of1_nil_inB (F:Fence) (n:Nat) (hFn:F.fn 109) (hro:F.round=none) (l Bs Bt cap:Nat) (A:Option Addr) (E:Nat->EvB) (t:Int) (J Jx:List (Nat×EvB)->World->Prop) (W:World)
 (hBs:W.cell? ⟨Bs,0,none⟩=some (.slice A 0 cap)) (h0:J [] W):
 CallsIn F n Tryz.prog 109 #[.func (.yield l) #[] #[], .pointer (some ⟨Bs, 0, none⟩), .pointer (some ⟨Bt, 0, none⟩)] W (OfEndB E t 0 J Jx) := by
 refine callsIn_of_wp Tryz.func109 rfl hFn ?_ hro
 simp only [Tryz.ntmps109,List.size_toArray,List.length_cons,List.length_nil,Nat.reduceAdd,Nat.reduceSub,Array.replicate_succ,Array.replicate_zero,List.push_toArray,List.append_toArray,List.nil_append,List.cons_append]
 gi_wp2
 gi_loopw [8] (fun i wr=>i= .int .i64 0/\J [] wr) (fun _ _=>0)
 case atStart=>exact ⟨rfl,h0⟩
 case round=>
  obtain ⟨rfl,hJs⟩:=hrel
  gi_wp2
  go_end0
  exact ⟨⟨_,rfl⟩,.inl ⟨_,rfl,hJs⟩⟩
theorem of_stopsB (F:Fence) (n:Nat) (hFn:F.fn 109) (hro:F.round=none) (hn:1<=n) (Bs Bt n₀:Nat) (A:Option Addr) (len cap:Nat) (E:Nat->EvB) (t:Int) (hl:len<=1000000000) (w:World) (hBs:Bs<w.heap.size) (hn₀:n₀<=w.heap.size)
 (hc:w.cell? ⟨Bs,0,none⟩=some (.slice A len cap)) (ht:Blk w Bt 3 #[.int .i64 t]) (hb:0<len-> ∀b off,A=some ⟨b,off,none⟩->b<n₀) (hs:SlE w A len 8 (fun i=>(E i).cells)):
 SeqStopsK F n Tryz.prog 109 #[.pointer (some ⟨Bs,0,none⟩),.pointer (some ⟨Bt,0,none⟩)] evEncB (KpOfB n₀ Bt) (fun ys=>ys=evsB E t len) (fun _=>True) len w:=fun l J Jx W hW hJ _ hY h0=>by
 have hc':=(hW.cell (p:=⟨Bs,0,none⟩) hBs).trans hc
 have ht':=ht.below hW ht.lt
 rcases Nat.eq_zero_or_pos len with rfl|hp
 ·exact of1_nil_inB F n hFn hro l Bs Bt cap A E t J Jx W hc' h0
 ·obtain ⟨b,off,rfl,hlt,hcc⟩:=hs hp
  exact of1_inB F n hFn hro hn l Bs Bt n₀ b off len cap E t hl (hb hp b off rfl) J Jx W (Nat.le_trans hn₀ hW.size) hJ hY hc' ht' (fun i hi j u hu=>(hW.cell (p:=⟨b,_,none⟩) hlt).trans (hcc i hi j u hu)) h0
def tvArrB (x:EvB):Array Value:= #[.int .i64 x.kind,.int .i64 x.who,.int .i64 x.pc,.int .i64 x.addr,.int .u32 x.value,.int .u32 x.old,.int .u32 x.k,.bool x.ok]
end Go.Proofs.YtmhfpjnkjlhbpaaGreatDoor
namespace Go.Proofs.YtmhfpjnkjlhbpaaGreatDoor
open Go.ChangeShapes Go.WideShapes Go.ChangeAt Go.RowKit Go.Deep
set_option linter.unusedVariables false
set_option maxRecDepth 100000
set_option linter.unusedSimpArgs false
structure Ev where
 (kind who pc addr value old k:Int)
 ok:Bool
instance:Inhabited Ev:=⟨⟨0,0,0,0,0,0,0,false⟩⟩
def Ev.cells (x:Ev):List Value:=[.int .i64 x.kind,.int .i64 x.who,.int .i64 x.pc,.int .i64 x.addr,.int .u32 x.value,.int .u32 x.old,.int .u32 x.k,.bool x.ok]
def evs (E:Nat->Ev) (t:Int) (k:Nat):List (Nat×Ev):=((List.range k).map fun i=>(i,E i)).filter fun x=>x.2.who==t
theorem evs_hit {E:Nat->Ev} {t:Int} {k:Nat} (h:(E k).who=t):evs E t (k+1)=evs E t k++[(k,E k)]:=by
 unfold evs
 rw [List.range_succ,List.map_append,List.filter_append]
 congr 1
 show List.filter (fun x:Nat×Ev=>x.2.who==t) [(k,E k)]=[(k,E k)]
 rw [List.filter_cons_of_pos (by simpa using h)]
 rfl
theorem evs_miss {E:Nat->Ev} {t:Int} {k:Nat} (h:(E k).who≠t):evs E t (k+1)=evs E t k:=by
 unfold evs
 rw [List.range_succ,List.map_append,List.filter_append]
 show _++List.filter (fun x:Nat×Ev=>x.2.who==t) [(k,E k)]=_
 rw [List.filter_cons_of_neg (by simpa using h)]
 simp
theorem evs_len (E:Nat->Ev) (t:Int) (k:Nat):(evs E t k).length<=k:=by
 unfold evs
 have :=List.length_filter_le (fun x:Nat×Ev=>x.2.who==t) ((List.range k).map fun i=>(i,E i))
 simpa using this
end Go.Proofs.YtmhfpjnkjlhbpaaGreatDoor
namespace Go.Proofs.YtmhfpjnkjlhbpaaGreatDoor
open Go.ChangeShapes Go.WideShapes Go.ChangeAt Go.RowKit Go.Shelf
set_option linter.unusedVariables false
set_option maxRecDepth 100000
set_option linter.unusedSimpArgs false
attribute [local go_sem] Oper.semAt_some
def evEnc (x:Nat×Ev):Array Value:= #[.int .i64 (x.1:Int),.agg #[.int .i64 x.2.kind,.int .i64 x.2.who,.int .i64 x.2.pc,.int .i64 x.2.addr,.int .u32 x.2.value,.int .u32 x.2.old,.int .u32 x.2.k,.bool x.2.ok]]
structure KpOf (n₀ Bt:Nat) (A B:World):Prop where
 below:Below n₀ A B
 keep: ∀o,A.heap[Bt]?=some o->B.heap[Bt]?=some o
theorem KpOf.refl (n₀ Bt:Nat) (A:World):KpOf n₀ Bt A A:=⟨Below.refl _ _,fun _ h=>h⟩
theorem KpOf.trans {n₀ Bt:Nat} {A B C:World} (h:KpOf n₀ Bt A B) (k:KpOf n₀ Bt B C):KpOf n₀ Bt A C:=⟨h.below.trans k.below,fun o ho=>k.keep o (h.keep o ho)⟩
theorem KpOf.of_below {n₀ Bt:Nat} {A B:World} (h:Below A.heap.size A B) (hn:n₀<=A.heap.size):KpOf n₀ Bt A B:=
 ⟨h.mono hn,fun o ho=>(h.block Bt (Array.getElem?_eq_some_iff.1 ho).1).trans ho⟩
theorem KpOf.of_grown {n₀ Bt:Nat} {A B:World} {row:Option Nat} (hg:A.grownBy B row) (hn:n₀<=A.heap.size) (hr: ∀r,row=some r->n₀<=r/\r≠Bt):KpOf n₀ Bt A B:=
 ⟨(Below.refl n₀ A).grown hg hn (fun k e=>(hr k e).1),fun o ho=>(hg.block Bt (Array.getElem?_eq_some_iff.1 ho).1 (fun e=>(hr Bt e.symm).2 rfl)).trans ho⟩
theorem kpOf_b {n₀ Bt:Nat} {w:World} (hn:n₀<=w.heap.size) (hB:Bt<w.heap.size) (W:World) (l:Nat) (o o':Obj) (hl:w.heap.size<=l) (h:W.heap[l]?=some o) (h1:o.isCells=false) (h2:o.isWalk=false):KpOf n₀ Bt W (W.putObj l o'):=
 KpOf.of_grown (grownBy_putObj' W l o') (by have :=(Array.getElem?_eq_some_iff.1 h).1;omega) (fun r e=>by cases e;exact ⟨by omega,by omega⟩)
def OfEnd (E:Nat->Ev) (t:Int) (len:Nat) (J Jx:List (Nat×Ev)->World->Prop) (e:Ending) (W':World):Prop:=(∃v,e= .returned v)/\((∃ys,ys=evs E t len/\J ys W')∨(∃pre,True/\Jx pre W'))
set_option maxRecDepth 100000 in
set_option maxHeartbeats 2000000 in
theorem of1_in (F:Fence) (n:Nat) (hFn:F.fn 109) (hro:F.round=none) (hn:1<=n) (l Bs Bt n₀ b off len cap:Nat) (E:Nat->Ev) (t:Int) (hl:len<=1000000000) (hb:b<n₀) (J Jx:List (Nat×Ev)->World->Prop) (W:World) (hn₀:n₀<=W.heap.size)
 (hJ:AbidesFrom W.heap.size J)
 (hY: ∀pre x W,J pre W->pre.length<len->YieldAt F (n-1) Tryz.prog l (evEnc x) W fun e W'=>
   (e= .returned (.bool true)/\J (pre++[x]) W'/\KpOf n₀ Bt W W')∨(e= .returned (.bool false)/\Jx (pre++[x]) W'))
 (hBs:W.cell? ⟨Bs,0,none⟩=some (.slice (some ⟨b,off,none⟩) len cap)) (ht:Blk W Bt 3 #[.int .i64 t]) (hc: ∀i,i<len-> ∀j u,(E i).cells[j]?=some u->W.cell? ⟨b,off+i*8+j,none⟩=some u) (h0:J [] W):
 CallsIn F n Tryz.prog 109 #[.func (.yield l) #[] #[], .pointer (some ⟨Bs, 0, none⟩), .pointer (some ⟨Bt, 0, none⟩)] W (OfEnd E t len J Jx) := by
 have hAl: ∀pre W1 o,J pre W1->J pre (W1.alloc o):=fun pre W1 o h=>hJ pre W1 _ none h (World.grownBy_alloc W1 o none) (fun r e=>by cases e)
 refine callsIn_of_wp Tryz.func109 rfl hFn ?_ hro
 simp only [Tryz.ntmps109,List.size_toArray,List.length_cons,List.length_nil,Nat.reduceAdd,Nat.reduceSub,Array.replicate_succ,Array.replicate_zero,List.push_toArray,List.append_toArray,List.nil_append,List.cons_append]
 gi_wp2
 gi_loopw [8] (fun i wr=> ∃k:Nat,k<=len/\i= .int .i64 k/\J (evs E t k) wr/\KpOf n₀ Bt W wr) (fun i _=>len-(intOf i).toNat)
 case atStart=>exact ⟨0,Nat.zero_le _,rfl,h0,KpOf.refl _ _ _⟩
 case round=>
  obtain ⟨k,hk,rfl,hJs,hnx⟩:=hrel
  by_cases hlt:k<len
  ·have hcx: ∀j u,(E k).cells[j]?=some u->wr.cell? ⟨b,off+k*8+j,none⟩=some u:=fun j u hu=>(hnx.below.cell (p:=⟨b,_,none⟩) hb).trans (hc k hlt j u hu)
   have htx:Blk wr Bt 3 #[.int .i64 t]:=hnx.keep _ ht
   have hlt':(k:Int)<(len:Int):=by omega
   obtain ⟨x,hx⟩: ∃x,E k=x:=⟨_,rfl⟩
   rw [hx]at hcx
   have c0:=hcx 0 _ rfl
   have c1:=hcx 1 _ rfl
   have c2:=hcx 2 _ rfl
   have c3:=hcx 3 _ rfl
   have c4:=hcx 4 _ rfl
   have c5:=hcx 5 _ rfl
   have c6:=hcx 6 _ rfl
   have c7:=hcx 7 _ rfl
   rw [Nat.add_zero]at c0
   clear hcx
   have hal:=(Below.refl wr.heap.size wr).alloc (Nat.le_refl _) (.cells #[.int .i64 x.kind,.int .i64 x.who,.int .i64 x.pc,.int .i64 x.addr,.int .u32 x.value,.int .u32 x.old,.int .u32 x.k,.bool x.ok] 65)
   have htz:(wr.alloc (.cells #[.int .i64 x.kind,.int .i64 x.who,.int .i64 x.pc,.int .i64 x.addr,.int .u32 x.value,.int .u32 x.old,.int .u32 x.k,.bool x.ok] 65)).cell? ⟨Bt,0,none⟩=some (.int .i64 t):=((htx.alloc _).cell 0).trans rfl
   have hJ1:=hAl _ wr (.cells #[.int .i64 x.kind,.int .i64 x.who,.int .i64 x.pc,.int .i64 x.addr,.int .u32 x.value,.int .u32 x.old,.int .u32 x.k,.bool x.ok] 65) hJs
   have hn1:KpOf n₀ Bt W (wr.alloc (.cells #[.int .i64 x.kind,.int .i64 x.who,.int .i64 x.pc,.int .i64 x.addr,.int .u32 x.value,.int .u32 x.old,.int .u32 x.k,.bool x.ok] 65)):=hnx.trans (KpOf.of_below hal (Nat.le_trans hn₀ hnx.below.size))
   have HX:=Lib.hid hx
   clear hx hal
   by_cases hw:x.who=t
   ·have hwb:(x.who==t)=true:=by simpa using hw
    have HW:=Lib.hid hw
    clear hw
    obtain ⟨fn,tmps,assign,body,hy,hR⟩:=hY _ (k,x) _ hJ1 (Nat.lt_of_le_of_lt (evs_len E t k) hlt)
    unfold evEnc at hy
    dsimp only at hy
    gi_wp2
    refine hR.mono ?_
    rintro e W3 (⟨rfl,hJ3,hk3⟩|⟨rfl,hJx3⟩)
    ·gi_wp2
     go_roundw
     case rel=>exact ⟨k+1,by omega,by go_num,by rw [evs_hit (by rw [HX.out];exact HW.out),HX.out];exact hJ3,hn1.trans hk3⟩
     case measure=>simp [intOf];omega
    ·gi_wp2
     refine bodyPost_ret (results_none rfl _ _ _) rfl ?_
     exact ⟨⟨_,rfl⟩,.inr ⟨_,trivial,hJx3⟩⟩
   ·have hwb:(x.who==t)=false:=by simpa using hw
    have HW:=Lib.hid hw
    clear hw
    gi_wp2
    refine ⟨fun _ h=>(by cases h),?_⟩
    gi_wp2
    go_roundw
    case rel=>exact ⟨k+1,by omega,by go_num,by rw [evs_miss (by rw [HX.out];exact HW.out)];exact hJ1,hn1⟩
    case measure=>simp [intOf];omega
  ·obtain rfl:k=len:=by omega
   have hlt': ¬(k:Int)<(k:Int):=by omega
   gi_wp2
   go_end0
   exact ⟨⟨_,rfl⟩,.inl ⟨_,rfl,hJs⟩⟩
theorem of_in (F:Fence) (n:Nat) (hFn:F.fn 66) (hro:F.round=none) (A:Option Addr) (len cap:Nat) (t:Int) (w:World):
 CallsIn F n Tryz.prog 66 #[.slice A len cap, .int .i64 t] w fun e w' => e = .returned (.func (.func 109) #[] #[.pointer (some ⟨w.heap.size, 0, none⟩), .pointer (some ⟨w.heap.size + 1, 0, none⟩)]) /\
  w'=(w.alloc (.cells #[.slice A len cap] 40)).alloc (.cells #[.int .i64 t] 3):=by
 refine callsIn_of_wp Tryz.func66 rfl hFn ?_ hro
 simp only [Tryz.ntmps66,List.size_toArray,List.length_cons,List.length_nil,Nat.reduceAdd,Nat.reduceSub,Array.replicate_succ,Array.replicate_zero,List.push_toArray,List.append_toArray,List.nil_append,List.cons_append]
 gi_wp2
 go_ret
 exact ⟨rfl,rfl⟩
set_option maxRecDepth 100000 in
set_option maxHeartbeats 1000000 in
theorem of1_nil_in (F:Fence) (n:Nat) (hFn:F.fn 109) (hro:F.round=none) (l Bs Bt cap:Nat) (A:Option Addr) (E:Nat->Ev) (t:Int) (J Jx:List (Nat×Ev)->World->Prop) (W:World)
 (hBs:W.cell? ⟨Bs,0,none⟩=some (.slice A 0 cap)) (h0:J [] W):
 CallsIn F n Tryz.prog 109 #[.func (.yield l) #[] #[], .pointer (some ⟨Bs, 0, none⟩), .pointer (some ⟨Bt, 0, none⟩)] W (OfEnd E t 0 J Jx) := by
 refine callsIn_of_wp Tryz.func109 rfl hFn ?_ hro
 simp only [Tryz.ntmps109,List.size_toArray,List.length_cons,List.length_nil,Nat.reduceAdd,Nat.reduceSub,Array.replicate_succ,Array.replicate_zero,List.push_toArray,List.append_toArray,List.nil_append,List.cons_append]
 gi_wp2
 gi_loopw [8] (fun i wr=>i= .int .i64 0/\J [] wr) (fun _ _=>0)
 case atStart=>exact ⟨rfl,h0⟩
 case round=>
  obtain ⟨rfl,hJs⟩:=hrel
  gi_wp2
  go_end0
  exact ⟨⟨_,rfl⟩,.inl ⟨_,rfl,hJs⟩⟩
theorem of_stops (F:Fence) (n:Nat) (hFn:F.fn 109) (hro:F.round=none) (hn:1<=n) (Bs Bt n₀:Nat) (A:Option Addr) (len cap:Nat) (E:Nat->Ev) (t:Int) (hl:len<=1000000000) (w:World) (hBs:Bs<w.heap.size) (hn₀:n₀<=w.heap.size)
 (hc:w.cell? ⟨Bs,0,none⟩=some (.slice A len cap)) (ht:Blk w Bt 3 #[.int .i64 t]) (hb:0<len-> ∀b off,A=some ⟨b,off,none⟩->b<n₀) (hs:SlE w A len 8 (fun i=>(E i).cells)):
 SeqStopsK F n Tryz.prog 109 #[.pointer (some ⟨Bs,0,none⟩),.pointer (some ⟨Bt,0,none⟩)] evEnc (KpOf n₀ Bt) (fun ys=>ys=evs E t len) (fun _=>True) len w:=fun l J Jx W hW hJ _ hY h0=>by
 have hc':=(hW.cell (p:=⟨Bs,0,none⟩) hBs).trans hc
 have ht':=ht.below hW ht.lt
 rcases Nat.eq_zero_or_pos len with rfl|hp
 ·exact of1_nil_in F n hFn hro l Bs Bt cap A E t J Jx W hc' h0
 ·obtain ⟨b,off,rfl,hlt,hcc⟩:=hs hp
  exact of1_in F n hFn hro hn l Bs Bt n₀ b off len cap E t hl (hb hp b off rfl) J Jx W (Nat.le_trans hn₀ hW.size) hJ hY hc' ht' (fun i hi j u hu=>(hW.cell (p:=⟨b,_,none⟩) hlt).trans (hcc i hi j u hu)) h0
end Go.Proofs.YtmhfpjnkjlhbpaaGreatDoor
namespace Go.Proofs.YtmhfpjnkjlhbpaaGreatDoor
open Go.ChangeShapes Go.WideShapes Go.ChangeAt Go.RowKit Go.Shelf
set_option linter.unusedVariables false
set_option maxRecDepth 100000
set_option linter.unusedSimpArgs false
attribute [local go_sem] Oper.semAt_some
theorem u32_info:(Tryz.prog.info? 42).map (fun i=>(i.zero,i.size,i.bytes))=some (some (.int .u32 0),1,4):=by kernel_rfl
def oL (pre:List (Nat×Ev)):List Int:=(pre.filter fun x=>x.2.kind==6).map fun x=>x.2.value
theorem oL_hit (pre:List (Nat×Ev)) {x:Nat×Ev} (h:x.2.kind=6):oL (pre++[x])=oL pre++[x.2.value]:=by
 unfold oL
 rw [List.filter_append,List.map_append,List.filter_cons_of_pos (p:=fun x:Nat×Ev=>x.2.kind==6) (by simpa using h)]
 rfl
theorem oL_miss (pre:List (Nat×Ev)) {x:Nat×Ev} (h:x.2.kind≠6):oL (pre++[x])=oL pre:=by
 unfold oL
 rw [List.filter_append,List.map_append,List.filter_cons_of_neg (p:=fun x:Nat×Ev=>x.2.kind==6) (by simpa using h)]
 simp
theorem oL_len (pre:List (Nat×Ev)):(oL pre).length<=pre.length:=by
 unfold oL
 rw [List.length_map]
 exact List.length_filter_le _ _
theorem blk_kept {X Y:World} {B:Nat} {t:TypeId} {cs:Array Value} {row:Option Nat} (h:Blk X B t cs) (hg:X.grownBy Y row) (hr: ∀r,row=some r-> ∃o:Obj,X.heap[r]?=some o/\o.isCells=false):Blk Y B t cs:=
 h.grown hg (fun e=>by
  obtain ⟨o,ho,hc⟩:=hr B e.symm
  unfold Blk at h
  rw [h]at ho
  cases ho
  cases hc)
def tvArr (x:Ev):Array Value:= #[.int .i64 x.kind,.int .i64 x.who,.int .i64 x.pc,.int .i64 x.addr,.int .u32 x.value,.int .u32 x.old,.int .u32 x.k,.bool x.ok]
set_option maxRecDepth 100000 in
set_option maxHeartbeats 2000000 in
theorem outs_in (F:Fence) (n:Nat) (h1':F.fn 30) (h2':F.fn 66) (h3':F.fn 109) (hro:F.round=none) (hn:3<=n) (A:Option Addr) (len cap:Nat) (E:Nat->Ev) (t:Int) (hl:len<=1000000000) (w:World) (hs:SlE w A len 8 (fun i=>(E i).cells)):
 CallsIn F n Tryz.prog 30 #[.slice A len cap,.int .i64 t] w fun e W'=> ∃v,e= .returned v/\W'.ownsRow w.heap.size 42 1 v (oL (evs E t len)).length ((oL (evs E t len)).map (Value.int .u32))/\Below w.heap.size w W':=by
 have h1:1<=n:=by omega
 obtain ⟨i0,hi,hz0,hz1,hz2⟩:=info_parts u32_info
 refine callsIn_of_wp_marks Tryz.func30 rfl h1' ?_ hro
 simp only [Tryz.ntmps30,List.size_toArray,List.length_cons,List.length_nil,Nat.reduceAdd,Nat.reduceSub,Array.replicate_succ,Array.replicate_zero,List.push_toArray,List.append_toArray,List.nil_append,List.cons_append]
 gi_wp2_with (gi_at_call 66;refine (of_in F (n-1) h2' hro _ _ _ _ _).mono ?_;rintro e w' ⟨rfl,rfl⟩)
 have bO:=Boxed.new w 27 (.slice none 0 0)
 have bS:=Boxed.new (w.alloc (.cells #[.slice none 0 0] 27)) 40 (.slice A len cap)
 have bT:=Boxed.new ((w.alloc (.cells #[.slice none 0 0] 27)).alloc (.cells #[.slice A len cap] 40)) 3 (.int .i64 t)
 rw [World.size_alloc]at bS bT
 rw [World.size_alloc]at bT
 have hB0:Below w.heap.size w (((w.alloc (.cells #[.slice none 0 0] 27)).alloc (.cells #[.slice A len cap] 40)).alloc (.cells #[.int .i64 t] 3)):=(((Below.refl _ w).alloc (Nat.le_refl _) _).alloc (by simp) _).alloc (by simp;omega) _
 have hsz:(((w.alloc (.cells #[.slice none 0 0] 27)).alloc (.cells #[.slice A len cap] 40)).alloc (.cells #[.int .i64 t] 3)).heap.size=w.heap.size+3:=by simp
 have bO2:=(bO.alloc (.cells #[.slice A len cap] 40)).alloc (.cells #[.int .i64 t] 3)
 have bS2:=bS.alloc (.cells #[.int .i64 t] 3)
 obtain ⟨W0,hW0⟩: ∃W0,((w.alloc (.cells #[.slice none 0 0] 27)).alloc (.cells #[.slice A len cap] 40)).alloc (.cells #[.int .i64 t] 3)=W0:=⟨_,rfl⟩
 rw [hW0]at bO2 bS2 bT hB0 hsz⊢
 clear hW0 bO bS
 have hbA:0<len-> ∀b off,A=some ⟨b,off,none⟩->b<w.heap.size:=fun hp b off e=>by
  obtain ⟨b',off',e',hlt,_⟩:=hs hp
  rw [e]at e'
  injection e' with e'
  injection e' with e1 _
  omega
 refine wpIn_rangeFunc_ownH hro h1 (gf:=109) (lb:= #[.pointer (some ⟨w.heap.size+1,0,none⟩),.pointer (some ⟨w.heap.size+1+1,0,none⟩)]) rfl h3' (enters_of Tryz.func109 (by kernel_rfl) rfl)
  (of_stops F (n-1) h3' hro (by omega) (w.heap.size+1) (w.heap.size+1+1) w.heap.size A len cap E t hl W0 (by omega) (by omega) bS2.cell bT hbA (SlE.step hs hB0)) KpOf.trans (kpOf_b (by omega) (by omega)) (Below.refl _ _) (fun _=>rfl)
  (fun pre W=>((∃v,Boxed W w.heap.size 27 v/\W.ownsRow w.heap.size 42 1 v (oL pre).length ((oL pre).map (Value.int .u32))/\True)/\Boxed W (w.heap.size+1+1) 3 (.int .i64 t))/\Below w.heap.size w W)
  (fun _ _ _=>False)
  (OwnFrom.and (OwnFrom.and (Own.from (holdsRow_own w.heap.size w.heap.size 27 42 1 (fun pre=>(oL pre).length) (fun pre=>(oL pre).map (Value.int .u32)) (fun pre v=>True)) _) (Own.from (boxed_own _ _ _) _)) (ownFrom_below (Nat.le_refl _) (by omega)))
  (fun _ _ _ _ _ hs _ _=>hs)
  ⟨⟨⟨_,bO2,World.ownsRow_nil _ _ _ _,trivial⟩,bT⟩,hB0⟩
  (fun x a' W => ∃ Bx, w.heap.size + 1 + 1 < Bx /\ Blk W Bx 65 (tvArr x.2) /\ a' = { tmps := #[.slice A len cap, .int .i64 t, undef, undef, .slice none 0 0, .pointer (some ⟨w.heap.size, 0, none⟩), undef, .pointer (some ⟨Bx, 0, none⟩), .slice A len cap, .int .i64 t, .func (.func 109) #[] #[.pointer (some ⟨w.heap.size + 1, 0, none⟩), .pointer (some ⟨w.heap.size + 1 + 1, 0, none⟩)], .int .i64 (x.1 : Int), .agg #[.int .i64 x.2.kind, .int .i64 x.2.who, .int .i64 x.2.pc, .int .i64 x.2.addr, .int .u32 x.2.value, .int .u32 x.2.old, .int .u32 x.2.k, .bool x.2.ok], undef, undef, undef, undef, undef, undef, undef, undef, undef], defers := [] })
  (fun x a' _ X Y row hs hg hr=>by obtain ⟨Bx,h1,h2,h3⟩:=hs;exact ⟨Bx,h1,blk_kept h2 hg (fun r e=>(hr r e).2),h3⟩)
  ?assign ?body ?done ?stop
 case assign=>
  rintro l pre x W K ⟨⟨⟨v,hv,hrow,_⟩,bT1⟩,hB1⟩ hK
  unfold evEnc
  gi_wp2
  exact hK _ _ ((KeepsOthers.alloc _ _).from _) (KpOf.of_below ((Below.refl _ W).alloc (Nat.le_refl _) _) hB1.size) ⟨⟨⟨v,hv.alloc _,hrow.alloc _,trivial⟩,bT1.alloc _⟩,hB1.alloc hB1.size _⟩ ⟨W.heap.size,bT1.lt,Blk.new W _ _,rfl⟩
 case body=>
  rintro l pre x a' W hl9 ⟨r,hr⟩ ⟨⟨⟨v,hv,hrow,_⟩,bT1⟩,hB1⟩ ⟨Bx,hBx,bX,rfl⟩ hlt
  have hc:=hv.cell
  have x0:=bX.cell 0
  have x4:=bX.cell 4
  simp only [tvArr,List.getElem?_toArray,List.getElem?_cons_zero,List.getElem?_cons_succ]at x0 x4
  have hpl:=oL_len pre
  have hxlt:=bX.lt
  by_cases hk:x.2.kind=6
  ·have hkb:(x.2.kind==6)=true:=by simpa using hk
   have hL:=oL_hit pre hk
   have HL:=Lib.hid hL
   clear hk hL
   gi_wp2_with (gi_at_builtin;refine wpListIn_append_own _ rfl _ _ 27 rfl w.heap.size 42 i0 (.int .u32 0) 1 4 Tryz.underlying27 hi hz0 hz1 hz2 rfl (by decide) _ _ _ rfl (hrow.alloc _) ⟨W.heap.size,0,none⟩ 1 1 [.int .u32 x.2.value] rfl rfl (cell_one_new _ _ _) (by simp [Value.oneCell']) (by unfold maxLen;omega) (by omega) (by have :=hB1.size;simp;omega) ?_;intro v' w1 hown' hgrow _;obtain ⟨g',cap',rfl⟩:=ownsRow_succ hown';obtain ⟨hv1,hv2,hr2,hk2,hb2⟩:=hv.appended (by decide) hrow hB1.size (Nat.le_refl _) hown' hgrow;have hc1:=hv1.cell;have hf1:=hv1.frozen)
   have bT2:=((bT1.alloc (.cells [Value.int .u32 x.2.value].toArray 42)).kept hgrow (bT1.not_row (by decide) hrow)).other (B':=w.heap.size) (by omega) (Value.slice (some ⟨g',0,none⟩) ((oL pre).length+1) cap')
   have hKp:KpOf w.heap.size (w.heap.size+1+1) W (w1.setCell ⟨w.heap.size,0,none⟩ (Value.slice (some ⟨g',0,none⟩) ((oL pre).length+1) cap')):=⟨hb2,fun o ho=>by
    have e:=bT1.symm.trans ho
    rw [<-Option.some.inj e]
    exact bT2⟩
   refine ⟨hk2.from _,hKp,⟨⟨_,hv2,?_,trivial⟩,bT2⟩,hB1.trans hb2⟩
   rw [HL.out,List.length_append,List.map_append]
   exact hr2
  ·have hkb:(x.2.kind==6)=false:=by simpa using hk
   have hL:=oL_miss pre hk
   have HL:=Lib.hid hL
   clear hk hL
   gi_wp2
   exact ⟨KeepsFrom.refl _ _,KpOf.refl _ _ _,⟨⟨v,hv,by rw [HL.out];exact hrow,trivial⟩,bT1⟩,hB1⟩
 case done=>
  rintro D ys W hD rfl ⟨⟨⟨v,hv,hrow,_⟩,bT1⟩,hB⟩ hK
  have hc:=hv.cell
  gi_wp2
  refine ⟨by simp,.inl ⟨_,_,rfl,run_takeDeferred hK,?_⟩⟩
  exact ⟨_,results_tmp rfl _ _ _,v,rfl,ownsRow_putObj hrow _ hK rfl,hB.trans (belowK_b (w:=w) (Nat.le_refl _) W D _ _ (by omega) hK rfl rfl)⟩
 case stop=>
  rintro D c pre W _ _ h _
  exact h.elim
theorem outs_any (A:Option Addr) (len cap:Nat) (E:Nat->Ev) (t:Int) (hl:len<=1000000000) (w:World) (hs:SlE w A len 8 (fun i=>(E i).cells)):
 Calls Tryz.prog 30 #[.slice A len cap,.int .i64 t] w fun e W'=> ∃v,e= .returned v/\W'.ownsRow w.heap.size 42 1 v (oL (evs E t len)).length ((oL (evs E t len)).map (Value.int .u32))/\Below w.heap.size w W':=
 (callsIn_wide (n:=3)).1 (outs_in Fence.wide 3 trivial trivial trivial rfl (by omega) A len cap E t hl w hs)
end Go.Proofs.YtmhfpjnkjlhbpaaGreatDoor
