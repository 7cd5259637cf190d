/- Events without bounds (XEv): as values; a thread's events with their places. trace.Of, as an iterator: its contract for every loop body that keeps old memory. Calls: as rows of cells whose last field is a row of their own; how they come about, event by event. -/
import Derived.Test.YtmhfpjnkjlhbpaaGreatDoorQi02
import Derived.RangeFuncNested
import Derived.RangeFuncBox
import Derived.RangeFuncBound
import Derived.RangeFuncCalls
import Derived.RangeFuncLeaves
import Derived.Shelf.Abstract
import Derived.Shelf.RegionOpen
import Derived.WalkKit
import Derived.OwnWalkIn
import Derived.TacticsInMore
import Derived.LoopNIn
import Derived.LoopIn
import Derived.Test.YtmhfpjnkjlhbpaaGreatDoorQi25
import Derived.Laws.OwnMore
namespace Go.Proofs.YtmhfpjnkjlhbpaaGreatDoor
open Go.ChangeShapes Go.WideShapes Go.ChangeAt Go.RowKit Go.Deep
set_option linter.unusedVariables false
set_option maxRecDepth 100000
set_option linter.unusedSimpArgs false
structure EvB where
 (kind who pc addr value old k:Int)
 ok:Bool
 k0:0<=k
 k1:k<=4294967295
instance:Inhabited EvB:=⟨⟨0,0,0,0,0,0,0,false,by decide,by decide⟩⟩
def EvB.cells (x:EvB):List Value:=[.int .i64 x.kind,.int .i64 x.who,.int .i64 x.pc,.int .i64 x.addr,.int .u32 x.value,.int .u32 x.old,.int .u32 x.k,.bool x.ok]
def evsB (E:Nat->EvB) (t:Int) (k:Nat):List (Nat×EvB):=((List.range k).map fun i=>(i,E i)).filter fun x=>x.2.who==t
theorem evs_hitB {E:Nat->EvB} {t:Int} {k:Nat} (h:(E k).who=t):evsB E t (k+1)=evsB E t k++[(k,E k)]:=by
 unfold evsB
 rw [List.range_succ,List.map_append,List.filter_append]
 congr 1
 show List.filter (fun x:Nat×EvB=>x.2.who==t) [(k,E k)]=[(k,E k)]
 rw [List.filter_cons_of_pos (by simpa using h)]
 rfl
theorem evs_missB {E:Nat->EvB} {t:Int} {k:Nat} (h:(E k).who≠t):evsB E t (k+1)=evsB E t k:=by
 unfold evsB
 rw [List.range_succ,List.map_append,List.filter_append]
 show _++List.filter (fun x:Nat×EvB=>x.2.who==t) [(k,E k)]=_
 rw [List.filter_cons_of_neg (by simpa using h)]
 simp
theorem evs_lenB (E:Nat->EvB) (t:Int) (k:Nat):(evsB E t k).length<=k:=by
 unfold evsB
 have :=List.length_filter_le (fun x:Nat×EvB=>x.2.who==t) ((List.range k).map fun i=>(i,E i))
 simpa using this
end Go.Proofs.YtmhfpjnkjlhbpaaGreatDoor
namespace Go.Proofs.YtmhfpjnkjlhbpaaGreatDoor
open Go.ChangeShapes Go.WideShapes Go.ChangeAt Go.RowKit Go.Shelf
set_option linter.unusedVariables false
set_option maxRecDepth 100000
set_option linter.unusedSimpArgs false
attribute [local go_sem] Oper.semAt_some
def evEncB (x:Nat×EvB):Array Value:= #[.int .i64 (x.1:Int),.agg #[.int .i64 x.2.kind,.int .i64 x.2.who,.int .i64 x.2.pc,.int .i64 x.2.addr,.int .u32 x.2.value,.int .u32 x.2.old,.int .u32 x.2.k,.bool x.2.ok]]
structure KpOfB (n₀ Bt:Nat) (A B:World):Prop where
 below:Below n₀ A B
 keep: ∀o,A.heap[Bt]?=some o->B.heap[Bt]?=some o
theorem KpOfB.refl (n₀ Bt:Nat) (A:World):KpOfB n₀ Bt A A:=⟨Below.refl _ _,fun _ h=>h⟩
theorem KpOfB.trans {n₀ Bt:Nat} {A B C:World} (h:KpOfB n₀ Bt A B) (k:KpOfB n₀ Bt B C):KpOfB n₀ Bt A C:=⟨h.below.trans k.below,fun o ho=>k.keep o (h.keep o ho)⟩
theorem KpOfB.of_below {n₀ Bt:Nat} {A B:World} (h:Below A.heap.size A B) (hn:n₀<=A.heap.size):KpOfB n₀ Bt A B:=
 ⟨h.mono hn,fun o ho=>(h.block Bt (Array.getElem?_eq_some_iff.1 ho).1).trans ho⟩
theorem KpOfB.of_grown {n₀ Bt:Nat} {A B:World} {row:Option Nat} (hg:A.grownBy B row) (hn:n₀<=A.heap.size) (hr: ∀r,row=some r->n₀<=r/\r≠Bt):KpOfB n₀ Bt A B:=
 ⟨(Below.refl n₀ A).grown hg hn (fun k e=>(hr k e).1),fun o ho=>(hg.block Bt (Array.getElem?_eq_some_iff.1 ho).1 (fun e=>(hr Bt e.symm).2 rfl)).trans ho⟩
theorem kpOf_bB {n₀ Bt:Nat} {w:World} (hn:n₀<=w.heap.size) (hB:Bt<w.heap.size) (W:World) (l:Nat) (o o':Obj) (hl:w.heap.size<=l) (h:W.heap[l]?=some o) (h1:o.isCells=false) (h2:o.isWalk=false):KpOfB n₀ Bt W (W.putObj l o'):=
 KpOfB.of_grown (grownBy_putObj' W l o') (by have :=(Array.getElem?_eq_some_iff.1 h).1;omega) (fun r e=>by cases e;exact ⟨by omega,by omega⟩)
def OfEndB (E:Nat->EvB) (t:Int) (len:Nat) (J Jx:List (Nat×EvB)->World->Prop) (e:Ending) (W':World):Prop:=(∃v,e= .returned v)/\((∃ys,ys=evsB E t len/\J ys W')∨(∃pre,True/\Jx pre W'))
set_option maxRecDepth 100000 in
set_option maxHeartbeats 2000000 in
theorem of1_inB (F:Fence) (n:Nat) (hFn:F.fn 109) (hro:F.round=none) (hn:1<=n) (l Bs Bt n₀ b off len cap:Nat) (E:Nat->EvB) (t:Int) (hl:len<=1000000000) (hb:b<n₀) (J Jx:List (Nat×EvB)->World->Prop) (W:World) (hn₀:n₀<=W.heap.size)
 (hJ:AbidesFrom W.heap.size J)
 (hY: ∀pre x W,J pre W->pre.length<len->YieldAt F (n-1) Tryz.prog l (evEncB x) W fun e W'=>
   (e= .returned (.bool true)/\J (pre++[x]) W'/\KpOfB n₀ Bt W W')∨(e= .returned (.bool false)/\Jx (pre++[x]) W'))
 (hBs:W.cell? ⟨Bs,0,none⟩=some (.slice (some ⟨b,off,none⟩) len cap)) (ht:Blk W Bt 3 #[.int .i64 t]) (hc: ∀i,i<len-> ∀j u,(E i).cells[j]?=some u->W.cell? ⟨b,off+i*8+j,none⟩=some u) (h0:J [] W):
 CallsIn F n Tryz.prog 109 #[.func (.yield l) #[] #[], .pointer (some ⟨Bs, 0, none⟩), .pointer (some ⟨Bt, 0, none⟩)] W (OfEndB E t len J Jx) := by
 have hAl: ∀pre W1 o,J pre W1->J pre (W1.alloc o):=fun pre W1 o h=>hJ pre W1 _ none h (World.grownBy_alloc W1 o none) (fun r e=>by cases e)
 refine callsIn_of_wp Tryz.func109 rfl hFn ?_ hro
 simp only [Tryz.ntmps109,List.size_toArray,List.length_cons,List.length_nil,Nat.reduceAdd,Nat.reduceSub,Array.replicate_succ,Array.replicate_zero,List.push_toArray,List.append_toArray,List.nil_append,List.cons_append]
 gi_wp2
 gi_loopw [8] (fun i wr=> ∃k:Nat,k<=len/\i= .int .i64 k/\J (evsB E t k) wr/\KpOfB n₀ Bt W wr) (fun i _=>len-(intOf i).toNat)
 case atStart=>exact ⟨0,Nat.zero_le _,rfl,h0,KpOfB.refl _ _ _⟩
 case round=>
  obtain ⟨k,hk,rfl,hJs,hnx⟩:=hrel
  by_cases hlt:k<len
  ·have hcx: ∀j u,(E k).cells[j]?=some u->wr.cell? ⟨b,off+k*8+j,none⟩=some u:=fun j u hu=>(hnx.below.cell (p:=⟨b,_,none⟩) hb).trans (hc k hlt j u hu)
   have htx:Blk wr Bt 3 #[.int .i64 t]:=hnx.keep _ ht
   have hlt':(k:Int)<(len:Int):=by omega
   obtain ⟨x,hx⟩: ∃x,E k=x:=⟨_,rfl⟩
   rw [hx]at hcx
   have c0:=hcx 0 _ rfl
   have c1:=hcx 1 _ rfl
   have c2:=hcx 2 _ rfl
   have c3:=hcx 3 _ rfl
   have c4:=hcx 4 _ rfl
   have c5:=hcx 5 _ rfl
   have c6:=hcx 6 _ rfl
   have c7:=hcx 7 _ rfl
   rw [Nat.add_zero]at c0
   clear hcx
   have hal:=(Below.refl wr.heap.size wr).alloc (Nat.le_refl _) (.cells #[.int .i64 x.kind,.int .i64 x.who,.int .i64 x.pc,.int .i64 x.addr,.int .u32 x.value,.int .u32 x.old,.int .u32 x.k,.bool x.ok] 65)
   have htz:(wr.alloc (.cells #[.int .i64 x.kind,.int .i64 x.who,.int .i64 x.pc,.int .i64 x.addr,.int .u32 x.value,.int .u32 x.old,.int .u32 x.k,.bool x.ok] 65)).cell? ⟨Bt,0,none⟩=some (.int .i64 t):=((htx.alloc _).cell 0).trans rfl
   have hJ1:=hAl _ wr (.cells #[.int .i64 x.kind,.int .i64 x.who,.int .i64 x.pc,.int .i64 x.addr,.int .u32 x.value,.int .u32 x.old,.int .u32 x.k,.bool x.ok] 65) hJs
   have hn1:KpOfB n₀ Bt W (wr.alloc (.cells #[.int .i64 x.kind,.int .i64 x.who,.int .i64 x.pc,.int .i64 x.addr,.int .u32 x.value,.int .u32 x.old,.int .u32 x.k,.bool x.ok] 65)):=hnx.trans (KpOfB.of_below hal (Nat.le_trans hn₀ hnx.below.size))
   have HX:=Lib.hid hx
   clear hx hal
   by_cases hw:x.who=t
   ·have hwb:(x.who==t)=true:=by simpa using hw
    have HW:=Lib.hid hw
    clear hw
    obtain ⟨fn,tmps,assign,body,hy,hR⟩:=hY _ (k,x) _ hJ1 (Nat.lt_of_le_of_lt (evs_lenB E t k) hlt)
    unfold evEncB at hy
    dsimp only at hy
    gi_wp2
    refine hR.mono ?_
    rintro e W3 (⟨rfl,hJ3,hk3⟩|⟨rfl,hJx3⟩)
    ·gi_wp2
     go_roundw
     case rel=>exact ⟨k+1,by omega,by go_num,by rw [evs_hitB (by rw [HX.out];exact HW.out),HX.out];exact hJ3,hn1.trans hk3⟩
     case measure=>simp [intOf];omega
    ·gi_wp2
     refine bodyPost_ret (results_none rfl _ _ _) rfl ?_
     exact ⟨⟨_,rfl⟩,.inr ⟨_,trivial,hJx3⟩⟩
   ·have hwb:(x.who==t)=false:=by simpa using hw
    have HW:=Lib.hid hw
    clear hw
    gi_wp2
    refine ⟨fun _ h=>(by cases h),?_⟩
    gi_wp2
    go_roundw
    case rel=>exact ⟨k+1,by omega,by go_num,by rw [evs_missB (by rw [HX.out];exact HW.out)];exact hJ1,hn1⟩
    case measure=>simp [intOf];omega
  ·obtain rfl:k=len:=by omega
   have hlt': ¬(k:Int)<(k:Int):=by omega
   gi_wp2
   go_end0
   exact ⟨⟨_,rfl⟩,.inl ⟨_,rfl,hJs⟩⟩
theorem of_inB (F:Fence) (n:Nat) (hFn:F.fn 66) (hro:F.round=none) (A:Option Addr) (len cap:Nat) (t:Int) (w:World):
 CallsIn F n Tryz.prog 66 #[.slice A len cap, .int .i64 t] w fun e w' => e = .returned (.func (.func 109) #[] #[.pointer (some ⟨w.heap.size, 0, none⟩), .pointer (some ⟨w.heap.size + 1, 0, none⟩)]) /\
  w'=(w.alloc (.cells #[.slice A len cap] 40)).alloc (.cells #[.int .i64 t] 3):=by
 refine callsIn_of_wp Tryz.func66 rfl hFn ?_ hro
 simp only [Tryz.ntmps66,List.size_toArray,List.length_cons,List.length_nil,Nat.reduceAdd,Nat.reduceSub,Array.replicate_succ,Array.replicate_zero,List.push_toArray,List.append_toArray,List.nil_append,List.cons_append]
 gi_wp2
 go_ret
 exact ⟨rfl,rfl⟩
set_option maxRecDepth 100000 in
set_option maxHeartbeats 1000000 in
theorem of1_nil_inB (F:Fence) (n:Nat) (hFn:F.fn 109) (hro:F.round=none) (l Bs Bt cap:Nat) (A:Option Addr) (E:Nat->EvB) (t:Int) (J Jx:List (Nat×EvB)->World->Prop) (W:World)
 (hBs:W.cell? ⟨Bs,0,none⟩=some (.slice A 0 cap)) (h0:J [] W):
 CallsIn F n Tryz.prog 109 #[.func (.yield l) #[] #[], .pointer (some ⟨Bs, 0, none⟩), .pointer (some ⟨Bt, 0, none⟩)] W (OfEndB E t 0 J Jx) := by
 refine callsIn_of_wp Tryz.func109 rfl hFn ?_ hro
 simp only [Tryz.ntmps109,List.size_toArray,List.length_cons,List.length_nil,Nat.reduceAdd,Nat.reduceSub,Array.replicate_succ,Array.replicate_zero,List.push_toArray,List.append_toArray,List.nil_append,List.cons_append]
 gi_wp2
 gi_loopw [8] (fun i wr=>i= .int .i64 0/\J [] wr) (fun _ _=>0)
 case atStart=>exact ⟨rfl,h0⟩
 case round=>
  obtain ⟨rfl,hJs⟩:=hrel
  gi_wp2
  go_end0
  exact ⟨⟨_,rfl⟩,.inl ⟨_,rfl,hJs⟩⟩
theorem of_stopsB (F:Fence) (n:Nat) (hFn:F.fn 109) (hro:F.round=none) (hn:1<=n) (Bs Bt n₀:Nat) (A:Option Addr) (len cap:Nat) (E:Nat->EvB) (t:Int) (hl:len<=1000000000) (w:World) (hBs:Bs<w.heap.size) (hn₀:n₀<=w.heap.size)
 (hc:w.cell? ⟨Bs,0,none⟩=some (.slice A len cap)) (ht:Blk w Bt 3 #[.int .i64 t]) (hb:0<len-> ∀b off,A=some ⟨b,off,none⟩->b<n₀) (hs:SlE w A len 8 (fun i=>(E i).cells)):
 SeqStopsK F n Tryz.prog 109 #[.pointer (some ⟨Bs,0,none⟩),.pointer (some ⟨Bt,0,none⟩)] evEncB (KpOfB n₀ Bt) (fun ys=>ys=evsB E t len) (fun _=>True) len w:=fun l J Jx W hW hJ _ hY h0=>by
 have hc':=(hW.cell (p:=⟨Bs,0,none⟩) hBs).trans hc
 have ht':=ht.below hW ht.lt
 rcases Nat.eq_zero_or_pos len with rfl|hp
 ·exact of1_nil_inB F n hFn hro l Bs Bt cap A E t J Jx W hc' h0
 ·obtain ⟨b,off,rfl,hlt,hcc⟩:=hs hp
  exact of1_inB F n hFn hro hn l Bs Bt n₀ b off len cap E t hl (hb hp b off rfl) J Jx W (Nat.le_trans hn₀ hW.size) hJ hY hc' ht' (fun i hi j u hu=>(hW.cell (p:=⟨b,_,none⟩) hlt).trans (hcc i hi j u hu)) h0
def tvArrB (x:EvB):Array Value:= #[.int .i64 x.kind,.int .i64 x.who,.int .i64 x.pc,.int .i64 x.addr,.int .u32 x.value,.int .u32 x.old,.int .u32 x.k,.bool x.ok]
end Go.Proofs.YtmhfpjnkjlhbpaaGreatDoor
namespace Go.Proofs.YtmhfpjnkjlhbpaaGreatDoor
open Go.ChangeShapes Go.WideShapes Go.ChangeAt Go.RowKit Go.Deep
set_option linter.unusedVariables false
set_option maxRecDepth 100000
set_option linter.unusedSimpArgs false
structure Cl where
 (site who began ended result:Int)
 inner:List Int
instance:Inhabited Cl:=⟨⟨0,0,0,0,0,[]⟩⟩
def Cl.cellsV (c:Cl) (iv:Value):List Value:=[.int .i64 c.site,.int .i64 c.who,.int .i64 c.began,.int .i64 c.ended,.int .u32 c.result,iv]
def clC (C:List Cl) (IV:List Value):List Value:=(C.zip IV).flatMap fun p=>p.1.cellsV p.2
theorem clC_snoc (C:List Cl) (IV:List Value) (h:IV.length=C.length) (c:Cl) (iv:Value):clC (C++[c]) (IV++[iv])=clC C IV++c.cellsV iv:=by
 unfold clC
 rw [List.zip_append h.symm,List.flatMap_append]
 simp
theorem clC_len (C:List Cl) (IV:List Value) (h:IV.length=C.length):(clC C IV).length=C.length*6:=by
 unfold clC
 rw [slp_len6 (C.zip IV),List.length_zip,h,Nat.min_self]
where
 slp_len6: ∀l:List (Cl×Value),(l.flatMap fun p=>p.1.cellsV p.2).length=l.length*6
  |[]=>rfl
  |x::l=>by rw [List.flatMap_cons,List.length_append,slp_len6 l,List.length_cons];show 6+_=_;omega
structure CM (W:World) (base bl:Nat) (v:Value) (C:List Cl) (IV:List Value):Prop where
 il:IV.length=C.length
 row:W.ownsRow base 72 6 v C.length (clC C IV)
 inn: ∀j,j<C.length->W.ownsRow base 3 1 (IV.getD j undef) (C.getD j default).inner.length ((C.getD j default).inner.map (Value.int .i64))
 old: ∀j,j+1<C.length-> ∀i,(IV.getD j undef).ownBlock=some i->i<bl
 las: ∀j,j+1=C.length-> ∀i,(IV.getD j undef).ownBlock=some i->bl<=i
 b1:base<=bl
 b2:bl<=W.heap.size
section
variable {W W':World} {base bl:Nat} {v:Value} {C:List Cl} {IV:List Value}
theorem CM.nil (W:World) (base:Nat) (hb:base<=W.heap.size):CM W base base (.slice none 0 0) [] []:=
 ⟨rfl,⟨rfl,.inl ⟨rfl,rfl⟩⟩,fun j hj=>absurd hj (by simp),fun j hj=>absurd hj (by simp),fun j hj=>absurd hj (by simp),Nat.le_refl _,hb⟩
theorem CM.below (h:CM W base bl v C IV) (hb:Below W.heap.size W W'):CM W' base bl v C IV:=
 ⟨h.il,own_below h.row (Nat.le_refl _) hb,fun j hj=>own_below (h.inn j hj) (Nat.le_refl _) hb,h.old,h.las,h.b1,Nat.le_trans h.b2 hb.size⟩
theorem CM.alloc (h:CM W base bl v C IV) (o:Obj):CM (W.alloc o) base bl v C IV:=h.below ((Below.refl _ _).alloc (Nat.le_refl _) o)
theorem CM.grown {r:Nat} (h:CM W base bl v C IV) (hg:W.grownBy W' (some r)) (hr:r<base):CM W' base bl v C IV:=
 ⟨h.il,own_grown h.row hg hr,fun j hj=>own_grown (h.inn j hj) hg hr,h.old,h.las,h.b1,Nat.le_trans h.b2 hg.size⟩
theorem own_far {w w':World} {base:Nat} {e:TypeId} {size n:Nat} {v:Value} {xs:List Value} {row:Option Nat} (h:w.ownsRow base e size v n xs) (hg:w.grownBy w' row) (hne: ∀i,v.ownBlock=some i->row≠some i):w'.ownsRow base e size v n xs:=by
 obtain ⟨h1,h2⟩:=h
 refine ⟨h1,?_⟩
 rcases h2 with h2|⟨g,cap,cur,rfl,hgb,hh,q⟩
 ·exact .inl h2
 ·have hlt:g<w.heap.size:=by
   rcases Nat.lt_or_ge g w.heap.size with hlt|hge
   ·exact hlt
   ·rw [Array.getElem?_eq_none hge]at hh;cases hh
  exact .inr ⟨g,cap,cur,rfl,hgb,(hg.block g hlt (fun e=>hne g rfl e.symm)).trans hh,q⟩
theorem own_lt {w:World} {base:Nat} {e:TypeId} {size n:Nat} {v:Value} {xs:List Value} (h:w.ownsRow base e size v n xs): ∀i,v.ownBlock=some i->i<w.heap.size:=by
 intro i hi
 rcases h.2 with ⟨rfl,_⟩|⟨g,cap,cur,rfl,hgb,hh,q⟩
 ·cases hi
 ·obtain rfl:=Option.some.inj hi
  rcases Nat.lt_or_ge g w.heap.size with hlt|hge
  ·exact hlt
  ·rw [Array.getElem?_eq_none hge]at hh;cases hh
theorem CM.begin_ {w5:World} {v':Value} {c:Cl} {o:Obj} (h:CM W base bl v C IV) (hc:c.inner=[]) (hg:(W.alloc o).grownBy w5 v.ownBlock) (hown:w5.ownsRow base 72 6 v' (C.length+1) (clC C IV++c.cellsV (.slice none 0 0))):
 CM w5 base W.heap.size v' (C++[c]) (IV++[.slice none 0 0]):=by
 have h1:=h.alloc o
 have gl: ∀j,j<C.length->(IV++[Value.slice none 0 0]).getD j undef=IV.getD j undef/\(C++[c]).getD j default=C.getD j default:=fun j hj=>
  ⟨by simp [List.getD_eq_getElem?_getD,List.getElem?_append_left (show j<IV.length by rw [h.il];exact hj)],by simp [List.getD_eq_getElem?_getD,List.getElem?_append_left hj]⟩
 have ge:(IV++[Value.slice none 0 0]).getD C.length undef= .slice none 0 0/\(C++[c]).getD C.length default=c:=
  ⟨by rw [<-h.il];simp [List.getD_eq_getElem?_getD],by simp [List.getD_eq_getElem?_getD]⟩
 refine ⟨by simp [h.il],?_,fun j hj=>?_,fun j hj i hi=>?_,fun j hj i hi=>?_,Nat.le_trans h.b1 h.b2,?_⟩
 ·rw [clC_snoc _ _ h.il,List.length_append];exact hown
 ·rw [List.length_append]at hj
  rcases (by simp at hj;omega:j<C.length∨j=C.length)with hj|rfl
  ·rw [(gl j hj).1,(gl j hj).2]
   exact own_apart (h1.inn j hj) h1.row (by decide) hg
  ·rw [ge.1,ge.2,hc]
   exact ⟨rfl,.inl ⟨rfl,rfl⟩⟩
 ·rw [List.length_append]at hj
  have hj':j<C.length:=by simp at hj;exact hj
  rw [(gl j hj').1]at hi
  exact own_lt (h.inn j hj') i hi
 ·rw [List.length_append]at hj
  obtain rfl:j=C.length:=by simp at hj;exact hj
  rw [ge.1]at hi
  cases hi
 ·have :=hg.size
  simp at this
  omega
end
section
variable {W w5:World} {base bl g cap:Nat} {C:List Cl} {IV:List Value} {c:Cl} {lv:Value}
theorem snoc_get (h:IV.length=C.length):(∀(u:Value) j,j<C.length->(IV++[u]).getD j undef=IV.getD j undef)/\(∀(d:Cl) j,j<C.length->(C++[d]).getD j default=C.getD j default)/\(∀u:Value,(IV++[u]).getD C.length undef=u)/\(∀d:Cl,(C++[d]).getD C.length default=d):=
 ⟨fun u j hj=>by simp [List.getD_eq_getElem?_getD,List.getElem?_append_left (show j<IV.length by rw [h];exact hj)],fun d j hj=>by simp [List.getD_eq_getElem?_getD,List.getElem?_append_left hj],
  fun u=>by rw [<-h];simp [List.getD_eq_getElem?_getD],fun d=>by simp [List.getD_eq_getElem?_getD]⟩
theorem CM.il' (h:CM W base bl (.slice (some ⟨g,0,none⟩) (C.length+1) cap) (C++[c]) (IV++[lv])):IV.length=C.length:=by have :=h.il;simpa using this
theorem CM.cell (h:CM W base bl (.slice (some ⟨g,0,none⟩) (C.length+1) cap) (C++[c]) (IV++[lv])) (j:Nat) (hj:j<6):W.cell? ⟨g,C.length*6+j,none⟩=(c.cellsV lv)[j]?:=by
 have hrow:=h.row
 rw [clC_snoc _ _ h.il',List.length_append]at hrow
 rw [World.ownsRow.cellAt hrow _ (by show _<(C.length+1)*6;omega),List.getElem?_append_right (by rw [clC_len _ _ h.il'];omega),clC_len _ _ h.il']
 congr 1
 omega
theorem CM.frozen (h:CM W base bl (.slice (some ⟨g,0,none⟩) (C.length+1) cap) (C++[c]) (IV++[lv])) (j:Nat):W.frozen? ⟨g,j,none⟩=false:=by
 have hrow:=h.row
 rw [List.length_append]at hrow
 exact World.ownsRow.frozenAt hrow j
theorem set_last {L M N:List Value} (j:Nat) (u:Value) (h:M.set j u=N):(L++M).set (L.length+j) u=L++N:=by
 rw [List.set_append_right _ _ (by omega),Nat.add_sub_cancel_left,h]
theorem CM.inner {lv':Value} {o:Obj} {z:Int} (h:CM W base bl (.slice (some ⟨g,0,none⟩) (C.length+1) cap) (C++[c]) (IV++[lv])) (hg:(W.alloc o).grownBy w5 lv.ownBlock)
 (hown:w5.ownsRow base 3 1 lv' (c.inner.length+1) (c.inner.map (Value.int .i64)++[.int .i64 z])) (hnew:lv'.ownBlock=lv.ownBlock∨lv'.ownBlock=some (W.alloc o).heap.size):
 CM (w5.setCell ⟨g,C.length*6+5,none⟩ lv') base bl (.slice (some ⟨g,0,none⟩) (C.length+1) cap) (C++[{c with inner:=c.inner++[z]}]) (IV++[lv']):=by
 have h1:=h.alloc o
 obtain ⟨s1,s2,s3,s4⟩:=snoc_get h.il'
 have hlast:=h1.inn C.length (by simp)
 rw [s3,s4]at hlast
 have hlas:=h.las C.length (by simp)
 rw [s3]at hlas
 have hrow5:w5.ownsRow base 72 6 (.slice (some ⟨g,0,none⟩) (C.length+1) cap) (C.length+1) (clC C IV++c.cellsV lv):=by
  have :=own_apart h1.row hlast (by decide) hg
  rwa [clC_snoc _ _ h.il',List.length_append]at this
 have hst:=hrow5.stored (C.length*6+5) lv'
 have hset:w5.grownBy (w5.setCell ⟨g,C.length*6+5,none⟩ lv') (some g):=hst.2
 refine ⟨by simp [h.il'],?_,fun j hj=>?_,fun j hj i hi=>?_,fun j hj i hi=>?_,h.b1,?_⟩
 ·rw [clC_snoc _ _ h.il',List.length_append]
  have :=hst.1
  rw [<-clC_len C IV h.il',set_last 5 lv' (N:=Cl.cellsV {c with inner:=c.inner++[z]} lv') rfl]at this
  rw [clC_len C IV h.il']at this
  exact this
 ·rw [List.length_append]at hj
  rcases (by simp at hj;omega:j<C.length∨j=C.length)with hj|rfl
  ·rw [s1 _ j hj,s2 _ j hj]
   have h2:=h1.inn j (by simp;omega)
   rw [s1 _ j hj,s2 _ j hj]at h2
   have ho:=h.old j (by simp;omega)
   rw [s1 _ j hj]at ho
   exact own_apart (own_far h2 hg (fun i e e2=>by have :=ho i e;have :=hlas i e2;omega)) hrow5 (by decide) hset
  ·rw [s3,s4,List.length_append,List.map_append]
   exact own_apart hown hrow5 (by decide) hset
 ·rw [List.length_append]at hj
  have hj':j<C.length:=by simp at hj;exact hj
  rw [s1 _ j hj']at hi
  have ho:=h.old j (by simp;omega)
  rw [s1 _ j hj']at ho
  exact ho i hi
 ·rw [List.length_append]at hj
  obtain rfl:j=C.length:=by simp at hj;exact hj
  rw [s3]at hi
  rcases hnew with e|e
  ·rw [e]at hi;exact hlas i hi
  ·rw [e]at hi
   have :=Option.some.inj hi
   have :=h1.b2
   omega
 ·exact Nat.le_trans h1.b2 (Nat.le_trans hg.size hset.size)
theorem CM.later {o:Obj} (h:CM W base bl (.slice (some ⟨g,0,none⟩) (C.length+1) cap) (C++[c]) (IV++[lv])) (hg:(W.alloc o).grownBy w5 lv.ownBlock):w5.cell? ⟨g,C.length*6+5,none⟩=some lv/\w5.frozen? ⟨g,C.length*6+5,none⟩=false:=by
 have h1:=h.alloc o
 obtain ⟨s1,s2,s3,s4⟩:=snoc_get h.il'
 have hlast:=h1.inn C.length (by simp)
 rw [s3,s4]at hlast
 have hrow5:w5.ownsRow base 72 6 (.slice (some ⟨g,0,none⟩) (C.length+1) cap) (C.length+1) (clC C IV++c.cellsV lv):=by
  have :=own_apart h1.row hlast (by decide) hg
  rwa [clC_snoc _ _ h.il',List.length_append]at this
 refine ⟨?_,hrow5.frozenAt _⟩
 rw [hrow5.cellAt _ (by omega),List.getElem?_append_right (by rw [clC_len _ _ h.il'];omega),clC_len _ _ h.il',Nat.add_sub_cancel_left]
 rfl
theorem CM.fin (z:Int) (r:Int) (h:CM W base bl (.slice (some ⟨g,0,none⟩) (C.length+1) cap) (C++[c]) (IV++[lv])):
 CM ((W.setCell ⟨g,C.length*6+3,none⟩ (.int .i64 z)).setCell ⟨g,C.length*6+4,none⟩ (.int .u32 r)) base bl (.slice (some ⟨g,0,none⟩) (C.length+1) cap) (C++[{c with ended:=z,result:=r}]) (IV++[lv]):=by
 obtain ⟨s1,s2,s3,s4⟩:=snoc_get h.il'
 have hrow:=h.row
 rw [clC_snoc _ _ h.il',List.length_append]at hrow
 have st1:=hrow.stored (C.length*6+3) (.int .i64 z)
 have st2:=World.ownsRow.stored st1.1 (C.length*6+4) (.int .u32 r)
 have hg:W.grownBy ((W.setCell ⟨g,C.length*6+3,none⟩ (.int .i64 z)).setCell ⟨g,C.length*6+4,none⟩ (.int .u32 r)) (some g):=grown_trans' st1.2 st2.2
 refine ⟨by simp [h.il'],?_,fun j hj=>?_,fun j hj i hi=>?_,fun j hj i hi=>?_,h.b1,Nat.le_trans h.b2 hg.size⟩
 ·rw [clC_snoc _ _ h.il',List.length_append]
  have :=st2.1
  rw [<-clC_len C IV h.il',set_last 3 _ (N:=Cl.cellsV {c with ended:=z} lv) rfl,set_last 4 _ (N:=Cl.cellsV {c with ended:=z,result:=r} lv) rfl]at this
  rw [clC_len C IV h.il']at this
  exact this
 ·rw [List.length_append]at hj
  rcases (by simp at hj;omega:j<C.length∨j=C.length)with hj|rfl
  ·rw [s2 _ j hj]
   have h2:=h.inn j (by simp;omega)
   rw [s2 _ j hj]at h2
   exact own_apart h2 hrow (by decide) hg
  ·rw [s4]
   have h2:=h.inn C.length (by simp)
   rw [s4]at h2
   exact own_apart h2 hrow (by decide) hg
 ·exact h.old j (by simp at hj⊢;omega) i hi
 ·exact h.las j (by simp at hj⊢;omega) i hi
end
def modLast (f:Cl->Cl) (C:List Cl):List Cl:=match C.getLast? with
 |some c=>C.dropLast++[f c]
 |none=>C
def lastSite (C:List Cl):Int:=match C.getLast? with
 |some c=>c.site
 |none=>0
theorem modLast_snoc (f:Cl->Cl) (C:List Cl) (c:Cl):modLast f (C++[c])=C++[f c]:=by
 unfold modLast
 simp
theorem lastSite_snoc (C:List Cl) (c:Cl):lastSite (C++[c])=c.site:=by
 unfold lastSite
 simp
def cstep (t:Int) (s:List Cl×Bool) (x:Nat×EvB):List Cl×Bool:=
 if x.2.kind≠7 then (if s.2=true/\x.2.kind≠3 then (modLast (fun c=>{c with inner:=c.inner++[(x.1:Int)]}) s.1,true)else s)
 else if x.2.k % 2=0 then (s.1++[⟨x.2.k/2,t,(x.1:Int),-1,0,[]⟩],true)
 else if s.2=true/\lastSite s.1=x.2.k/2 then (modLast (fun c=>{c with ended:=(x.1:Int),result:=x.2.value}) s.1,false)else s
def callsF (t:Int) (pre:List (Nat×EvB)):List Cl×Bool:=pre.foldl (cstep t) ([],false)
theorem callsF_snoc (t:Int) (pre:List (Nat×EvB)) (x:Nat×EvB):callsF t (pre++[x])=cstep t (callsF t pre) x:=by unfold callsF;rw [List.foldl_append];rfl
end Go.Proofs.YtmhfpjnkjlhbpaaGreatDoor
