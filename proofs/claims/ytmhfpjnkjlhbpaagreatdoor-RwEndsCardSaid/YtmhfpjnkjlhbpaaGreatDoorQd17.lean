/- slices.Clone of rows that came in or are owned; a machine in the making. Machines of both kinds: the general lemmas (events, queues, what picks keep, rows, Small). -/
import Derived.Test.YtmhfpjnkjlhbpaaGreatDoorQd16
import Derived.Laws.MakeOwn
import Derived.Test.YtmhfpjnkjlhbpaaGreatDoorQd03
namespace Go.Proofs.YtmhfpjnkjlhbpaaGreatDoor
open Go.ChangeShapes Go.WideShapes Go.ChangeAt Go.RowKit Go.Deep
set_option linter.unusedVariables false
set_option maxRecDepth 100000
set_option linter.unusedSimpArgs false
open List renaming getElem_toArray->zA
theorem own_zero (w:World) (t:TypeId) (size:Nat):(w.alloc (.cells #[] t)).ownsRow w.heap.size t size (.slice (some ⟨w.heap.size,0,none⟩) 0 0) 0 []:=
 ⟨by simp,.inr ⟨_,0,#[],rfl,Nat.le_refl _,heap_alloc_new w _,Nat.le_refl _,Nat.zero_le _,by simp,by simp⟩⟩
theorem words_info5:(Tryz.prog.info? 42).map (fun i=>(i.zero,i.size,i.bytes))=some (some (.int .u32 0),1,4):=by kernel_rfl
set_option maxHeartbeats 1000000 in
theorem clone_words (A:Option Addr) (n cap:Nat) (C:Nat->Value) (w:World) (hA:A=none->n=0) (hs:Sl w A (n*1) C) (h1: ∀k,k<n*1->(C k).oneCell'=true) (hn:n<=2000000000):
 Calls Tryz.prog 43 #[.slice A n cap] w fun e w'=> ∃v,e= .returned v/\w'.ownsRow w.heap.size 42 1 v n ((List.range (n*1)).map C)/\Below w.heap.size w w':=by
 have hq:=fun w a n c=>Lib.run_eql_slice_nil (P:=Tryz.prog) w 27 42 a n c 0 0 Tryz.underlying27
 cases A with
 |none=>
  obtain rfl:=hA rfl
  clear hA hs h1
  go_enter Tryz.func43,Tryz.ntmps43
  go_wp2
  go_ret
  exact ⟨_,rfl,⟨by simp,.inl ⟨rfl,rfl⟩⟩,Below.refl _ _⟩
 |some a=>
  clear hA
  have hal:=(Below.refl w.heap.size w).alloc (Nat.le_refl _) (.cells #[] 42)
  have hs2:=hs.step hal
  have hown:=own_zero w 42 1
  obtain ⟨i0,hi,hy0,hy1,hy2⟩:=info_parts words_info5
  clear hs
  go_enter Tryz.func43,Tryz.ntmps43
  go_wp2_with (at_builtin;refine wpList_append_sl _ rfl (.tmp 5) (.tmp 6) 27 rfl w.heap.size 42 i0 _ 1 4 Tryz.underlying27 hi hy0 hy1 hy2 rfl (by omega) _ 0 _ rfl hown _ n _ C rfl hs2 h1 (by unfold maxLen;omega) (by omega) hal.size ?_;intro v' w5 hown5 hg5 _;have hB5:=below_own hal hown hg5 (Nat.le_refl _) (Nat.le_refl _))
  rw [Nat.zero_add,List.nil_append]at hown5
  go_ret
  exact ⟨_,rfl,hown5,hB5⟩
theorem clone_words_own (v:Value) (n base:Nat) (xs:List Value) (w:World) (h:w.ownsRow base 42 1 v n xs) (h1: ∀x∈xs,x.oneCell'=true) (hn:n<=2000000000):
 Calls Tryz.prog 43 #[v] w fun e w'=> ∃v',e= .returned v'/\w'.ownsRow w.heap.size 42 1 v' n xs/\Below w.heap.size w w':=by
 obtain ⟨A,cap,rfl,_,hs⟩:=own_sl h
 have hl:xs.length=n*1:=h.1
 refine (clone_words A n cap _ w (fun e=>?_) hs (fun k hk=>?_) hn).mono fun e w' ⟨v',he,hr,hb⟩=>⟨v',he,?_,hb⟩
 ·rcases h.2 with ⟨h2,h3⟩|⟨g,c,cur,h2,_⟩
  ·exact h3
  ·injection h2 with h2 _ _
   rw [e]at h2
   cases h2
 ·refine h1 _ ?_
  rw [List.getD_eq_getElem?_getD,List.getElem?_eq_getElem (by omega)]
  exact List.getElem_mem _
 ·rw [range_getD xs (n*1) hl]at hr
  exact hr
theorem instrs_info5:(Tryz.prog.info? 75).map (fun i=>(i.zero,i.size,i.bytes))=some (some (.agg #[.int .i64 0,.int .i64 0,.int .i64 0,.int .i64 0,.int .u32 0]),5,40):=by kernel_rfl
set_option maxHeartbeats 1000000 in
theorem clone_instrs (A:Option Addr) (n cap:Nat) (C:Nat->Value) (w:World) (hA:A=none->n=0) (hs:Sl w A (n*5) C) (h1: ∀k,k<n*5->(C k).oneCell'=true) (hn:n<=2000000000):
 Calls Tryz.prog 45 #[.slice A n cap] w fun e w'=> ∃v,e= .returned v/\w'.ownsRow w.heap.size 75 5 v n ((List.range (n*5)).map C)/\Below w.heap.size w w':=by
 have hq:=fun w a n c=>Lib.run_eql_slice_nil (P:=Tryz.prog) w 50 75 a n c 0 0 Tryz.underlying50
 cases A with
 |none=>
  obtain rfl:=hA rfl
  clear hA hs h1
  go_enter Tryz.func45,Tryz.ntmps45
  go_wp2
  go_ret
  exact ⟨_,rfl,⟨by simp,.inl ⟨rfl,rfl⟩⟩,Below.refl _ _⟩
 |some a=>
  clear hA
  have hal:=(Below.refl w.heap.size w).alloc (Nat.le_refl _) (.cells #[] 75)
  have hs2:=hs.step hal
  have hown:=own_zero w 75 5
  obtain ⟨i0,hi,hy0,hy1,hy2⟩:=info_parts instrs_info5
  clear hs
  go_enter Tryz.func45,Tryz.ntmps45
  go_wp2_with (at_builtin;refine wpList_append_sl _ rfl (.tmp 5) (.tmp 6) 50 rfl w.heap.size 75 i0 _ 5 40 Tryz.underlying50 hi hy0 hy1 hy2 rfl (by omega) _ 0 _ rfl hown _ n _ C rfl hs2 h1 (by unfold maxLen;omega) (by omega) hal.size ?_;intro v' w5 hown5 hg5 _;have hB5:=below_own hal hown hg5 (Nat.le_refl _) (Nat.le_refl _))
  rw [Nat.zero_add,List.nil_append]at hown5
  go_ret
  exact ⟨_,rfl,hown5,hB5⟩
theorem clone_instrs_own (v:Value) (n base:Nat) (xs:List Value) (w:World) (h:w.ownsRow base 75 5 v n xs) (h1: ∀x∈xs,x.oneCell'=true) (hn:n<=2000000000):
 Calls Tryz.prog 45 #[v] w fun e w'=> ∃v',e= .returned v'/\w'.ownsRow w.heap.size 75 5 v' n xs/\Below w.heap.size w w':=by
 obtain ⟨A,cap,rfl,_,hs⟩:=own_sl h
 have hl:xs.length=n*5:=h.1
 refine (clone_instrs A n cap _ w (fun e=>?_) hs (fun k hk=>?_) hn).mono fun e w' ⟨v',he,hr,hb⟩=>⟨v',he,?_,hb⟩
 ·rcases h.2 with ⟨h2,h3⟩|⟨g,c,cur,h2,_⟩
  ·exact h3
  ·injection h2 with h2 _ _
   rw [e]at h2
   cases h2
 ·refine h1 _ ?_
  rw [List.getD_eq_getElem?_getD,List.getElem?_eq_getElem (by omega)]
  exact List.getElem_mem _
 ·rw [range_getD xs (n*5) hl]at hr
  exact hr
theorem events_info5:(Tryz.prog.info? 65).map (fun i=>(i.zero,i.size,i.bytes))=some (some (.agg #[.int .i64 0,.int .i64 0,.int .i64 0,.int .i64 0,.int .u32 0,.int .u32 0,.int .u32 0,.bool false]),8,48):=by kernel_rfl
set_option maxHeartbeats 1000000 in
theorem clone_events (A:Option Addr) (n cap:Nat) (C:Nat->Value) (w:World) (hA:A=none->n=0) (hs:Sl w A (n*8) C) (h1: ∀k,k<n*8->(C k).oneCell'=true) (hn:n<=2000000000):
 Calls Tryz.prog 49 #[.slice A n cap] w fun e w'=> ∃v,e= .returned v/\w'.ownsRow w.heap.size 65 8 v n ((List.range (n*8)).map C)/\Below w.heap.size w w':=by
 have hq:=fun w a n c=>Lib.run_eql_slice_nil (P:=Tryz.prog) w 40 65 a n c 0 0 Tryz.underlying40
 cases A with
 |none=>
  obtain rfl:=hA rfl
  clear hA hs h1
  go_enter Tryz.func49,Tryz.ntmps49
  go_wp2
  go_ret
  exact ⟨_,rfl,⟨by simp,.inl ⟨rfl,rfl⟩⟩,Below.refl _ _⟩
 |some a=>
  clear hA
  have hal:=(Below.refl w.heap.size w).alloc (Nat.le_refl _) (.cells #[] 65)
  have hs2:=hs.step hal
  have hown:=own_zero w 65 8
  obtain ⟨i0,hi,hy0,hy1,hy2⟩:=info_parts events_info5
  clear hs
  go_enter Tryz.func49,Tryz.ntmps49
  go_wp2_with (at_builtin;refine wpList_append_sl _ rfl (.tmp 5) (.tmp 6) 40 rfl w.heap.size 65 i0 _ 8 48 Tryz.underlying40 hi hy0 hy1 hy2 rfl (by omega) _ 0 _ rfl hown _ n _ C rfl hs2 h1 (by unfold maxLen;omega) (by omega) hal.size ?_;intro v' w5 hown5 hg5 _;have hB5:=below_own hal hown hg5 (Nat.le_refl _) (Nat.le_refl _))
  rw [Nat.zero_add,List.nil_append]at hown5
  go_ret
  exact ⟨_,rfl,hown5,hB5⟩
theorem clone_events_own (v:Value) (n base:Nat) (xs:List Value) (w:World) (h:w.ownsRow base 65 8 v n xs) (h1: ∀x∈xs,x.oneCell'=true) (hn:n<=2000000000):
 Calls Tryz.prog 49 #[v] w fun e w'=> ∃v',e= .returned v'/\w'.ownsRow w.heap.size 65 8 v' n xs/\Below w.heap.size w w':=by
 obtain ⟨A,cap,rfl,_,hs⟩:=own_sl h
 have hl:xs.length=n*8:=h.1
 refine (clone_events A n cap _ w (fun e=>?_) hs (fun k hk=>?_) hn).mono fun e w' ⟨v',he,hr,hb⟩=>⟨v',he,?_,hb⟩
 ·rcases h.2 with ⟨h2,h3⟩|⟨g,c,cur,h2,_⟩
  ·exact h3
  ·injection h2 with h2 _ _
   rw [e]at h2
   cases h2
 ·refine h1 _ ?_
  rw [List.getD_eq_getElem?_getD,List.getElem?_eq_getElem (by omega)]
  exact List.getElem_mem _
 ·rw [range_getD xs (n*8) hl]at hr
  exact hr
theorem threads_info5:(Tryz.prog.info? 124).map (fun i=>(i.zero,i.size,i.bytes))=some (some (.agg #[.int .i64 0,.int .u32 0,.int .u32 0,.int .u32 0,.int .u32 0,.int .u32 0,.int .u32 0,.int .u32 0,.int .u32 0,.int .i64 0]),10,48):=by kernel_rfl
structure MNew (L:Lay) (B:MB) (s:Mst) (N:Nat) (W:World) (V:Nat->Value) (bcs:List (Array Value)):Prop where
 hN:2<=N
 mb:N<=B.mb
 blk:Blk W B.mb L.tm (L.arr V s.who)
 rows: ∀j,j<6->W.ownsRow N (ety j) (esz j) (V j) (cnt B s j) (cel B s bcs j)
 codes: ∀c∈B.codes,W.ownsRow N 75 5 c.val c.len ((List.range c.len).flatMap fun i=>(c.F i).cells)
 bufs:BufsOk B.room s.bufs bcs
 mem:s.mem.length=B.m
section
variable {L:Lay} {B:MB} {s:Mst} {N:Nat} {W W':World} {V:Nat->Value} {bcs:List (Array Value)}
theorem MNew.inv (h:MNew L B s N W V bcs):MInv L B s (fun i=>N<=i/\i<W.heap.size) W:=
 ⟨V,bcs,⟨fun i hi=>⟨Nat.le_trans h.hN hi.1,hi.2⟩,⟨h.mb,h.blk.lt⟩,fun j hj g hg=>own_in (h.rows j hj) g hg,fun c hc g hg=>own_in (h.codes c hc) g hg,h.blk,fun j hj=>own_base (h.rows j hj) (Nat.zero_le _),fun c hc=>own_base (h.codes c hc) (Nat.zero_le _),h.bufs,h.mem⟩⟩
theorem MNew.below (h:MNew L B s N W V bcs) (k:Below W.heap.size W W'):MNew L B s N W' V bcs:=
 ⟨h.hN,h.mb,h.blk.below k h.blk.lt,fun j hj=>own_below (h.rows j hj) (Nat.le_refl _) k,fun c hc=>own_below (h.codes c hc) (Nat.le_refl _) k,h.bufs,h.mem⟩
theorem MNew.addCode (h:MNew L B s N W V bcs) (hh:L.has 0=true) {c:Cd} (hc:W.ownsRow N 75 5 c.val c.len ((List.range c.len).flatMap fun i=>(c.F i).cells)) {v':Value} {W4:World} (hg:W.grownBy W4 (V 0).ownBlock)
 (hr:W4.ownsRow N 50 1 v' (B.codes.length+1) (B.codes.map Cd.val++[c.val])):
 MNew L {B with codes:=B.codes++[c]} s N (W4.setCell ⟨B.mb,L.pos 0,none⟩ v') (updV V 0 v') bcs:=by
 have h0:W.ownsRow N 50 1 (V 0) (cnt B s 0) (cel B s bcs 0):=h.rows 0 (by decide)
 have hb4:=h.blk.grown hg (row_ne h.blk h0 (L.ne 0 (by decide)))
 have hg5:W4.grownBy (W4.setCell ⟨B.mb,L.pos 0,none⟩ v') (some B.mb):=set_only _
 refine ⟨h.hN,h.mb,?_,fun j hj=>?_,fun d hd=>?_,h.bufs,h.mem⟩
 ·rw [<-L.set V s.who 0 v' (by decide) hh]
  exact hb4.set_ _ _
 ·by_cases hj0:j=0
  ·subst hj0
   rw [updV_self]
   show (W4.setCell ⟨B.mb,L.pos 0,none⟩ v').ownsRow N 50 1 v' (B.codes++[c]).length ((B.codes++[c]).map Cd.val)
   rw [List.length_append,List.map_append]
   exact row_grown hr hg5 (row_ne hb4 hr (L.ne 0 (by decide)))
  ·rw [updV_ne V v' hj0]
   have hrj:=own_apart (h.rows j hj) h0 (ety_ne j hj 0 (by decide) hj0) hg
   have :=row_grown hrj hg5 (row_ne hb4 hrj (L.ne j hj))
   have hsame:cnt {B with codes:=B.codes++[c]} s j=cnt B s j/\cel {B with codes:=B.codes++[c]} s bcs j=cel B s bcs j:=by
    rcases (by omega:j=1∨j=2∨j=3∨j=4∨j=5)with rfl|rfl|rfl|rfl|rfl<;>exact ⟨rfl,rfl⟩
   rw [hsame.1,hsame.2]
   exact this
 ·have hd':W.ownsRow N 75 5 d.val d.len ((List.range d.len).flatMap fun i=>(d.F i).cells):=by
   rcases List.mem_append.1 hd with hd|hd
   ·exact h.codes d hd
   ·rw [List.mem_singleton.1 hd];exact hc
  have hd4:=own_apart hd' h0 (by decide) hg
  exact row_grown hd4 hg5 (row_ne hb4 hd4 L.ni)
theorem MNew.addBuf (h:MNew L B s N W V bcs) (hh:L.has 2=true) {cs:Array Value} (hb:Buf cs [] B.room) {v':Value} {W4:World} (hg:W.grownBy W4 (V 2).ownBlock)
 (hr:W4.ownsRow N 114 35 v' (s.bufs.length+1) (bcs.flatMap Array.toList++cs.toList)):
 MNew L B {s with bufs:=s.bufs++[[]]} N (W4.setCell ⟨B.mb,L.pos 2,none⟩ v') (updV V 2 v') (bcs++[cs]):=by
 have h0:W.ownsRow N 114 35 (V 2) (cnt B s 2) (cel B s bcs 2):=h.rows 2 (by decide)
 have hb4:=h.blk.grown hg (row_ne h.blk h0 (L.ne 2 (by decide)))
 have hg5:W4.grownBy (W4.setCell ⟨B.mb,L.pos 2,none⟩ v') (some B.mb):=set_only _
 refine ⟨h.hN,h.mb,?_,fun j hj=>?_,fun d hd=>?_,⟨by simp [h.bufs.len],fun t ht=>?_⟩,h.mem⟩
 ·show Blk _ _ _ (L.arr (updV V 2 v') s.who)
  rw [<-L.set V s.who 2 v' (by decide) hh]
  exact hb4.set_ _ _
 ·by_cases hj0:j=2
  ·subst hj0
   rw [updV_self]
   have q:(W4.setCell ⟨B.mb,L.pos 2,none⟩ v').ownsRow N 114 35 v' (s.bufs.length+1) (bcs.flatMap Array.toList++cs.toList):=row_grown hr hg5 (row_ne hb4 hr (L.ne 2 (by decide)))
   have e1:(s.bufs++[([]:List Ent)]).length=s.bufs.length+1:=by simp
   have e2:(bcs++[cs]).flatMap Array.toList=bcs.flatMap Array.toList++cs.toList:=by simp
   rw [<-e1,<-e2]at q
   exact q
  ·rw [updV_ne V v' hj0]
   have hrj:=own_apart (h.rows j hj) h0 (ety_ne j hj 2 (by decide) hj0) hg
   have :=row_grown hrj hg5 (row_ne hb4 hrj (L.ne j hj))
   have hsame:cnt B {s with bufs:=s.bufs++[[]]} j=cnt B s j/\cel B {s with bufs:=s.bufs++[[]]} (bcs++[cs]) j=cel B s bcs j:=by
    rcases (by omega:j=0∨j=1∨j=3∨j=4∨j=5)with rfl|rfl|rfl|rfl|rfl<;>exact ⟨rfl,rfl⟩
   rw [hsame.1,hsame.2]
   exact this
 ·have hd4:=own_apart (h.codes d hd) h0 (by decide) hg
  exact row_grown hd4 hg5 (row_ne hb4 hd4 L.ni)
 ·have hlen:=h.bufs.len
  rw [List.length_append]at ht
  show Buf ((bcs++[cs]).getD t #[]) ((s.bufs++[[]]).getD t []) B.room
  rcases Nat.lt_or_ge t s.bufs.length with h1|h1
  ·have :=h.bufs.buf t h1
   simp only [List.getD_eq_getElem?_getD,List.getElem?_append_left h1,List.getElem?_append_left (show t<bcs.length by omega)]at this⊢
   exact this
  ·obtain rfl:t=s.bufs.length:=by simp at ht;omega
   have e:(bcs++[cs]).getD s.bufs.length #[]=cs:=by rw [<-hlen];simp [List.getD_eq_getElem?_getD]
   rw [e]
   simpa [List.getD_eq_getElem?_getD]using hb
end
structure NewM (p:Pg) (B:MB):Prop where
 m:B.m=p.m
 n:B.codes.length=p.n
 cd: ∀t,t<p.n->(B.codes.getD t cdd).len=(p.cd t).len/\(B.codes.getD t cdd).F=(p.cd t).F/\(B.codes.getD t cdd).Ok
theorem thA_get (j : Nat) (h : j < 10) : (#[.int .i64 0, .int .u32 0, .int .u32 0, .int .u32 0, .int .u32 0, .int .u32 0, .int .u32 0, .int .u32 0, .int .u32 0, .int .i64 0] : Array Value)[j]! = tha.cells.getD j undef := by
 rcases (by omega:j=0∨j=1∨j=2∨j=3∨j=4∨j=5∨j=6∨j=7∨j=8∨j=9)with rfl|rfl|rfl|rfl|rfl|rfl|rfl|rfl|rfl|rfl<;>rfl
theorem threads_made (n:Nat):madeCells #[.int .i64 0,.int .u32 0,.int .u32 0,.int .u32 0,.int .u32 0,.int .u32 0,.int .u32 0,.int .u32 0,.int .u32 0,.int .i64 0] (n*10)=((List.replicate n tha).flatMap Th.cells).toArray:=by
 apply Array.ext
 ·rw [size_madeCells,List.size_toArray,flat_len Th.cells 10 th_len10,List.length_replicate]
 ·intro k h1 h2
  rw [size_madeCells]at h1
  have hf:=flat_get Th.cells 10 th_len10 tha (List.replicate n tha) (k/10) (by rw [List.length_replicate];omega) (k % 10) (by omega)
  have e1:(List.replicate n tha).getD (k/10) tha=tha:=by
   rw [List.getD_eq_getElem?_getD,List.getElem?_replicate]
   split<;>rfl
  rw [e1,show k/10*10+k % 10=k by omega]at hf
  have e2:=thA_get (k % 10) (by omega)
  have e3:(madeCells #[.int .i64 0,.int .u32 0,.int .u32 0,.int .u32 0,.int .u32 0,.int .u32 0,.int .u32 0,.int .u32 0,.int .u32 0,.int .i64 0] (n*10))[k]'(by rw [size_madeCells];exact h1)=tha.cells.getD (k % 10) undef:=by
   rw [<-e2]
   simp only [madeCells,Array.getElem_map,Array.getElem_range]
   rfl
  rw [e3]
  rw [List.size_toArray]at h2
  rw [List.getElem?_eq_getElem h2]at hf
  rw [zA,List.getD_eq_getElem?_getD,<-hf]
  rfl
theorem Moves.pre {L:Lay} {B:MB} {s:Mst} {own:Nat->Prop} {W W1 W2:World} (hk:Below W.heap.size W W1) (h:Moves (MInv L B) s own W1 W2):Moves (MInv L B) s own W W2:=Moves.after (fun j hj=> .inl hj) (KeepOut.of_below hk) h
theorem below_drew (W:World):Below W.heap.size W W.drew:=⟨rfl,rfl,rfl,Nat.le_refl _,fun _ _=>rfl⟩
def evArr (x:Evt):Array Value:= #[.int .i64 x.kind,.int .i64 x.who,.int .i64 x.pc,.int .i64 x.addr,.int .u32 x.value,.int .u32 x.old,.int .u32 x.k,.bool x.ok]
theorem evt_info:(Tryz.prog.info? 65).map (·.size)=some 8:=by kernel_rfl
theorem evt_info3:(Tryz.prog.info? 65).map (fun i=>(i.zero,i.size,i.bytes))=some (some (.agg #[.int .i64 0,.int .i64 0,.int .i64 0,.int .i64 0,.int .u32 0,.int .u32 0,.int .u32 0,.bool false]),8,48):=by kernel_rfl
theorem evt_one (x:Evt): ∀k,k<1*8->(x.cells.getD k undef).oneCell'=true:=fun k hk=>by
 rcases (by omega:k=0∨k=1∨k=2∨k=3∨k=4∨k=5∨k=6∨k=7)with rfl|rfl|rfl|rfl|rfl|rfl|rfl|rfl<;>rfl
theorem MParts.sleeps {L:Lay} {B:MB} {s:Mst} {own:Nat->Prop} {W:World} {V:Nat->Value} {bcs:List (Array Value)} (h:MParts L B s own W V bcs) (hh:L.has 4=true) (hm:s.slp.length<=10000) (t:Int) (a:Nat):
 Calls Tryz.prog 172 #[.pointer (some ⟨B.mb,L.pos 4,none⟩),.int .i64 t,.int .i64 (a:Int)] W fun e W'=>(∃u,e= .returned u)/\Moves (MInv L B) (sleepM t s a) own W W':=by
 unfold sleepM
 by_cases he:slpE s.slp t=0
 ·rw [if_pos he]
  exact (sleep_yesM B.mb (L.pos 4) L.tm (L.arr V s.who) (V 4) s.slp hm t (a:Int) he W (h.km hh)).mono fun e W' ⟨h1,h2⟩=>⟨⟨_,h1⟩,h.slept hh h2⟩
 ·rw [if_neg he]
  exact (sleep_noM B.mb (L.pos 4) L.tm (L.arr V s.who) (V 4) s.slp (by omega) t (a:Int) he W (h.km hh)).mono fun e W' ⟨h1,h2⟩=>⟨⟨_,h1⟩,h.inv.idle h2⟩
def rouseK (t:Nat) (s:Mst):Bool×Mst:=if fnd s.slp (t:Int)<s.slp.length then (true,{s with slp:=s.slp.eraseIdx (fnd s.slp (t:Int))})else (false,s)
theorem MParts.rouses {L:Lay} {B:MB} {s:Mst} {own:Nat->Prop} {W:World} {V:Nat->Value} {bcs:List (Array Value)} (h:MParts L B s own W V bcs) (hh:L.has 4=true) (hm:s.slp.length<=10000) (t:Nat):
 Calls Tryz.prog 76 #[.pointer (some ⟨B.mb,L.pos 4,none⟩),.int .i64 (t:Int)] W fun e W'=>e= .returned (.bool (rouseK t s).1)/\Moves (MInv L B) (rouseK t s).2 own W W':=by
 unfold rouseK
 by_cases he:fnd s.slp (t:Int)<s.slp.length
 ·rw [if_pos he]
  exact (rouse_yesM B.mb (L.pos 4) L.tm (L.arr V s.who) (V 4) s.slp hm (t:Int) he W (h.km hh)).mono fun e W' ⟨h1,h2⟩=>⟨h1,h.slept hh h2⟩
 ·rw [if_neg he]
  exact (rouse_noM B.mb (L.pos 4) L.tm (L.arr V s.who) (V 4) s.slp hm (t:Int) he W (h.km hh)).mono fun e W' ⟨h1,h2⟩=>⟨h1,h.inv.idle h2⟩
theorem MParts.wakes {L:Lay} {B:MB} {s:Mst} {own:Nat->Prop} {W:World} {V:Nat->Value} {bcs:List (Array Value)} (h:MParts L B s own W V bcs) (hh:L.has 4=true) (hm:s.slp.length<=10000) (a n:Nat) (hn:n<=4294967295):
 Calls Tryz.prog 173 #[.pointer (some ⟨B.mb,L.pos 4,none⟩),.int .i64 (a:Int),.int .u32 (n:Int)] W fun e W'=> ∃ov,e= .returned ov/\W'.ownsRow W.heap.size 3 1 ov (wk (a:Int) n s.slp).2.length ((wk (a:Int) n s.slp).2.map (Value.int .i64))/\Moves (MInv L B) {s with slp:=(wk (a:Int) n s.slp).1} own W W':=
 (wake_anyM B.mb (L.pos 4) L.tm (L.arr V s.who) (V 4) s.slp hm (a:Int) n hn W (h.km hh)).mono fun e W' ⟨ov,h1,h2,h3⟩=>⟨ov,h1,h2,h.slept hh h3⟩
theorem runT_take (ths:List Th) (l:List Int) (k:Nat) (h:k<l.length):runT ths (l.take (k+1))=(runT ths (l.take k)).set (l.getD k 0).toNat {(runT ths (l.take k)).getD (l.getD k 0).toNat tha with st:=0}:=by
 rw [take_snoc l k 0 h]
 unfold runT
 rw [List.foldl_append]
 rfl
structure MBok (B:MB):Prop where
 n8:B.codes.length<=8
 m:B.m<=1024
 cods: ∀c∈B.codes,c.Ok
structure SlpOk (nt:Nat) (l:List Slp):Prop where
 nd:(l.map (·.1)).Nodup
 lo: ∀x∈l,0<=x.1/\x.1<(nt:Int)
theorem nodup_le: ∀(n:Nat) (l:List Int),l.Nodup->(∀x∈l,0<=x/\x<(n:Int))->l.length<=n
 |0,[],_,_=>Nat.le_refl _
 |0,x::l,_,h=>by have :=h x (by simp);omega
 |n+1,l,hn,h=>by
  by_cases hm:(n:Int)∈l
  ·have h1:=nodup_le n (l.erase (n:Int)) (hn.erase _) (fun x hx=>by
    have h2:=(hn.mem_erase_iff).1 hx
    have h3:=h x h2.2
    have h4:x≠(n:Int):=h2.1
    omega)
   rw [List.length_erase_of_mem hm]at h1
   omega
  ·have :=nodup_le n l hn (fun x hx=>by
    have h3:=h x hx
    have h4:x≠(n:Int):=fun e=>hm (e▸hx)
    omega)
   omega
theorem SlpOk.len {nt:Nat} {l:List Slp} (h:SlpOk nt l):l.length<=nt:=by
 have :=nodup_le nt (l.map (·.1)) h.nd (fun x hx=>by
  obtain ⟨y,hy,rfl⟩:=List.mem_map.1 hx
  exact h.lo y hy)
 simpa using this
theorem SlpOk.sub {nt:Nat} {l r:List Slp} (h:SlpOk nt l) (hr:r.Sublist l):SlpOk nt r:=⟨h.nd.sublist (hr.map _),fun x hx=>h.lo x (hr.subset hx)⟩
theorem wk_sublist' (addr:Int) (n:Nat): ∀(l:List Slp) (s:List Slp×List Int),∃r,(l.foldl (wstep addr n) s).1=s.1++r/\r.Sublist l
 |[],s=>⟨[],by simp,List.Sublist.refl _⟩
 |y::l,s=>by
  obtain ⟨r,h1,h2⟩:=wk_sublist' addr n l (wstep addr n s y)
  rw [List.foldl_cons,h1]
  unfold wstep
  split
  ·exact ⟨r,rfl,h2.cons _⟩
  ·exact ⟨y::r,by simp,h2.cons_cons _⟩
theorem wk_sublist (addr:Int) (n:Nat) (l:List Slp):(wk addr n l).1.Sublist l:=by
 obtain ⟨r,h1,h2⟩:=wk_sublist' addr n l ([],[])
 unfold wk
 rw [h1]
 exact h2
theorem fnd_none {l:List Slp} {who:Int} (h: ¬fnd l who<l.length):who∉l.map (·.1):=fun hm=>by
 obtain ⟨x,hx,rfl⟩:=List.mem_map.1 hm
 apply h
 unfold fnd
 exact List.findIdx_lt_length_of_exists ⟨x,hx,by simp⟩
theorem SlpOk.snoc {nt:Nat} {l:List Slp} (h:SlpOk nt l) {t:Int} (a:Int) (h0:0<=t) (h1:t<(nt:Int)) (he:slpE l t=0):SlpOk nt (l++[(t,a)]):=by
 have hf: ¬fnd l t<l.length:=fun hf=>by
  unfold slpE at he
  split at he
  ·exact absurd he (by decide)
  ·exact absurd he (by decide)
 refine ⟨?_,fun x hx=>?_⟩
 ·rw [List.map_append,List.nodup_append]
  refine ⟨h.nd,by simp,fun x hx y hy e=>?_⟩
  simp at hy
  subst hy e
  exact fnd_none hf hx
 ·rcases List.mem_append.1 hx with hx|hx
  ·exact h.lo x hx
  ·rw [List.mem_singleton.1 hx];exact ⟨h0,h1⟩
structure MOk (B:MB) (s:Mst):Prop where
 nt:s.ths.length=B.codes.length
 regs: ∀t∈s.ths,RegsOk t
 mem: ∀z∈s.mem,RV z
 buf: ∀b∈s.bufs,∀e∈b,(0<=e.1/\e.1<(B.m:Int))/\RV e.2
 slp:SlpOk s.ths.length s.slp
section
variable {B:MB} {s:Mst}
theorem mem_of_getD {l:List Int} {a:Nat} {d:Int} (h: ∀z∈l,RV z) (hd:RV d):RV (l.getD a d):=by
 rcases Nat.lt_or_ge a l.length with h1|h1
 ·exact h _ (getD_mem h1)
 ·rw [getD_nil_of_ge l a d h1];exact hd
theorem MOk.setMem (h:MOk B s) (a:Nat) {v:Int} (hv:RV v):MOk B {s with mem:=s.mem.set a v}:=
 ⟨h.nt,h.regs,fun z hz=>(mem_set hz).elim (h.mem z) (fun e=>e▸hv),h.buf,h.slp⟩
theorem MOk.sleep (h:MOk B s) (t:Int) (h0:0<=t) (h1:t<(s.ths.length:Int)) (a:Nat):MOk B (sleepM t s a):=by
 unfold sleepM
 by_cases he:slpE s.slp t=0
 ·rw [if_pos he]
  exact ⟨h.nt,h.regs,h.mem,h.buf,h.slp.snoc (a:Int) h0 h1 he⟩
 ·rw [if_neg he]
  exact h
theorem runT_mem (ths:List Th) (ws:List Int) (P:Th->Prop) (h0: ∀t∈ths,P t) (hs: ∀t,P t->P {t with st:=0}) (hd:P tha): ∀t∈runT ths ws,P t:=by
 unfold runT
 induction ws generalizing ths with
 |nil=>exact h0
 |cons w ws ih=>
  rw [List.foldl_cons]
  refine ih _ (fun t ht=>?_)
  rcases mem_set ht with ht|rfl
  ·exact h0 t ht
  ·refine hs _ ?_
   rcases Nat.lt_or_ge w.toNat ths.length with h1|h1
   ·exact h0 _ (getD_mem h1)
   ·rw [getD_nil_of_ge _ _ _ h1];exact hd
theorem tha_regs:RegsOk tha:=fun _=>RV.zero
theorem MOk.wake (h:MOk B s) (a:Nat) (v:Int):MOk B (wakeM s a v).2:=
 ⟨(runT_len s.ths _).trans h.nt,runT_mem s.ths _ RegsOk h.regs (fun t ht=>ht) tha_regs,h.mem,h.buf,by
   show SlpOk (runT s.ths _).length _
   rw [runT_len]
   exact h.slp.sub (wk_sublist _ _ _)⟩
theorem MOk.note (h:MOk B s) (t:Int) (x:Evt):MOk B (noteM t s x):=⟨h.nt,h.regs,h.mem,h.buf,h.slp⟩
theorem wakeM_rv (s:Mst) (a:Nat) (v:Int) (hs:s.slp.length<=10000):RV (wakeM s a v).1:=by
 have :=wk_len (a:Int) v.toNat s.slp
 exact ⟨by show (0:Int)<=((wk (a:Int) v.toNat s.slp).2.length:Int);omega,by show ((wk (a:Int) v.toNat s.slp).2.length:Int)<=_;omega⟩
theorem MOk.setTh (h:MOk B s) (t:Nat) {x:Th} (hx:RegsOk x):MOk B {s with ths:=s.ths.set t x}:=
 ⟨(List.length_set ..).trans h.nt,fun y hy=>(mem_set hy).elim (h.regs y) (fun e=>e▸hx),h.mem,h.buf,by show SlpOk (s.ths.set t x).length s.slp;rw [List.length_set];exact h.slp⟩
theorem MOk.getTh (h:MOk B s) (t:Nat):RegsOk (s.ths.getD t tha):=by
 rcases Nat.lt_or_ge t s.ths.length with h1|h1
 ·exact h.regs _ (getD_mem h1)
 ·rw [getD_nil_of_ge _ _ _ h1];exact tha_regs
theorem MOk.rouse (h:MOk B s) (t:Nat):MOk B (rouseM t s):=by
 unfold rouseM
 split
 ·refine MOk.note ?_ _ _
  have h1:=h.setTh (x:={s.ths.getD t tha with st:=0}) t (h.getTh t)
  exact ⟨h1.nt,h1.regs,h1.mem,h1.buf,h1.slp.sub (List.eraseIdx_sublist ..)⟩
 ·exact h
end
theorem sCan.setTh {B:MB} {n:Nat} {s:Mst} (h:mCan B n s) (t:Nat) (x:Th):mCan B n {s with ths:=s.ths.set t x}:=
 ⟨h.evs,h.slp,fun y hy=>by show _/\y.1<((s.ths.set t x).length:Int);rw [List.length_set];exact h.who y hy,h.buf,by show (s.ths.set t x).length<=8;rw [List.length_set];exact h.t8⟩
theorem mCan.rouse {B:MB} {n:Nat} {s:Mst} (h:mCan B (n+1) s) (t:Nat):mCan B n (rouseM t s):=by
 unfold rouseM
 split
 ·refine mCan.note ?_ _ _
  have h1:=sCan.setTh h t {s.ths.getD t tha with st:=0}
  exact ⟨h1.evs,by have :=h1.slp;have :=List.length_eraseIdx_le s.slp (fnd s.slp (t:Int));show (s.slp.eraseIdx _).length+(n+1)<=_;simp only at*;omega,fun y hy=>h1.who y (List.mem_of_mem_eraseIdx hy),h1.buf,h1.t8⟩
 ·exact h.less
theorem range_below {W W':World} {g o:Nat} {cs:List Value} (h:W.rangeAt g o cs) (hlt:g<W.heap.size) (hb:Below W.heap.size W W'):W'.rangeAt g o cs:=fun j v hv=>keepAt hb hlt (h j v hv)
theorem port_info:(Tryz.prog.info? 205).map (·.size)=some 11:=by kernel_rfl
theorem th_infoL:(Tryz.prog.info? 124).map (·.size)=some 10:=by kernel_rfl
theorem MParts.memv {L:Lay} {B:MB} {s:Mst} {own:Nat->Prop} {W:World} {V:Nat->Value} {bcs:List (Array Value)} (h:MParts L B s own W V bcs): ∃A cap,V 3= .slice A B.m cap/\B.m<=cap/\cap<=maxLen:=by
 obtain ⟨A,cap,e,h1,h2⟩:=own_cap (h.rows 3 (by decide))
 have e1:cnt B s 3=B.m:=h.mem
 rw [e1]at e h1
 exact ⟨A,cap,e,h1,h2⟩
theorem MParts.blt {L:Lay} {B:MB} {s:Mst} {own:Nat->Prop} {W:World} {V:Nat->Value} {bcs:List (Array Value)} (h:MParts L B s own W V bcs):B.mb<W.heap.size:=h.blk.lt
theorem pg_info:(Tryz.prog.info? 29).map (·.size)=some 3:=by kernel_rfl
theorem slc_info5:(Tryz.prog.info? 50).map (fun i=>(i.zero,i.size,i.bytes))=some (some (.slice none 0 0),1,24):=by kernel_rfl
theorem pg_nonil {A:Option Addr} {n:Nat} {C:Nat->Value} {W:World} (h:Sl W A n C):A=none->n=0:=fun e=>by
 rcases Nat.eq_zero_or_pos n with h0|h0
 ·exact h0
 ·obtain ⟨b,o,e',_⟩:=h h0
  rw [e]at e';cases e'
theorem pge_nonil {A:Option Addr} {n s:Nat} {C:Nat->List Value} {W:World} (h:SlE W A n s C):A=none->n=0:=fun e=>by
 rcases Nat.eq_zero_or_pos n with h0|h0
 ·exact h0
 ·obtain ⟨b,o,e',_⟩:=h h0
  rw [e]at e';cases e'
theorem Chk.small {p:Pg} {t j:Int} (h:Chk p t j 0):1<=p.n/\p.n<=8/\p.m<=1024/\1<=p.room/\p.room<=16/\ ∀t,t<p.n->(p.cd t).len<=4000:=by
 cases h with
 |fine a1 a2 a3 a4 a5 hg=>exact ⟨a1,a2,a5,a3,a4,fun t ht=>(hg t ht).1⟩
theorem slE_sl {A:Option Addr} {n s:Nat} (E:Nat->List Value) (hE: ∀i,(E i).length=s) {W:World} (h:SlE W A n s E):Sl W A (n*s) (fun k=>((List.range n).flatMap E).getD k undef):=fun hpos=>by
 have hn:0<n:=Nat.pos_of_mul_pos_right hpos
 have hs:0<s:=Nat.pos_of_mul_pos_left hpos
 obtain ⟨b,off,rfl,hlt,hc⟩:=h hn
 refine ⟨b,off,rfl,hlt,fun k hk=>?_⟩
 have hq:k/s<n:=Nat.div_lt_of_lt_mul (by rw [Nat.mul_comm];exact hk)
 have hr:=Nat.mod_lt k hs
 have hdm:=Nat.div_add_mod k s
 have hf:=flat_get E s hE 0 (List.range n) (k/s) (by rw [List.length_range];exact hq) (k % s) hr
 have e1:(List.range n).getD (k/s) 0=k/s:=by simp [List.getD_eq_getElem?_getD,List.getElem?_range hq]
 have e2:k/s*s+k % s=k:=by rw [Nat.mul_comm];exact hdm
 rw [e1,e2]at hf
 have hl:(E (k/s))[k % s]?=some ((E (k/s))[k % s]'(by rw [hE];exact hr)):=List.getElem?_eq_getElem _
 have :=hc (k/s) hq (k % s) _ hl
 rw [Nat.add_assoc,e2]at this
 rw [this]
 simp only [List.getD_eq_getElem?_getD,hf,hl,Option.getD_some]
theorem ins_one (F:Nat->Ins) (l q:Nat) (hq:q<l*5):(((List.range l).flatMap fun i=>(F i).cells).getD q undef).oneCell'=true:=by
 have hf:=flat_get (fun i=>(F i).cells) 5 (fun _=>rfl) 0 (List.range l) (q/5) (by rw [List.length_range];omega) (q % 5) (by omega)
 rw [show q/5*5+q % 5=q by omega]at hf
 rw [List.getD_eq_getElem?_getD,hf]
 rcases (by omega:q % 5=0∨q % 5=1∨q % 5=2∨q % 5=3∨q % 5=4)with e|e|e|e|e<;>rw [e]<;>rfl
theorem own2_of {L:Lay} {mb m k:Nat} {cds:List Cd} {s:Mst} {N:Nat} {W:World} {V:Nat->Value} {room:Int} {bcs:List (Array Value)} (h:MNew L ⟨mb,cds,room,m⟩ s N W V bcs) {v:Value} (hv:V 0=v) (hk:cds.length=k):W.ownsRow N 50 1 v k (cds.map Cd.val):=by
 rw [<-hv,<-hk];exact h.rows 0 (by decide)
theorem own_capm {w:World} {base:Nat} {e:TypeId} {size n:Nat} {A:Option Addr} {c:Nat} {xs:List Value} (h:w.ownsRow base e size (.slice A n c) n xs):c<=maxLen:=by
 obtain ⟨A',c',e',_,h2⟩:=own_cap h
 injection e' with _ _ e'
 omega
theorem makeT (n:Nat) (hn:n<=8) (w:World):(Instr.makeSlice 103 (.int .i64 (n:Int)) (.int .i64 (n:Int))).run Tryz.prog w= .ok (.slice (some ⟨w.heap.size,0,none⟩) n n) (w.alloc (.cells ((List.replicate n tha).flatMap Th.cells).toArray 124)):=by
 obtain ⟨i,hi,hz,hs,hb⟩:=info_parts threads_info5
 have hb2:(i.bytes:Int)*(n:Int)<=281474976710656:=by rw [hb];omega
 have hr:=run_make (P:=Tryz.prog) w 103 124 i _ Tryz.underlying103 hi hz .i64 .i64 n n (by omega) (by omega) hb2 (by omega)
 simp only [Int.toNat_natCast]at hr
 rw [hs]at hr
 rw [<-threads_made]
 exact hr
theorem step_belowN {w W W':World} {N:Nat} (h:Below N w W) (hb:Below W.heap.size W W') (hN:N<=W.heap.size):Below N w W':=h.trans (hb.mono hN)
def pkc (x:Int×Int):List Value:=[.int .i64 x.1,.int .i64 x.2]
theorem KeepOut.sle {own:Nat->Prop} {W W':World} (h:KeepOut own W W') {A:Option Addr} {len size:Nat} {E:Nat->List Value} (hs:SlE W A len size E) (hA:0<len-> ∀b o,A=some ⟨b,o,none⟩-> ¬own b):SlE W' A len size E:=fun hn=>by
 obtain ⟨b,off,rfl,hlt,hc⟩:=hs hn
 refine ⟨b,off,rfl,Nat.lt_of_lt_of_le hlt h.size,fun i hi j u hu=>?_⟩
 have :=h.block b hlt (hA hn b off rfl)
 have h2:=hc i hi j u hu
 simp only [World.cell?,this]at h2⊢
 exact h2
theorem KeepOut.tab {own:Nat->Prop} {W W':World} (h:KeepOut own W W') (hlo: ∀i,own i->2<=i) (hT:Tab W):Tab W':=by
 have hc: ∀(g j:Nat),g<2->W'.cell? ⟨g,j,none⟩=W.cell? ⟨g,j,none⟩:=fun g j hg=>by
  have :=h.block g (Nat.lt_of_lt_of_le hg hT.1) (fun e=>by have :=hlo g e;omega)
  simp only [World.cell?,this]
 exact ⟨Nat.le_trans hT.1 h.size,fun j hj=>(hc _ j (by decide)).trans (hT.2.1 j hj),fun j hj=>(hc _ j (by decide)).trans (hT.2.2 j hj)⟩
theorem evt_cells_one (l:List Evt): ∀x∈l.flatMap Evt.cells,x.oneCell'=true:=fun x hx=>by
 obtain ⟨y,_,hy⟩:=List.mem_flatMap.1 hx
 simp only [Evt.cells,List.mem_cons,List.not_mem_nil,or_false]at hy
 rcases hy with rfl|rfl|rfl|rfl|rfl|rfl|rfl|rfl<;>rfl
theorem insOk {op a b c k:Int} (h:(0<=op/\op<=100)/\(0<=a/\a<=100)/\(0<=b/\b<=100)/\(0<=c/\c<=100)/\0<=k/\k<=4294967295):(⟨op,a,b,c,k⟩:Ins).Ok:=by
 obtain ⟨h1,h2,h3,h4,h5⟩:=h
 exact ⟨by show _<=op;omega,by show op<=_;omega,by show _<=a;omega,by show a<=_;omega,by show _<=b;omega,by show b<=_;omega,by show _<=c;omega,by show c<=_;omega,h5.1,h5.2⟩
theorem pgz_info:(Tryz.prog.info? 29).map (·.size)=some 3:=by kernel_rfl
theorem newM_ok {p:Pg} {B:MB} (h:NewM p B) (hn:p.n<=8) (hm:p.m<=1024):MBok B where
 n8:=by rw [h.n];exact hn
 m:=by rw [h.m];exact hm
 cods:=fun c hc=>by
  obtain ⟨i,hi,rfl⟩:=List.getElem_of_mem hc
  have :=(h.cd i (by rw [<-h.n];exact hi)).2.2
  rwa [List.getD_eq_getElem?_getD,List.getElem?_eq_getElem hi]at this
theorem Moves.inv {L:Lay} {B:MB} {s:Mst} {own:Nat->Prop} {W W':World} (h:Moves (MInv L B) s own W W'): ∃own',MInv L B s own' W':=by
 obtain ⟨o,h1,_⟩:=h
 exact ⟨o,h1⟩
theorem Moves.keep {L:Lay} {B:MB} {s:Mst} {own:Nat->Prop} {W W':World} (h:Moves (MInv L B) s own W W'):KeepOut own W W':=by
 obtain ⟨o,h1,h2,h3⟩:=h
 exact h3
theorem KeepOut.belowM {own:Nat->Prop} {N:Nat} {w W W':World} (h:KeepOut own W W') (hB:Below N w W) (hN:N<=W.heap.size) (hlo: ∀i,own i->N<=i):Below N w W':=
 ⟨h.os.trans hB.os,h.tape.trans hB.tape,h.output.trans hB.output,Nat.le_trans hB.size h.size,fun i hi=>(h.block i (Nat.lt_of_lt_of_le hi hN) (fun e=>by have :=hlo i e;omega)).trans (hB.block i hi)⟩
theorem MovesX.callR {L:Lay} {B:MB} {s s':Mst} {own:Nat->Prop} {W Wc:World} {X:List Bx} (h:MovesX L B s own W Wc X) {f:FuncId} {args:Array Value} {R:Ending->World->Prop} (k: ∀own1,MInv L B s own1 Wc->Calls Tryz.prog f args Wc fun e W'=>R e W'/\Moves (MInv L B) s' own1 Wc W'):
 Calls Tryz.prog f args Wc fun e W'=>R e W'/\MovesX L B s' own W W' X:=by
 obtain ⟨own1,h1,h2,h3,h4⟩:=h
 refine (k own1 h1).mono fun e W' ⟨he,hm⟩=>⟨he,?_⟩
 obtain ⟨own2,k1,k2,k3⟩:=hm
 refine ⟨own2,k1,fun j hj=>?_,h3.trans k3 h2,fun y hy=>⟨k3.blk (h4 y hy).1 (h4 y hy).2.1,fun e=>?_,(h4 y hy).2.2⟩⟩
 ·rcases k2 j hj with h|h
  ·exact h2 j h
  ·exact .inr (Nat.le_trans h3.size h)
 ·rcases k2 _ e with q|q
  ·exact (h4 y hy).2.1 q
  ·have :=(h4 y hy).1.lt;omega
end Go.Proofs.YtmhfpjnkjlhbpaaGreatDoor
