/- law19: awake; SeqAlone. -/
import Derived.Test.YtmhfpjnkjlhbpaaDoorSeqR
import Derived.Test.YtmhfpjnkjlhbpaaDoorTsTz
namespace Go.Proofs.YtmhfpjnkjlhbpaaDoor
open Go.ChangeShapes Go.WideShapes Go.ChangeAt Go.RowKit Go.Deep
set_option linter.unusedVariables false
set_option maxRecDepth 100000
set_option linter.unusedSimpArgs false

theorem read2_len : (BB.e.sread 16 2).close.out.length = 10 := by kernel_rfl
set_option maxHeartbeats 1000000 in
theorem awake_any (W : World) (hT : Tab W) : Calls Tryd.prog 7 #[] W fun e W' => e = .returned (.bool true) ∧ Below W.heap.size W W' := by
  have cC := code_read 2 1 16 0 0 (by decide) (by decide) (by decide) (by decide) (by decide) W hT
  go_enter Tryd.func7, Tryd.ntmps7
  go_wp2_with fail
  refine cC.mono ?_
  rintro e W1 ⟨⟨v, rfl, og, cap, cs, rfl, _⟩, hB⟩
  rw [read2_len]
  clear cC
  go_wp2
  go_ret
  exact ⟨rfl, hB⟩

theorem tOps_same {B D : MB} (hm : B.m = D.m) (hr : B.room = D.room) (t : Nat) : tOps B t = tOps D t := by unfold tOps; rw [hm, hr]
theorem stepR_same {σ : Type} (O : Ops σ) (s : σ) (t : Th) (c d : Cd) (hl : c.len = d.len) (hF : c.F = d.F) : stepR O s t c = stepR O s t d := by unfold stepR; rw [hl, hF]
theorem tPick_same {B D : MB} (hm : B.m = D.m) (hr : B.room = D.room) (hc : ∀ t, (B.codes.getD t cdd).len = (D.codes.getD t cdd).len ∧ (B.codes.getD t cdd).F = (D.codes.getD t cdd).F) (s : Mst) (x : Int × Int) : tPick B s x = tPick D s x := by
  unfold tPick tStep
  rw [tOps_same hm hr, stepR_same _ _ _ _ _ (hc _).1 (hc _).2]
theorem tRun_same {B D : MB} (hm : B.m = D.m) (hr : B.room = D.room) (hc : ∀ t, (B.codes.getD t cdd).len = (D.codes.getD t cdd).len ∧ (B.codes.getD t cdd).F = (D.codes.getD t cdd).F) (l : List (Int × Int)) : ∀ s, tRun B s l = tRun D s l := by
  induction l with
  | nil => intro s; rfl
  | cons x l ih => intro s; show tRun B (tPick B s x) l = tRun D (tPick D s x) l; rw [ih, tPick_same hm hr hc]

/-- A call of the lock at 16, of a thread alone. -/
theorem code_one (n : Nat) (at_ : Int) (hn : 1 ≤ n ∧ n ≤ 3) (ha : 0 ≤ at_ ∧ at_ < n) (call : Nat) (hc : 1 ≤ call ∧ call ≤ 4) (W : World) (hT : Tab W) :
    Calls Tryd.prog 8 #[.agg #[.int .i64 9, .int .i64 (n : Int), .int .i64 0, .int .i64 0], .int .i64 (call : Int), .int .i64 1, .int .i64 0, .int .u32 16, .int .u32 at_] W fun e W' => (∃ v, e = .returned (.tuple #[v, .bool true]) ∧ OutI W v (sqL n at_ call) W') ∧ Below W.heap.size W W' := by
  have h4 : call = 1 ∨ call = 2 ∨ call = 3 ∨ call = 4 := by omega
  rcases h4 with rfl | rfl | rfl | rfl
  · exact code_acq n 1 16 0 at_ (by omega) (by decide) (by decide) (by decide) ha W hT
  · exact code_rel n 1 16 0 at_ (by omega) (by decide) (by decide) (by decide) ha W hT
  · exact code_read n 1 16 0 at_ (by omega) (by decide) (by decide) (by decide) ha W hT
  · exact code_put n 1 16 0 at_ (by omega) (by decide) (by decide) (by decide) ha W hT
theorem words_infoA : (Tryd.prog.info? 25).map (fun i => (i.zero, i.size, i.bytes)) = some (some (.int .u32 0), 1, 4) := by kernel_rfl
theorem make21 (w : World) : (Instr.makeSlice 48 (.int .i64 21) (.int .i64 21)).run Tryd.prog w = .ok (.slice (some ⟨w.heap.size, 0, none⟩) 21 21) (w.alloc (.cells (List.replicate 21 (Value.int .u32 0)).toArray 25)) := by
  obtain ⟨i, hi, hz, hs, hb⟩ := info_parts words_infoA
  have hr := run_make (P := Tryd.prog) w 48 25 i _ Tryd.underlying48 hi hz .i64 .i64 21 21 (by omega) (by omega) (by rw [hb]; decide) (by omega)
  rw [hs] at hr
  have e : madeCells (Value.int .u32 0).cells (Int.toNat 21 * 1) = (List.replicate 21 (Value.int .u32 0)).toArray := by kernel_rfl
  rw [e] at hr
  exact hr
/-- The program of a thread alone. -/
def sqPg (a b : Nat) (A : Option Addr) (c : Nat) (l : List Ins) : Pg := ⟨some ⟨a, 0, none⟩, 1, 1, fun _ => ⟨A, l.length, c, fun i => l.getD i default⟩, some ⟨b, 0, none⟩, 21, 21, fun _ => 0, 2⟩
theorem sqPg_ok {n : Nat} {at_ v : Int} (hn : 1 ≤ n ∧ n ≤ 3) (ha : 0 ≤ at_ ∧ at_ < n) (hv : 0 ≤ v ∧ v ≤ 4294967295) (base c : Nat) (A : Option Addr) (W : World) (own : W.ownsRow base 41 5 (.slice A (sqAll n at_ v).length c) (sqAll n at_ v).length ((sqAll n at_ v).flatMap Ins.cells)) :
    (sqPg W.heap.size (W.heap.size + 1) A c (sqAll n at_ v)).Ok ∧ Chk (sqPg W.heap.size (W.heap.size + 1) A c (sqAll n at_ v)) (0 : Int) (0 : Int) 0 ∧
      (sqPg W.heap.size (W.heap.size + 1) A c (sqAll n at_ v)).At ((W.alloc (.cells #[.slice A (sqAll n at_ v).length c] 29)).alloc (.cells (List.replicate 21 (Value.int .u32 0)).toArray 25)) := by
  obtain ⟨h1, h2⟩ := sqAll_ok hn ha hv
  have h3 := sq_right hn ha v
  generalize sqAll n at_ v = l at *
  have hget : ∀ i, i < l.length → l.getD i default ∈ l := fun i hi => by rw [List.getD_eq_getElem?_getD, List.getElem?_eq_getElem hi]; exact List.getElem_mem hi
  obtain ⟨A', cap', e, hle, hsl⟩ := own_sle Ins.cells (fun _ => rfl) default l own
  obtain ⟨_, _, e2, hc1, hc2⟩ := own_cap own
  simp only [Value.slice.injEq] at e e2
  obtain ⟨rfl, _, rfl⟩ := e
  obtain ⟨_, _, rfl⟩ := e2
  have hO : (⟨A, l.length, c, fun i => l.getD i default⟩ : Cd).Ok := ⟨hc1, hc2, fun i hi => h1 _ (hget i hi)⟩
  refine ⟨⟨Nat.le_refl 1, (by decide : (1 : Nat) ≤ maxLen), Nat.le_refl 21, (by decide : (21 : Nat) ≤ maxLen), fun _ _ => hO, fun _ _ => (by decide : (0 : Int) ≤ 0 ∧ (0 : Int) ≤ 4294967295), (by decide : -9223372036854775808 ≤ (2 : Int)), (by decide : (2 : Int) ≤ 9223372036854775807)⟩, .fine (by decide : 1 ≤ 1) (by decide : 1 ≤ 8) (by decide : (1 : Int) ≤ 2) (by decide : (2 : Int) ≤ 16) (by decide : 21 ≤ 1024) fun s _ => ⟨by show l.length ≤ 4000; omega, fun j hj => List.all_eq_true.1 h3 _ (hget j hj)⟩, ?_⟩
  have hb := (Below.refl W.heap.size W).alloc (Nat.le_refl _) (.cells #[.slice A l.length c] 29)
  have hb2 := hb.alloc hb.size (.cells (List.replicate 21 (Value.int .u32 0)).toArray 25)
  have b1 := (Blk.new W 29 #[.slice A l.length c]).alloc (.cells (List.replicate 21 (Value.int .u32 0)).toArray 25)
  have b2 := Blk.new2 W (.cells #[.slice A l.length c] 29) 25 (List.replicate 21 (Value.int .u32 0)).toArray
  refine ⟨fun _ => ⟨_, 0, rfl, b1.lt, fun i hi => ?_⟩, fun t _ => SlE.step hsl hb2, fun _ => ⟨_, 0, rfl, b2.lt, fun i hi => ?_⟩⟩
  · obtain rfl : i = 0 := by have : i < 1 := hi; omega
    exact (b1.cell 0).trans rfl
  · have hi : i < 21 := hi
    rw [Nat.zero_add, b2.cell]
    show (List.replicate 21 (Value.int .u32 0)).toArray[i]? = some (.int .u32 0)
    simp only [List.getElem?_toArray, List.getElem?_replicate, if_pos hi]
theorem sq_start (a b c : Nat) (A : Option Addr) (l : List Ins) : t0 (sqPg a b A c l) = sqS := by kernel_rfl
theorem sq_end {n : Nat} {at_ : Int} (hn : 1 ≤ n ∧ n ≤ 3) (ha : 0 ≤ at_ ∧ at_ < n) (v : Int) {a b c : Nat} {A : Option Addr} {B : MB} (h : NewM (sqPg a b A c (sqAll n at_ v)) B) (hr : B.room = 2) :
    outsP (tRun B (t0 (sqPg a b A c (sqAll n at_ v))) (List.replicate 400 (0, 0))).evs = [0, 1, 0, 0, 2, 2, 0, v] ∧ (tRun B (t0 (sqPg a b A c (sqAll n at_ v))) (List.replicate 400 (0, 0))).evs.length ≤ 1000 := by
  rw [sq_start, tRun_same (D := sqB (sqAll n at_ v)) h.m hr (fun t => ?_)]
  · exact ⟨sq_run hn ha v, sq_few hn ha v⟩
  rcases Nat.lt_or_ge t 1 with ht | ht
  · obtain rfl : t = 0 := by omega
    have := h.cd 0 (show 0 < 1 by decide)
    exact ⟨this.1, this.2.1⟩
  · have e1 : B.codes.getD t cdd = cdd := by rw [List.getD_eq_getElem?_getD, List.getElem?_eq_none (by rw [h.n]; exact ht)]; rfl
    have e2 : (sqB (sqAll n at_ v)).codes.getD t cdd = cdd := by rw [List.getD_eq_getElem?_getD, List.getElem?_eq_none (by exact ht)]; rfl
    rw [e1, e2]; exact ⟨rfl, rfl⟩
def toEv (x : Evt) : Ev := ⟨x.kind, x.who, x.pc, x.addr, x.value, x.old, x.k, x.ok⟩
def ev0 : Evt := ⟨0, 0, 0, 0, 0, 0, 0, false⟩
theorem oL_evs (l : List Evt) (t : Int) : oL (evs (fun i => toEv (l.getD i ev0)) t l.length) = (l.filter fun x => x.who == t && x.kind == 6).map fun x => x.value := by
  have : ∀ k, k ≤ l.length → oL (evs (fun i => toEv (l.getD i ev0)) t k) = ((l.take k).filter fun x => x.who == t && x.kind == 6).map fun x => x.value := by
    intro k hk
    induction k with
    | zero => rfl
    | succ k ih =>
      have ih := ih (by omega)
      unfold oL evs at ih ⊢
      rw [List.range_succ, List.map_append, List.filter_append, List.filter_append, List.map_append, ih, List.take_add_one, List.getElem?_eq_getElem (show k < l.length by omega), List.filter_append, List.map_append]
      congr 1
      have e : l.getD k ev0 = l[k] := by simp [List.getD_eq_getElem?_getD, List.getElem?_eq_getElem (show k < l.length by omega)]
      simp only [List.map_cons, List.map_nil, e, Option.toList_some]
      generalize l[k] = x
      unfold toEv
      by_cases c1 : x.who == t <;> by_cases c2 : x.kind == 6 <;> simp [c1, c2]
  have h := this l.length (Nat.le_refl _)
  rw [List.take_length] at h
  exact h
theorem sqCalls_cell (k : Nat) (hk : k < 7) : (#[.int .i64 1, .int .i64 1, .int .i64 4, .int .i64 2, .int .i64 2, .int .i64 4, .int .i64 3] : Array Value)[k]? = some (.int .i64 ((sqCalls.getD k 0 : Nat) : Int)) := by
  rcases (by omega : k = 0 ∨ k = 1 ∨ k = 2 ∨ k = 3 ∨ k = 4 ∨ k = 5 ∨ k = 6) with rfl | rfl | rfl | rfl | rfl | rfl | rfl <;> rfl

set_option maxHeartbeats 4000000 in
theorem seqAlone_true (words arg v : Int) (hw : 0 ≤ words ∧ words ≤ 255) (ha : 0 ≤ arg ∧ arg ≤ 255) (hv : 0 ≤ v ∧ v ≤ 4294967295) (w : World) (hT : Tab w) :
    Calls Tryd.prog 5 #[.int .u8 words, .int .u8 arg, .int .u32 v] w fun e w' => e = .returned (.bool true) ∧ Below w.heap.size w w' := by
  have cA := awake_any w hT
  go_enter Tryd.func5, Tryd.ntmps5
  go_wp2_with fail
  with_reducible refine cA.mono ?_
  rintro e W1 ⟨rfl, hB1⟩
  clear cA
  go_wp2_with fail
  obtain ⟨n, hn⟩ : ∃ n : Nat, 1 + words % 3 = (n : Int) := ⟨(1 + words % 3).toNat, by omega⟩
  have hn3 : 1 ≤ n ∧ n ≤ 3 := by omega
  rw [hn]
  obtain ⟨at_, hat⟩ : ∃ at_, arg % (n : Int) = at_ := ⟨_, rfl⟩
  have hat2 : 0 ≤ at_ ∧ at_ < n := by rw [← hat]; exact ⟨Int.emod_nonneg _ (by omega), Int.emod_lt_of_pos _ (by omega)⟩
  rw [hat]
  clear hn hat hw ha
  have HN := Lib.hid (And.intro hn3 (And.intro hat2 hv))
  have hO := (Blk.new W1 23 #[.int .i64 9, .int .i64 (n : Int), .int .i64 0, .int .i64 0]).alloc (.cells #[.int .i64 1, .int .i64 1, .int .i64 4, .int .i64 2, .int .i64 2, .int .i64 4, .int .i64 3] 3)
  have hC := Blk.new2 W1 (.cells #[.int .i64 9, .int .i64 (n : Int), .int .i64 0, .int .i64 0] 23) 3 #[.int .i64 1, .int .i64 1, .int .i64 4, .int .i64 2, .int .i64 2, .int .i64 4, .int .i64 3]
  have hB2 := (hB1.trans ((Below.refl W1.heap.size W1).alloc (Nat.le_refl _) (.cells #[.int .i64 9, .int .i64 (n : Int), .int .i64 0, .int .i64 0] 23) |>.mono hB1.size)).alloc (by simp; have := hB1.size; omega) (.cells #[.int .i64 1, .int .i64 1, .int .i64 4, .int .i64 2, .int .i64 2, .int .i64 4, .int .i64 3] 3)
  generalize hW0 : (W1.alloc (.cells #[.int .i64 9, .int .i64 (n : Int), .int .i64 0, .int .i64 0] 23)).alloc (.cells #[.int .i64 1, .int .i64 1, .int .i64 4, .int .i64 2, .int .i64 2, .int .i64 4, .int .i64 3] 3) = W0 at hO hC hB2 ⊢
  have hob := hO.lt
  have hcb := hC.lt
  have hwb : w.heap.size ≤ W1.heap.size := hB1.size
  generalize W1.heap.size = ob at hO hC hob hcb hwb ⊢
  obtain ⟨cb, hcbe⟩ : ∃ cb, ob + 1 = cb := ⟨_, rfl⟩
  rw [hcbe] at hC hcb ⊢
  have HW := Lib.hid (And.intro hO (And.intro hC (And.intro hob (And.intro hcb (And.intro hB2 (hT.step hB2))))))
  clear hW0 hB1 hT hO hC hob hcb hB2 hn3 hat2 hcbe hwb
  go_loopw [9, 10, 12] (fun v9 v10 v12 wr => ∃ k : Nat, k ≤ 7 ∧ v12 = .int .i64 k ∧ v10 = .bool true ∧ wr.ownsRow W0.heap.size 41 5 v9 (sqTo n at_ v k).length ((sqTo n at_ v k).flatMap Ins.cells) ∧ Below W0.heap.size W0 wr)
    (fun v9 v10 v12 _ => 7 - (intOf v12).toNat)
  case atStart => exact ⟨0, Nat.zero_le _, rfl, rfl, ⟨rfl, .inl ⟨rfl, rfl⟩⟩, Below.refl _ _⟩
  case round =>
    obtain ⟨k, hk, rfl, rfl, hr, hB⟩ := hrel
    by_cases hlt : k < 7
    · have hk7 : (k : Int) < 7 := by omega
      have c4 := (HW.out.2.1.below hB HW.out.2.2.2.1).drew.cell k
      rw [sqCalls_cell k hlt] at c4
      have HO := Lib.hid (HW.out.1.below hB HW.out.2.2.1).drew
      obtain ⟨call, hcall⟩ : ∃ call, sqCalls.getD k 0 = call := ⟨_, rfl⟩
      rw [hcall] at c4
      have HK := Lib.hid (And.intro hcall (show 1 ≤ call ∧ call ≤ 4 from by rw [← hcall]; exact sqCalls_in k hlt))
      have HR := Lib.hid (And.intro hr hB)
      have hob : ob < wr.drew.heap.size := (HW.out.1.below hB HW.out.2.2.1).lt
      have hcb : cb < wr.drew.heap.size := (HW.out.2.1.below hB HW.out.2.2.2.1).lt
      have hT9 : Tab wr.drew := (HW.out.2.2.2.2.2.below hB HW.out.2.2.2.2.2.1).drew
      have hb9 := below_drewB wr
      clear hr hB hcall
      go_wp2_with fail
      refine startG (fun W' => Below wr.drew.heap.size wr.drew W') 11 (by kernel_rfl) ?_
      generalize wr.drew = W2 at c4 HO hob hcb hT9 hb9 ⊢
      have hS0 : Below W2.heap.size W2 W2 := Below.refl _ _
      have HC4 := Lib.hid (And.intro c4 (And.intro hcb (And.intro hT9 hb9)))
      clear c4 hcb hT9 hb9
      refine takeG (i := 0) (v := .agg #[.int .i64 9, .int .i64 (n : Int), .int .i64 0, .int .i64 0]) rfl (by kernel_rfl) (by kernel_rfl) (by kernel_rfl) (by kernel_rfl) (fun _ _ _ h => h) (yields_row (by rfl) 23 (.tmp 7) rfl ob rfl #[.int .i64 9, .int .i64 (n : Int), .int .i64 0, .int .i64 0] (fun _ hS => run_row _ _ _ _ _ _ (HO.out.below hS hob) Tryd.underlying23 rfl obj_info)) hS0 ?_
      simp only [Act.put, List.getElem_toArray, List.getElem_cons_zero, List.getElem_cons_succ, List.setIfInBounds_toArray, List.set_cons_zero, List.set_cons_succ]
      refine takeG0 (i := 1) (v := .slice (some ⟨cb, 0, none⟩) 7 7) rfl (by kernel_rfl) (by kernel_rfl) (by kernel_rfl) (by kernel_rfl) (fun _ _ _ h => h) (Or.inl ⟨by rfl, fun W hW => by go_simp⟩) hS0 ?_
      simp only [Act.put, List.getElem_toArray, List.getElem_cons_zero, List.getElem_cons_succ, List.setIfInBounds_toArray, List.set_cons_zero, List.set_cons_succ]
      refine takeG0 (i := 2) (v := .int .i64 (k : Int)) rfl (by kernel_rfl) (by kernel_rfl) (by kernel_rfl) (by kernel_rfl) (fun _ _ _ h => h) (Or.inl ⟨by rfl, fun W hW => by go_simp⟩) hS0 ?_
      simp only [Act.put, List.getElem_toArray, List.getElem_cons_zero, List.getElem_cons_succ, List.setIfInBounds_toArray, List.set_cons_zero, List.set_cons_succ]
      refine takeG0 (i := 3) (v := .pointer (some ⟨cb, k, none⟩)) rfl (by kernel_rfl) (by kernel_rfl) (by kernel_rfl) (by kernel_rfl) (fun _ _ _ h => h) (Or.inl ⟨by rfl, fun W hW => by go_simp⟩) hS0 ?_
      simp only [Act.put, List.getElem_toArray, List.getElem_cons_zero, List.getElem_cons_succ, List.setIfInBounds_toArray, List.set_cons_zero, List.set_cons_succ]
      refine takeG (i := 4) (v := .int .i64 (call : Int)) rfl (by kernel_rfl) (by kernel_rfl) (by kernel_rfl) (by kernel_rfl) (fun _ _ _ h => h) (Or.inl ⟨by rfl, fun W hW => by have q0 := keepAt hW HC4.out.2.1 HC4.out.1; go_simp⟩) hS0 ?_
      simp only [Act.put, List.getElem_toArray, List.getElem_cons_zero, List.getElem_cons_succ, List.setIfInBounds_toArray, List.set_cons_zero, List.set_cons_succ]
      refine takeG0 (i := 5) (v := .int .u32 at_) rfl (by kernel_rfl) (by kernel_rfl) (by kernel_rfl) (by kernel_rfl) (fun _ _ _ h => h) (Or.inl ⟨by rfl, fun W hW => by go_simp⟩) hS0 ?_
      simp only [Act.put, List.getElem_toArray, List.getElem_cons_zero, List.getElem_cons_succ, List.setIfInBounds_toArray, List.set_cons_zero, List.set_cons_succ]
      refine onlyG (i := 6) (by kernel_rfl) rfl (fun K hK => ?_)
      go_simp
      have cC := code_one n at_ HN.out.1 HN.out.2.1 call HK.out.2 W2 HC4.out.2.2.1
      with_reducible refine cC.mono ?_
      rintro e W3 ⟨⟨vc, rfl, hOut⟩, hB3⟩
      refine hK.out _ _ hB3 (fun _ => ?_)
      clear hK K cC hS0

      refine takeG0 (i := 7) (v := .tuple #[vc, .bool true]) rfl (by kernel_rfl) (by kernel_rfl) (by kernel_rfl) (by kernel_rfl) (fun _ _ _ h => h) (Or.inl ⟨by rfl, fun W hW => by go_simp⟩) hB3 ?_
      simp only [Act.put, List.getElem_toArray, List.getElem_cons_zero, List.getElem_cons_succ, List.setIfInBounds_toArray, List.set_cons_zero, List.set_cons_succ]
      refine takeG0 (i := 8) (v := vc) rfl (by kernel_rfl) (by kernel_rfl) (by kernel_rfl) (by kernel_rfl) (fun _ _ _ h => h) (Or.inl ⟨by rfl, fun W hW => by go_simp⟩) hB3 ?_
      simp only [Act.put, List.getElem_toArray, List.getElem_cons_zero, List.getElem_cons_succ, List.setIfInBounds_toArray, List.set_cons_zero, List.set_cons_succ]
      refine takeG0 (i := 9) (v := .bool true) rfl (by kernel_rfl) (by kernel_rfl) (by kernel_rfl) (by kernel_rfl) (fun _ _ _ h => h) (Or.inl ⟨by rfl, fun W hW => by go_simp⟩) hB3 ?_
      simp only [Act.put, List.getElem_toArray, List.getElem_cons_zero, List.getElem_cons_succ, List.setIfInBounds_toArray, List.set_cons_zero, List.set_cons_succ]
      refine takeG0 (i := 10) (v := vc) rfl (by kernel_rfl) (by kernel_rfl) (by kernel_rfl) (by kernel_rfl) (fun _ _ _ h => h) (Or.inl ⟨by rfl, fun W hW => by go_simp⟩) hB3 ?_
      simp only [Act.put, List.getElem_toArray, List.getElem_cons_zero, List.getElem_cons_succ, List.setIfInBounds_toArray, List.set_cons_zero, List.set_cons_succ]
      refine lastG (by kernel_rfl) rfl (by kernel_rfl) (fun K hK => ?_)
      go_simp
      refine hK.out _ _ ?_
      clear hK K
      obtain ⟨og, cap, cs, rfl, hog, hcs, hcap, hcm, hgo, hins⟩ := hOut
      have hb3 : Below wr.heap.size wr W3 := HC4.out.2.2.2.trans (hB3.mono HC4.out.2.2.2.size)
      have hal3 := (Below.refl W3.heap.size W3).alloc (Nat.le_refl _) (.cells #[.int .i64 1, .int .i64 0, .int .i64 0, .int .i64 0, .int .u32 v] 41)
      have own3 := own_below HR.out.1 (Nat.le_refl _) (step_below hb3 hal3)
      have src3 := sl_one W3 ⟨1, 0, 0, 0, v⟩
      have hbs3 : W0.heap.size ≤ (W3.alloc (.cells #[.int .i64 1, .int .i64 0, .int .i64 0, .int .i64 0, .int .u32 v] 41)).heap.size := Nat.le_trans HR.out.2.size (step_below hb3 hal3).size
      have hT3 : Tab W3 := HC4.out.2.2.1.step hB3
      have hnb : some og ≠ u9.ownBlock := fun e => by have h1 := (own_in HR.out.1 og e.symm).2; have h2 := HC4.out.2.2.2.size; omega
      have HZ := Lib.hid (And.intro hog (And.intro hins (And.intro hgo (And.intro hb3 (And.intro hcap hcm)))))
      have HT := Lib.hid (And.intro hT3 hal3)
      have hLk := (sqTo_ok HN.out.1 HN.out.2.1 HN.out.2.2 k hk).2
      clear hog hins hgo hcs hb3 hal3 hT3 hcap hcm hB3
      generalize hLe : sqTo n at_ v k = L at own3 hLk ⊢
      go_wp2_with (at_builtin; refine wpList_append_ins rfl (.tmp 53) (.tmp 56) rfl W0.heap.size u9 L [⟨1, 0, 0, 0, v⟩] rfl own3 _ 1 rfl src3 (by simp; omega) hbs3 ?_; intro A4 c4 W4 own4 hg4 hb4)
      have hog4 := (HZ.out.1.alloc (.cells #[.int .i64 1, .int .i64 0, .int .i64 0, .int .i64 0, .int .u32 v] 41)).grown hg4 hnb
      have hT4 : Tab W4 := (HT.out.1.alloc _).below hb4 HW.out.2.2.2.2.2.1
      generalize hL4 : L ++ [(⟨1, 0, 0, 0, v⟩ : Ins)] = L4 at own4 ⊢
      have hl4 : L4.length = L.length + 1 := by rw [← hL4]; simp
      obtain ⟨C, hC⟩ : ∃ C, sqL n at_ call = C := ⟨_, rfl⟩
      have hins := HZ.out.2.1
      have hcl := HZ.out.2.2.2.2.1
      have hgood := sq_good HN.out.1 HN.out.2.1 call HK.out.2
      rw [hC] at hins hcl hgood ⊢
      simp only [Bool.and_eq_true, decide_eq_true_eq, List.all_eq_true] at hgood
      have hl0 : L4.length ≤ 200 := by omega
      have hcOk : (⟨some ⟨og, 0, none⟩, C.length, cap, fun i => C.getD i default⟩ : Cd).Ok := ⟨hcl, HZ.out.2.2.2.2.2, fun i hi => okB_ok (hgood.1 _ (by show C.getD i default ∈ C; rw [List.getD_eq_getElem?_getD, List.getElem?_eq_getElem hi]; exact List.getElem_mem hi))⟩
      have cM := moved_any ⟨some ⟨og, 0, none⟩, C.length, cap, fun i => C.getD i default⟩ ((L.length : Int) + 1) hcOk (show C.length ≤ 100000 by omega) (by omega) (by omega) W4 hT4 (sle_ins hog4 hins)
      unfold Cd.val at cM
      dsimp only at cM
      have hC20 := hgood.2
      have HB4 := Lib.hid (And.intro hb4 (And.intro hg4.size (And.intro hT4 own4)))
      have HE := Lib.hid (And.intro hLe (And.intro hL4 (And.intro hC hl4)))
      clear hgood hcOk hins hcl own3 src3 hbs3 hg4 hb4 hT4 hLe hL4 hC hnb hog4 own4
      have hl4i : (L.length : Int) + 1 ≤ 200 := by omega
      go_wp2_with fail
      with_reducible refine cM.mono ?_
      rintro e W5 ⟨cs5, rfl, hb5, hsz5, hin5, hB5⟩
      obtain ⟨C2, hC2⟩ : ∃ C2, C.map (movedI ((L.length : Int) + 1)) = C2 := ⟨_, rfl⟩
      have hC2l : C2.length = C.length := by rw [← hC2, List.length_map]
      have hin2 : ∀ i, i < C2.length → InsAt cs5 i (C2.getD i default) := fun i hi => by
        have h := hin5 i (by omega)
        have e2 : C2.getD i default = movedI ((L.length : Int) + 1) (C.getD i default) := by
          have hi2 : i < C.length := by omega
          rw [← hC2]
          simp [List.getD_eq_getElem?_getD, List.getElem?_eq_getElem hi2]
        rw [e2]
        exact h
      have src5 := sl_ins (cap := 0) hb5 hin2
      have own5 : W5.ownsRow W0.heap.size 41 5 (.slice A4 (L.length + 1) c4) L4.length (L4.flatMap Ins.cells) := by
        have h := own_below HB4.out.2.2.2 (Nat.le_refl _) hB5
        rw [show (Value.slice A4 (L.length + 1) c4) = .slice A4 L4.length c4 from by rw [hl4]]
        exact h
      have hbs5 : W0.heap.size ≤ W5.heap.size := Nat.le_trans (Nat.le_trans (by have := HR.out.2.size; have := HZ.out.2.2.2.1.size; simp at *; omega) HB4.out.2.1) hB5.size
      have HM := Lib.hid (And.intro hB5 (And.intro hC2 (show 0 = 0 from rfl)))
      generalize W4.heap.size = mb at hb5 src5 ⊢
      clear cM hb5 hsz5 hin5 hin2 hB5 hC2
      have hlen6 : (L4 ++ C2).length = L.length + 1 + C.length := by rw [List.length_append, hl4, hC2l]
      have hlen8 : (L4 ++ C2 ++ [(⟨22, 7, 0, 0, 0⟩ : Ins)]).length = L.length + 1 + C.length + 1 := by rw [List.length_append, hlen6]; rfl
      go_wp2_with (first | (at_builtin; refine wpList_append_ins rfl (.tmp 58) (.tmp 62) rfl W0.heap.size (.slice A4 (L.length + 1) c4) L4 C2 rfl own5 (some ⟨mb, 0, none⟩) C.length (by show Value.slice (some ⟨mb, 0, none⟩) C.length C.length = .slice (some ⟨mb, 0, none⟩) C2.length C.length; rw [hC2l]) src5 (by omega) hbs5 ?_; intro A6 c6 W6 own6 hg6 hb6; have own7 := own_below (own_re own6 hlen6) (Nat.le_refl _) ((Below.refl W6.heap.size W6).alloc (Nat.le_refl _) (.cells #[.int .i64 22, .int .i64 7, .int .i64 0, .int .i64 0, .int .u32 0] 41)); have src7 := sl_one W6 ⟨22, 7, 0, 0, 0⟩; have hbs7 : W0.heap.size ≤ (W6.alloc (.cells #[.int .i64 22, .int .i64 7, .int .i64 0, .int .i64 0, .int .u32 0] 41)).heap.size := Nat.le_trans (Nat.le_trans hbs5 hg6.size) (by simp)) | (at_builtin; refine wpList_append_ins rfl (.tmp 64) (.tmp 66) rfl W0.heap.size (.slice A6 (L.length + 1 + C.length) c6) (L4 ++ C2) [⟨22, 7, 0, 0, 0⟩] rfl own7 _ 1 rfl src7 (by simp; omega) hbs7 ?_; intro A8 c8 W8 own8 hg8 hb8; have own9 := own_re own8 hlen8; clear own6 own7 src7 own8))
      go_roundw
      case rel =>
        refine ⟨k + 1, by omega, by go_num, rfl, ?_, ?_⟩
        · have e : sqTo n at_ v (k + 1) = L4 ++ C2 ++ [⟨22, 7, 0, 0, 0⟩] := by
            rw [sqTo_succ n at_ v k hlt, HK.out.1, HE.out.1]
            unfold sqAdd
            rw [HE.out.2.2.1, HM.out.2.1, HE.out.2.1]
          rw [e]
          exact own9
        · have h3 := HR.out.2.trans (HZ.out.2.2.2.1.mono HR.out.2.size)
          have h4 := (h3.trans (HT.out.2.mono h3.size)).trans HB4.out.1
          have h6 := (h4.trans (HM.out.1.mono h4.size)).trans hb6
          have h7 := h6.trans (((Below.refl W6.heap.size W6).alloc (Nat.le_refl _) (.cells #[.int .i64 22, .int .i64 7, .int .i64 0, .int .i64 0, .int .u32 0] 41)).mono h6.size)
          exact h7.trans hb8
      case measure => simp [intOf]; omega
    · obtain rfl : k = 7 := by omega
      have hsq := sqAll_ok HN.out.1 HN.out.2.1 HN.out.2.2
      have hLk := (sqTo_ok HN.out.1 HN.out.2.1 HN.out.2.2 7 (Nat.le_refl _)).2
      have hal := (Below.refl wr.heap.size wr).alloc (Nat.le_refl _) (.cells #[.int .i64 22, .int .i64 at_, .int .i64 0, .int .i64 0, .int .u32 0] 41)
      have own3 := own_below hr (Nat.le_refl _) hal
      have src3 := sl_one wr ⟨22, at_, 0, 0, 0⟩
      have hbs3 : W0.heap.size ≤ (wr.alloc (.cells #[.int .i64 22, .int .i64 at_, .int .i64 0, .int .i64 0, .int .u32 0] 41)).heap.size := Nat.le_trans hB.size (by simp)
      have HB := Lib.hid (And.intro hB (And.intro hsq hal))
      have hat0 : 0 ≤ at_ := HN.out.2.1.1
      have hat3 : at_ ≤ 3 := by have := HN.out.2.1.2; have := HN.out.1.2; omega
      generalize hLe : sqTo n at_ v 7 = L at own3 hLk ⊢
      clear hr hB hal hsq hlt hk
      have hmk := make21
      go_wp2_with (at_builtin; refine wpList_append_ins rfl (.tmp 68) (.tmp 72) rfl W0.heap.size u9 L [⟨22, at_, 0, 0, 0⟩] rfl own3 _ 1 rfl src3 (by simp; omega) hbs3 ?_; intro A4 c4 W4 own4 hg4 hb4; have own5 := own_re own4 (show (L ++ [(⟨22, at_, 0, 0, 0⟩ : Ins)]).length = L.length + 1 from by simp); clear own4 own3 src3)
      have hA1 : L ++ [⟨22, at_, 0, 0, 0⟩] = sqAll n at_ v := by rw [← hLe]; rfl
      have hlen : (sqAll n at_ v).length = L.length + 1 := by rw [← hA1]; simp
      rw [hA1] at own5
      obtain ⟨pO, pC, pA⟩ := sqPg_ok HN.out.1 HN.out.2.1 HN.out.2.2 W0.heap.size c4 A4 W4 (own_re own5 hlen.symm)
      rw [hlen] at pA
      have hb44 : Below W0.heap.size W0 W4 := (HB.out.1.trans (HB.out.2.2.mono HB.out.1.size)).trans hb4
      have hal4 := (Below.refl W4.heap.size W4).alloc (Nat.le_refl _) (.cells #[.slice A4 (L.length + 1) c4] 29)
      have hal5 := hal4.alloc hal4.size (.cells (List.replicate 21 (Value.int .u32 0)).toArray 25)
      have hb5 := hb44.trans (hal5.mono hb44.size)
      have hT5 := HW.out.2.2.2.2.2.below hb5 HW.out.2.2.2.2.2.1
      have cN := tsoNew_ok _ pO 0 0 pC _ hT5 pA
      have HP := Lib.hid (And.intro pO (And.intro (HW.out.2.2.2.2.1.trans (hb5.mono HW.out.2.2.2.2.1.size)) hT5))
      clear pA pC hT5 hal4 hal5 hb44 hb5 hb4 hg4 own5 hA1 hmk hLe hLk pO
      unfold Pg.val at cN
      dsimp only [sqPg] at cN
      change Calls Tryd.prog 17 #[.agg #[.slice (some ⟨W4.heap.size, 0, none⟩) 1 1, .slice (some ⟨W4.heap.size + 1, 0, none⟩) 21 21, .int .i64 2]] _ _ at cN
      refine cN.mono ?_
      rintro r W6 ⟨B, rfl, hNew, hroom, hI, hB6⟩
      have hNew' : NewM (sqPg W4.heap.size (W4.heap.size + 1) A4 c4 (sqAll n at_ v)) B := hNew
      have hend := sq_end HN.out.1 HN.out.2.1 v hNew' hroom
      have hBok : MBok B := newM_ok hNew' (show 1 ≤ 8 by decide) (show 21 ≤ 1024 by decide)
      have hOk0 := t0_ok HP.out.1 hNew'
      have hCan0 : mCan B 1300 (t0 (sqPg W4.heap.size (W4.heap.size + 1) A4 c4 (sqAll n at_ v))) := t0_can (show 1 ≤ 8 by decide) 1300 (by decide)
      have hroom2 : B.room ≤ 16 := by rw [hroom]; decide
      obtain ⟨own0, hI0, hI2⟩ : ∃ own0 : Nat → Prop, MInv tsoL B (t0 (sqPg W4.heap.size (W4.heap.size + 1) A4 c4 (sqAll n at_ v))) own0 W6 ∧ ∀ i, own0 i → w.heap.size ≤ i := ⟨_, hI, fun i hi => Nat.le_trans HP.out.2.1.size hi.1⟩
      have hT6 := HP.out.2.2.step hB6
      have hb6 : Below w.heap.size w W6 := HP.out.2.1.trans (hB6.mono HP.out.2.1.size)
      clear cN hNew hNew' hI hB6 hroom
      generalize t0 (sqPg W4.heap.size (W4.heap.size + 1) A4 c4 (sqAll n at_ v)) = s0 at hend hOk0 hCan0 hI0
      have HM := Lib.hid (And.intro hend (And.intro hBok (And.intro hOk0 (And.intro hCan0 (And.intro hroom2 (And.intro hI0 (And.intro hI2 (And.intro hT6 hb6))))))))
      clear hend hBok hOk0 hCan0 hroom2 hI0 hI2 hT6 hb6
      go_wp2_with fail
      go_loopw [17] (fun v17 wq => ∃ j : Nat, j ≤ 400 ∧ v17 = .int .i64 j ∧ Moves (MInv tsoL B) (tRun B s0 (List.replicate j (0, 0))) own0 W6 wq) (fun v17 _ => 400 - (intOf v17).toNat)
      case atStart => exact ⟨0, Nat.zero_le _, rfl, own0, HM.out.2.2.2.2.2.1, fun i hi => .inl hi, KeepOut.refl _ _⟩
      case round =>
        obtain ⟨j, hj, rfl, own1, hI1, ho1, hk1⟩ := hrel
        have hTq := hk1.tab HM.out.2.2.2.2.2.1.lo HM.out.2.2.2.2.2.2.2.1
        by_cases hlt : j < 400
        · have hc : mCan B 3 (tRun B s0 (List.replicate j (0, 0))) := tRun_can HM.out.2.1 HM.out.2.2.2.2.1 _ s0 3 HM.out.2.2.1 (by
            have h := HM.out.2.2.2.1
            rw [List.length_replicate]
            exact ⟨by have := h.evs; omega, by have := h.slp; omega, h.who, h.buf, h.t8⟩)
          have cP := tpick_any B HM.out.2.1 HM.out.2.2.2.2.1 _ (tRun_ok HM.out.2.1 _ s0 HM.out.2.2.1) hc own1 _ hI1 hTq (0, 0)
          have hj4 : (j : Int) < 400 := by omega
          have HO := Lib.hid (And.intro ho1 hk1)
          clear hc hI1 hTq ho1 hk1
          go_wp2_with fail
          refine cP.mono ?_
          rintro e W8 ⟨⟨u, rfl⟩, hM2⟩
          clear cP
          go_wp2
          go_roundw
          case rel =>
            refine ⟨j + 1, by omega, by go_num, ?_⟩
            rw [List.replicate_succ', tRun_snoc]
            exact Moves.after HO.out.1 HO.out.2 hM2
          case measure => simp [intOf]; omega
        · obtain rfl : j = 400 := by omega
          obtain ⟨hend, hfew⟩ := HM.out.1
          obtain ⟨evl, hevl⟩ : ∃ evl, (tRun B s0 (List.replicate 400 (0, 0))).evs = evl := ⟨_, rfl⟩
          have cE := tevents_any B _ own1 _ hI1 (by rw [hevl] at hfew ⊢; omega)
          rw [hevl] at cE hend hfew
          have hbq : Below w.heap.size w wr := HM.out.2.2.2.2.2.2.2.2.trans ⟨hk1.os, hk1.tape, hk1.output, hk1.size, fun i hi => hk1.block i (Nat.lt_of_lt_of_le hi HM.out.2.2.2.2.2.2.2.2.size) (fun ho => by have := HM.out.2.2.2.2.2.2.1 i ho; omega)⟩
          have HV := Lib.hid (And.intro hend (And.intro hfew hbq))
          clear hend hfew hevl hI1 hTq ho1 hk1 hlt hbq
          go_wp2_with fail
          refine cE.mono ?_
          rintro e W8 ⟨ve, rfl, hr8, hB8⟩
          clear cE
          obtain ⟨AE, capE, rfl, _, hslE⟩ := own_sle Evt.cells (fun _ => rfl) ev0 evl hr8
          have cO := outs_any AE evl.length capE (fun i => toEv (evl.getD i ev0)) 0 (by have := HV.out.2.1; omega) W8 hslE
          rw [oL_evs, show ((evl.filter fun x => x.who == 0 && x.kind == 6).map fun x => x.value) = [0, 1, 0, 0, 2, 2, 0, v] from HV.out.1] at cO
          clear hr8 hslE
          go_wp2_with fail
          refine cO.mono ?_
          rintro e W9 ⟨vo, rfl, hr9, hB9⟩
          clear cO
          have hb9 : Below w.heap.size w W9 := step_below (step_below HV.out.2.2 hB8) hB9
          obtain ⟨AO, capO, rfl, _, hslO⟩ := own_sl hr9
          obtain ⟨go_, oo, rfl, hlo, hco⟩ := hslO (show 0 < 8 by decide)
          have o0 : W9.cell? ⟨go_, oo + 0, none⟩ = some (.int .u32 0) := hco 0 (show 0 < 8 by decide)
          have o1 : W9.cell? ⟨go_, oo + 1, none⟩ = some (.int .u32 1) := hco 1 (show 1 < 8 by decide)
          have o2 : W9.cell? ⟨go_, oo + 2, none⟩ = some (.int .u32 0) := hco 2 (show 2 < 8 by decide)
          have o3 : W9.cell? ⟨go_, oo + 3, none⟩ = some (.int .u32 0) := hco 3 (show 3 < 8 by decide)
          have o4 : W9.cell? ⟨go_, oo + 4, none⟩ = some (.int .u32 2) := hco 4 (show 4 < 8 by decide)
          have o5 : W9.cell? ⟨go_, oo + 5, none⟩ = some (.int .u32 2) := hco 5 (show 5 < 8 by decide)
          have o6 : W9.cell? ⟨go_, oo + 6, none⟩ = some (.int .u32 0) := hco 6 (show 6 < 8 by decide)
          have o7 : W9.cell? ⟨go_, oo + 7, none⟩ = some (.int .u32 v) := hco 7 (show 7 < 8 by decide)
          rw [Nat.add_zero] at o0
          have HQ := Lib.hid hb9
          clear hco hr9 hB8 hB9 hb9 hlo
          go_wp2
          go_ret
          exact ⟨rfl, HQ.out⟩

end Go.Proofs.YtmhfpjnkjlhbpaaDoor
