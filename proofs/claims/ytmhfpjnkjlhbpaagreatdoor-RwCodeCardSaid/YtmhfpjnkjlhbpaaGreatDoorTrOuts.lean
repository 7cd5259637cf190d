/- RwCode. -/
import Derived.Test.YtmhfpjnkjlhbpaaGreatDoorTrOf
import Derived.Maps.AppendAt
namespace Go.Proofs.YtmhfpjnkjlhbpaaGreatDoor
open Go.ChangeShapes Go.WideShapes Go.ChangeAt Go.RowKit Go.Shelf
set_option linter.unusedVariables false
set_option maxRecDepth 100000
set_option linter.unusedSimpArgs false
attribute [local go_sem] Oper.semAt_some
theorem u32_info : (Tryz.prog.info? 42).map (fun i => (i.zero, i.size, i.bytes)) = some (some (.int .u32 0), 1, 4) := by kernel_rfl
def oL (pre : List (Nat × Ev)) : List Int := (pre.filter fun x => x.2.kind == 6).map fun x => x.2.value
theorem oL_hit (pre : List (Nat × Ev)) {x : Nat × Ev} (h : x.2.kind = 6) : oL (pre ++ [x]) = oL pre ++ [x.2.value] := by
  unfold oL
  rw [List.filter_append, List.map_append, List.filter_cons_of_pos (p := fun x : Nat × Ev => x.2.kind == 6) (by simpa using h)]
  rfl
theorem oL_miss (pre : List (Nat × Ev)) {x : Nat × Ev} (h : x.2.kind ≠ 6) : oL (pre ++ [x]) = oL pre := by
  unfold oL
  rw [List.filter_append, List.map_append, List.filter_cons_of_neg (p := fun x : Nat × Ev => x.2.kind == 6) (by simpa using h)]
  simp
theorem oL_len (pre : List (Nat × Ev)) : (oL pre).length ≤ pre.length := by
  unfold oL
  rw [List.length_map]
  exact List.length_filter_le _ _
theorem blk_kept {X Y : World} {B : Nat} {t : TypeId} {cs : Array Value} {row : Option Nat} (h : Blk X B t cs) (hg : X.grownBy Y row) (hr : ∀ r, row = some r → ∃ o : Obj, X.heap[r]? = some o ∧ o.isCells = false) : Blk Y B t cs :=
  h.grown hg (fun e => by
    obtain ⟨o, ho, hc⟩ := hr B e.symm
    unfold Blk at h
    rw [h] at ho
    cases ho
    cases hc)
def tvArr (x : Ev) : Array Value := #[.int .i64 x.kind, .int .i64 x.who, .int .i64 x.pc, .int .i64 x.addr, .int .u32 x.value, .int .u32 x.old, .int .u32 x.k, .bool x.ok]
set_option maxRecDepth 100000 in
set_option maxHeartbeats 2000000 in
theorem outs_in (F : Fence) (n : Nat) (h1' : F.fn 30) (h2' : F.fn 66) (h3' : F.fn 109) (hro : F.round = none) (hn : 3 ≤ n) (A : Option Addr) (len cap : Nat) (E : Nat → Ev) (t : Int) (hl : len ≤ 1000000000) (w : World) (hs : SlE w A len 8 (fun i => (E i).cells)) :
    CallsIn F n Tryz.prog 30 #[.slice A len cap, .int .i64 t] w fun e W' => ∃ v, e = .returned v ∧ W'.ownsRow w.heap.size 42 1 v (oL (evs E t len)).length ((oL (evs E t len)).map (Value.int .u32)) ∧ Below w.heap.size w W' := by
  have h1 : 1 ≤ n := by omega
  obtain ⟨i0, hi, hz0, hz1, hz2⟩ := info_parts u32_info
  refine callsIn_of_wp_marks Tryz.func30 rfl h1' ?_ hro
  simp only [Tryz.ntmps30, List.size_toArray, List.length_cons, List.length_nil, Nat.reduceAdd, Nat.reduceSub, Array.replicate_succ, Array.replicate_zero, List.push_toArray, List.append_toArray, List.nil_append, List.cons_append]
  gi_wp2_with (gi_at_call 66; refine (of_in F (n - 1) h2' hro _ _ _ _ _).mono ?_; rintro e w' ⟨rfl, rfl⟩)
  have bO := Boxed.new w 27 (.slice none 0 0)
  have bS := Boxed.new (w.alloc (.cells #[.slice none 0 0] 27)) 40 (.slice A len cap)
  have bT := Boxed.new ((w.alloc (.cells #[.slice none 0 0] 27)).alloc (.cells #[.slice A len cap] 40)) 3 (.int .i64 t)
  rw [World.size_alloc] at bS bT
  rw [World.size_alloc] at bT
  have hB0 : Below w.heap.size w (((w.alloc (.cells #[.slice none 0 0] 27)).alloc (.cells #[.slice A len cap] 40)).alloc (.cells #[.int .i64 t] 3)) := (((Below.refl _ w).alloc (Nat.le_refl _) _).alloc (by simp) _).alloc (by simp; omega) _
  have hsz : (((w.alloc (.cells #[.slice none 0 0] 27)).alloc (.cells #[.slice A len cap] 40)).alloc (.cells #[.int .i64 t] 3)).heap.size = w.heap.size + 3 := by simp
  have bO2 := (bO.alloc (.cells #[.slice A len cap] 40)).alloc (.cells #[.int .i64 t] 3)
  have bS2 := bS.alloc (.cells #[.int .i64 t] 3)
  obtain ⟨W0, hW0⟩ : ∃ W0, ((w.alloc (.cells #[.slice none 0 0] 27)).alloc (.cells #[.slice A len cap] 40)).alloc (.cells #[.int .i64 t] 3) = W0 := ⟨_, rfl⟩
  rw [hW0] at bO2 bS2 bT hB0 hsz ⊢
  clear hW0 bO bS
  have hbA : 0 < len → ∀ b off, A = some ⟨b, off, none⟩ → b < w.heap.size := fun hp b off e => by
    obtain ⟨b', off', e', hlt, _⟩ := hs hp
    rw [e] at e'
    injection e' with e'
    injection e' with e1 _
    omega
  refine wpIn_rangeFunc_ownH hro h1 (gf := 109) (lb := #[.pointer (some ⟨w.heap.size + 1, 0, none⟩), .pointer (some ⟨w.heap.size + 1 + 1, 0, none⟩)]) rfl h3' (enters_of Tryz.func109 (by kernel_rfl) rfl)
    (of_stops F (n - 1) h3' hro (by omega) (w.heap.size + 1) (w.heap.size + 1 + 1) w.heap.size A len cap E t hl W0 (by omega) (by omega) bS2.cell bT hbA (SlE.step hs hB0)) KpOf.trans (kpOf_b (by omega) (by omega)) (Below.refl _ _) (fun _ => rfl)
    (fun pre W => ((∃ v, Boxed W w.heap.size 27 v ∧ W.ownsRow w.heap.size 42 1 v (oL pre).length ((oL pre).map (Value.int .u32)) ∧ True) ∧ Boxed W (w.heap.size + 1 + 1) 3 (.int .i64 t)) ∧ Below w.heap.size w W)
    (fun _ _ _ => False)
    (OwnFrom.and (OwnFrom.and (Own.from (holdsRow_own w.heap.size w.heap.size 27 42 1 (fun pre => (oL pre).length) (fun pre => (oL pre).map (Value.int .u32)) (fun pre v => True)) _) (Own.from (boxed_own _ _ _) _)) (ownFrom_below (Nat.le_refl _) (by omega)))
    (fun _ _ _ _ _ hs _ _ => hs)
    ⟨⟨⟨_, bO2, World.ownsRow_nil _ _ _ _, trivial⟩, bT⟩, hB0⟩
    (fun x a' W => ∃ Bx, w.heap.size + 1 + 1 < Bx ∧ Blk W Bx 65 (tvArr x.2) ∧ a' = { tmps := #[.slice A len cap, .int .i64 t, undef, undef, .slice none 0 0, .pointer (some ⟨w.heap.size, 0, none⟩), undef, .pointer (some ⟨Bx, 0, none⟩), .slice A len cap, .int .i64 t, .func (.func 109) #[] #[.pointer (some ⟨w.heap.size + 1, 0, none⟩), .pointer (some ⟨w.heap.size + 1 + 1, 0, none⟩)], .int .i64 (x.1 : Int), .agg #[.int .i64 x.2.kind, .int .i64 x.2.who, .int .i64 x.2.pc, .int .i64 x.2.addr, .int .u32 x.2.value, .int .u32 x.2.old, .int .u32 x.2.k, .bool x.2.ok], undef, undef, undef, undef, undef, undef, undef, undef, undef], defers := [] })
    (fun x a' _ X Y row hs hg hr => by obtain ⟨Bx, h1, h2, h3⟩ := hs; exact ⟨Bx, h1, blk_kept h2 hg (fun r e => (hr r e).2), h3⟩)
    ?assign ?body ?done ?stop
  case assign =>
    rintro l pre x W K ⟨⟨⟨v, hv, hrow, _⟩, bT1⟩, hB1⟩ hK
    unfold evEnc
    gi_wp2
    exact hK _ _ ((KeepsOthers.alloc _ _).from _) (KpOf.of_below ((Below.refl _ W).alloc (Nat.le_refl _) _) hB1.size) ⟨⟨⟨v, hv.alloc _, hrow.alloc _, trivial⟩, bT1.alloc _⟩, hB1.alloc hB1.size _⟩ ⟨W.heap.size, bT1.lt, Blk.new W _ _, rfl⟩
  case body =>
    rintro l pre x a' W hl9 ⟨r, hr⟩ ⟨⟨⟨v, hv, hrow, _⟩, bT1⟩, hB1⟩ ⟨Bx, hBx, bX, rfl⟩ hlt
    have hc := hv.cell
    have x0 := bX.cell 0
    have x4 := bX.cell 4
    simp only [tvArr, List.getElem?_toArray, List.getElem?_cons_zero, List.getElem?_cons_succ] at x0 x4
    have hpl := oL_len pre
    have hxlt := bX.lt
    by_cases hk : x.2.kind = 6
    · have hkb : (x.2.kind == 6) = true := by simpa using hk
      have hL := oL_hit pre hk
      have HL := Lib.hid hL
      clear hk hL
      gi_wp2_with (gi_at_builtin; refine wpListIn_append_own _ rfl _ _ 27 rfl w.heap.size 42 i0 (.int .u32 0) 1 4 Tryz.underlying27 hi hz0 hz1 hz2 rfl (by decide) _ _ _ rfl (hrow.alloc _) ⟨W.heap.size, 0, none⟩ 1 1 [.int .u32 x.2.value] rfl rfl (cell_one_new _ _ _) (by simp [Value.oneCell']) (by unfold maxLen; omega) (by omega) (by have := hB1.size; simp; omega) ?_; intro v' w1 hown' hgrow _; obtain ⟨g', cap', rfl⟩ := ownsRow_succ hown'; obtain ⟨hv1, hv2, hr2, hk2, hb2⟩ := hv.appended (by decide) hrow hB1.size (Nat.le_refl _) hown' hgrow; have hc1 := hv1.cell; have hf1 := hv1.frozen)
      have bT2 := ((bT1.alloc (.cells [Value.int .u32 x.2.value].toArray 42)).kept hgrow (bT1.not_row (by decide) hrow)).other (B' := w.heap.size) (by omega) (Value.slice (some ⟨g', 0, none⟩) ((oL pre).length + 1) cap')
      have hKp : KpOf w.heap.size (w.heap.size + 1 + 1) W (w1.setCell ⟨w.heap.size, 0, none⟩ (Value.slice (some ⟨g', 0, none⟩) ((oL pre).length + 1) cap')) := ⟨hb2, fun o ho => by
        have e := bT1.symm.trans ho
        rw [← Option.some.inj e]
        exact bT2⟩
      refine ⟨hk2.from _, hKp, ⟨⟨_, hv2, ?_, trivial⟩, bT2⟩, hB1.trans hb2⟩
      rw [HL.out, List.length_append, List.map_append]
      exact hr2
    · have hkb : (x.2.kind == 6) = false := by simpa using hk
      have hL := oL_miss pre hk
      have HL := Lib.hid hL
      clear hk hL
      gi_wp2
      exact ⟨KeepsFrom.refl _ _, KpOf.refl _ _ _, ⟨⟨v, hv, by rw [HL.out]; exact hrow, trivial⟩, bT1⟩, hB1⟩
  case done =>
    rintro D ys W hD rfl ⟨⟨⟨v, hv, hrow, _⟩, bT1⟩, hB⟩ hK
    have hc := hv.cell
    gi_wp2
    refine ⟨by simp, .inl ⟨_, _, rfl, run_takeDeferred hK, ?_⟩⟩
    exact ⟨_, results_tmp rfl _ _ _, v, rfl, ownsRow_putObj hrow _ hK rfl, hB.trans (belowK_b (w := w) (Nat.le_refl _) W D _ _ (by omega) hK rfl rfl)⟩
  case stop =>
    rintro D c pre W _ _ h _
    exact h.elim
theorem outs_any (A : Option Addr) (len cap : Nat) (E : Nat → Ev) (t : Int) (hl : len ≤ 1000000000) (w : World) (hs : SlE w A len 8 (fun i => (E i).cells)) :
    Calls Tryz.prog 30 #[.slice A len cap, .int .i64 t] w fun e W' => ∃ v, e = .returned v ∧ W'.ownsRow w.heap.size 42 1 v (oL (evs E t len)).length ((oL (evs E t len)).map (Value.int .u32)) ∧ Below w.heap.size w W' :=
  (callsIn_wide (n := 3)).1 (outs_in Fence.wide 3 trivial trivial trivial rfl (by omega) A len cap E t hl w hs)
end Go.Proofs.YtmhfpjnkjlhbpaaGreatDoor
