/- Queues of sleepers: slices.Delete of one; Rouse. -/
import Derived.Test.YtaanmamgmjhegaaKernD
import Derived.Deep.RegionLaw
namespace Go.Proofs.Ytaanmamgmjhegaa
open Go.ChangeShapes Go.WideShapes Go.ChangeAt Go.RowKit Go.Deep
set_option linter.unusedVariables false
set_option linter.unusedSimpArgs false

/-- Cells put into the midst of an owned row. -/
theorem own_put {w : World} {base g len cap s : Nat} {e : TypeId} {xs news : List Value} {p : Nat} (h : w.ownsRow base e s (.slice (some ⟨g, 0, none⟩) len cap) len xs) (hp : p + news.length ≤ len * s) :
    (w.setCells g p news).ownsRow base e s (.slice (some ⟨g, 0, none⟩) len cap) len (xs.take p ++ news ++ xs.drop (p + news.length)) ∧ w.grownBy (w.setCells g p news) (some g) := by
  obtain ⟨h1, h2⟩ := h
  rcases h2 with ⟨h', _⟩ | ⟨g', cap', cur, h', hb, hg, hnc, hcm, hcs, htake⟩
  · simp at h'
  · simp only [Value.slice.injEq, Option.some.injEq, Addr.mk.injEq, and_true, true_and] at h'
    obtain ⟨rfl, rfl⟩ := h'
    have hls : len * s ≤ cap * s := Nat.mul_le_mul_right _ hnc
    obtain ⟨cs', q1, q2, q3, q4, q5⟩ := setCells_row g e news p w cur hg (by rw [hcs]; omega)
    refine ⟨⟨by simp [h1]; omega, .inr ⟨g, cap, cs', rfl, hb, q1, hnc, hcm, by omega, ?_⟩⟩, q5⟩
    apply List.ext_getElem?
    intro k
    have hx : ∀ k, k < len * s → xs[k]? = cur.toList[k]? := fun k hk => by rw [← htake, List.getElem?_take_of_lt hk]
    by_cases hk : k < len * s
    · rw [List.getElem?_take_of_lt hk, Array.getElem?_toList]
      by_cases k1 : k < p
      · rw [q4 k (.inl k1), List.append_assoc, List.getElem?_append_left (by simp; omega), List.getElem?_take_of_lt k1, hx k hk, Array.getElem?_toList]
      · by_cases k2 : k < p + news.length
        · have := q3 (k - p) (by omega)
          rw [show p + (k - p) = k from by omega] at this
          rw [this, List.getElem?_append_left (by simp; omega), List.getElem?_append_right (by simp; omega)]
          congr 1
          simp
          omega
        · rw [q4 k (.inr (by omega)), List.getElem?_append_right (by simp; omega), List.getElem?_drop]
          have e1 : p + news.length + (k - (xs.take p ++ news).length) = k := by simp; omega
          rw [e1, hx k hk, Array.getElem?_toList]
    · rw [List.getElem?_eq_none (by simp; omega), List.getElem?_eq_none (by simp; omega)]

theorem slp_len (l : List Slp) : (l.flatMap slp).length = l.length * 2 := by
  induction l with
  | nil => rfl
  | cons x l ih => rw [List.flatMap_cons, List.length_append, ih, List.length_cons]; show 2 + _ = _; omega
theorem flat_take' (l : List Slp) (i : Nat) (hi : i ≤ l.length) : (l.flatMap slp).take (i * 2) = (l.take i).flatMap slp := by
  have := flat_take (l.take i) (l.drop i)
  rw [List.take_append_drop, List.length_take, Nat.min_eq_left hi] at this
  exact this
theorem flat_drop (l : List Slp) (i : Nat) (hi : i ≤ l.length) : (l.flatMap slp).drop (i * 2) = (l.drop i).flatMap slp := by
  have h : l.flatMap slp = (l.take i).flatMap slp ++ (l.drop i).flatMap slp := by rw [← List.flatMap_append, List.take_append_drop]
  rw [h, List.drop_left']
  rw [slp_len, List.length_take, Nat.min_eq_left hi]

/-- What Delete leaves. -/
def DelO (l : List Slp) (i base : Nat) (v : Value) (w : World) (e : Ending) (w' : World) : Prop :=
  ∃ v', e = .returned v' ∧ w'.ownsRow base 66 2 v' (l.eraseIdx i).length ((l.eraseIdx i).flatMap slp) ∧ v'.ownBlock = v.ownBlock ∧ w.grownBy w' v.ownBlock
set_option maxHeartbeats 2000000 in
theorem delete_one (l : List Slp) (hm : l.length ≤ 10000) (i base : Nat) (hi : i < l.length) (v : Value) (w : World) (hr : w.ownsRow base 66 2 v l.length (l.flatMap slp)) :
    Calls Try.prog 38 #[v, .int .i64 (i : Int), .int .i64 ((i : Int) + 1)] w (DelO l i base v w) := by
  obtain ⟨A, cap, rfl, hlc, hs⟩ := own_sle slp (fun _ => rfl) (0, 0) l hr
  have hcm : cap ≤ 9223372036854775807 := by
    rcases hr.2 with ⟨e, _⟩ | ⟨g, c, cur, e, _, _, _, h2, _⟩
    · injection e with _ _ e; omega
    · injection e with _ _ e; unfold maxLen at h2; omega
  obtain ⟨g, off, rfl, hgl, hcc⟩ := hs (by omega)
  obtain rfl : off = 0 := by
    rcases hr.2 with ⟨e, _⟩ | ⟨g', c, cur, e, _⟩
    · cases e
    · injection e with e _ _; injection e with e; injection e with _ e _
  obtain ⟨i0, hi0, hy0, hy1, hy2⟩ := info_parts slp_info
  obtain ⟨len, hlen⟩ : ∃ len, l.length = len := ⟨_, rfl⟩
  have hr' := hr
  rw [hlen] at hr' hm hi hlc hcc ⊢
  -- the cells that move
  have hnl : ((l.drop (i + 1)).flatMap slp).length = (len - (i + 1)) * 2 := by rw [slp_len, List.length_drop, hlen]
  have hng : ∀ j u, ((l.drop (i + 1)).flatMap slp)[j]? = some u → w.drew.cell? ⟨g, (i + 1) * 2 + j, none⟩ = some u := fun j u hu => by
    have hj : j < (len - (i + 1)) * 2 := by rw [← hnl]; exact (List.getElem?_eq_some_iff.1 hu).1
    rw [← flat_drop l (i + 1) (by omega), List.getElem?_drop] at hu
    rw [World.cell?_drew, World.ownsRow.cellAt hr _ (by rw [hlen]; omega)]
    exact hu
  obtain ⟨A, hA, hnews⟩ : ∃ A : Addr, (if cap = i + 1 then some (⟨g, 0, none⟩ : Addr) else some ⟨g, (i + 1) * 2, none⟩) = some A ∧ Hid (∀ j u, ((l.drop (i + 1)).flatMap slp)[j]? = some u → w.drew.cell? (A.add j) = some u) := by
    by_cases h : cap = i + 1
    · refine ⟨⟨g, 0, none⟩, by simp [h], fun j u hu => ?_⟩
      have := (List.getElem?_eq_some_iff.1 hu).1
      rw [hnl] at this
      omega
    · exact ⟨⟨g, (i + 1) * 2, none⟩, by simp [h], fun j u hu => by rw [Addr.add_lit]; exact hng j u hu⟩
  have s1 : Hid (((l.drop (i + 1)).flatMap slp).length = (len - (i + 1)) * 2) := hnl
  have s2 : Hid (∀ u ∈ (l.drop (i + 1)).flatMap slp, u.oneCell' = true) := by
    intro u hu
    obtain ⟨x, _, hx⟩ := List.mem_flatMap.1 hu
    rcases (by simpa [slp] using hx : u = .int .i64 x.1 ∨ u = .int .i64 x.2) with rfl | rfl <;> rfl
  have s3 : Hid (∀ j, j < ((l.drop (i + 1)).flatMap slp).length → (w.drew.cell? ⟨g, 0 + i * 2 + j, none⟩).isSome = true ∧ w.drew.frozen? ⟨g, 0 + i * 2 + j, none⟩ = false) := by
    intro j hj
    rw [hnl] at hj
    refine ⟨?_, hr.frozenAt _⟩
    rw [World.cell?_drew, World.ownsRow.cellAt hr _ (by rw [hlen]; omega), List.getElem?_eq_getElem (by rw [slp_len, hlen]; omega)]
    rfl
  have hmn : i + (len - (i + 1)) = len - 1 := by omega
  have hput := own_put (w := w.drew) (p := i * 2) (news := (l.drop (i + 1)).flatMap slp) (s := 2) hr'.drew (by rw [s1.out]; omega)
  have hxs : (l.flatMap slp).take (i * 2) ++ (l.drop (i + 1)).flatMap slp ++ (l.flatMap slp).drop (i * 2 + ((l.drop (i + 1)).flatMap slp).length) = (l.eraseIdx i ++ l.drop (len - 1)).flatMap slp := by
    rw [s1.out, show i * 2 + (len - (i + 1)) * 2 = (len - 1) * 2 from by omega, flat_take' l i (by omega), flat_drop l (len - 1) (by omega), List.eraseIdx_eq_take_drop_succ, List.flatMap_append, List.flatMap_append]
  rw [hxs] at hput
  have hel : (l.eraseIdx i).length = len - 1 := by rw [List.length_eraseIdx, if_pos (by omega)]; omega
  obtain ⟨hrow, hg1⟩ := hput
  obtain ⟨w3, hclr, hrow3, hg3⟩ := own_clear hrow Try.underlying56 slp_zero rfl rfl rfl (len - 1) (cap - (len - 1)) (by omega)
  rw [← hel, flat_take, hel] at hrow3
  have HF := Lib.hid (And.intro hrow3 (hg1.trans hg3))
  have hi1 : (i : Int) + 1 ≤ (len : Int) := by omega
  have hi2 : (i : Int) < (cap : Int) := by omega
  have hi3 : (i : Int) ≤ (i : Int) + 1 := by omega
  have hne : ((i : Int) == (i : Int) + 1) = false := by simp; omega
  have hic : i ≤ cap := by omega
  have hwr : IntKind.i64.wrap ((i : Int) + 1) = (i : Int) + 1 := IntWalk.i64_in _ (by omega)
  have hp0 : (0 : Int) ≤ (i : Int) + 1 := by omega
  have hp2 : ((i : Int) + 1).toNat = i + 1 := by omega
  have HE := Lib.hid hel
  clear hr hr' hs hcc hlen hnl hng hrow hg1 hrow3 hg3 hxs hel
  go_enter Try.func38, Try.ntmps38
  go_upto_region 5 with fail
  refine startG (fun _ => True) 7 (by kernel_rfl) ?_
  try simp only [Act.put, List.setIfInBounds_toArray, List.set_cons_zero, List.set_cons_succ]
  refine takeG (i := 0) (v := .slice (some ⟨g, 0, none⟩) len cap) rfl (by kernel_rfl) (by kernel_rfl) (by kernel_rfl) (by kernel_rfl) (fun _ _ _ h => h) (Or.inl ⟨by rfl, fun W hW => by go_simp⟩) trivial ?_
  try simp only [Act.put, List.setIfInBounds_toArray, List.set_cons_zero, List.set_cons_succ]
  refine takeG (i := 1) (v := .int .i64 (i : Int)) rfl (by kernel_rfl) (by kernel_rfl) (by kernel_rfl) (by kernel_rfl) (fun _ _ _ h => h) (Or.inl ⟨by rfl, fun W hW => by go_simp⟩) trivial ?_
  try simp only [Act.put, List.setIfInBounds_toArray, List.set_cons_zero, List.set_cons_succ]
  refine takeG (i := 2) (v := .slice (some ⟨g, 0, none⟩) i cap) rfl (by kernel_rfl) (by kernel_rfl) (by kernel_rfl) (by kernel_rfl) (fun _ _ _ h => h) (Or.inl ⟨by rfl, fun W hW => by go_simp⟩) trivial ?_
  try simp only [Act.put, List.setIfInBounds_toArray, List.set_cons_zero, List.set_cons_succ]
  refine takeG (i := 3) (v := .slice (some ⟨g, 0, none⟩) len cap) rfl (by kernel_rfl) (by kernel_rfl) (by kernel_rfl) (by kernel_rfl) (fun _ _ _ h => h) (Or.inl ⟨by rfl, fun W hW => by go_simp⟩) trivial ?_
  try simp only [Act.put, List.setIfInBounds_toArray, List.set_cons_zero, List.set_cons_succ]
  refine takeG (i := 4) (v := .int .i64 ((i : Int) + 1)) rfl (by kernel_rfl) (by kernel_rfl) (by kernel_rfl) (by kernel_rfl) (fun _ _ _ h => h) (Or.inl ⟨by rfl, fun W hW => by go_simp⟩) trivial ?_
  try simp only [Act.put, List.setIfInBounds_toArray, List.set_cons_zero, List.set_cons_succ]
  refine takeG (i := 5) (v := .slice (some A) (len - (i + 1)) (cap - (i + 1))) rfl (by kernel_rfl) (by kernel_rfl) (by kernel_rfl) (by kernel_rfl) (fun _ _ _ h => h) (Or.inl ⟨by rfl, fun W hW => by go_simp⟩) trivial ?_
  try simp only [Act.put, List.setIfInBounds_toArray, List.set_cons_zero, List.set_cons_succ]
  refine onlyG (i := 6) (by kernel_rfl) rfl (fun K hK => ?_)
  refine step_append_room rfl (.tmp 22) (.tmp 25) 56 rfl 66 i0 2 Try.underlying56 hi0 hy1 g 0 i cap (by simp [Act.eval, Act.put]) A (len - (i + 1)) (cap - (i + 1)) ((l.drop (i + 1)).flatMap slp) (by simp [Act.eval, Act.put]) s1.out hnews.out s2.out (by omega) s3.out ?_
  rw [hmn, Nat.zero_add]
  refine hK.out _ _ trivial (fun _ => ?_)
  clear hK K
  try simp only [Act.put, List.setIfInBounds_toArray, List.set_cons_zero, List.set_cons_succ]
  refine lastG (by kernel_rfl) rfl (by kernel_rfl) (fun K hK => ?_)
  go_simp
  refine hK.out _ _ ?_
  clear hK K
  try simp only [Act.put, List.setIfInBounds_toArray, List.set_cons_zero, List.set_cons_succ]
  have hm1 : ((len - 1 : Nat) : Int) ≤ (len : Int) := by omega
  have hm2 : ((len - 1 : Nat) : Int) < (cap : Int) := by omega
  have hm3 : (len : Int) ≤ (cap : Int) := by omega
  go_wp2_with fail
  go_ret
  exact ⟨_, rfl, by rw [HE.out]; exact HF.out.1, rfl, ⟨HF.out.2.os, HF.out.2.tape, HF.out.2.output, HF.out.2.size, HF.out.2.block⟩⟩

theorem rouse_no (kb base : Nat) (v : Value) (l : List Slp) (hm : l.length ≤ 10000) (who : Int) (hf : ¬ fnd l who < l.length) (w : World) (h : K w kb base v l) :
    Calls Try.prog 30 #[.pointer (some ⟨kb, 0, none⟩), .int .i64 who] w fun e w' => e = .returned (.bool false) ∧ Below w.heap.size w w' := by
  have cF := find_any kb base v l (by omega) who w h
  rw [show fndI l who = -1 by unfold fndI; rw [if_neg hf]] at cF
  clear h hf
  go_enter Try.func30, Try.ntmps30
  go_wp2_with fail
  refine cF.mono ?_
  rintro e w1 ⟨rfl, hb1⟩
  go_wp2
  go_ret
  exact ⟨rfl, hb1⟩

def Roused (l : List Slp) (who : Int) (kb base : Nat) (v : Value) (w w' : World) : Prop := ∃ v', K w' kb base v' (l.eraseIdx (fnd l who)) ∧ v'.ownBlock = v.ownBlock ∧ KStep w w' kb v
set_option maxHeartbeats 1000000 in
theorem rouse_yes (kb base : Nat) (v : Value) (l : List Slp) (hm : l.length ≤ 10000) (who : Int) (hf : fnd l who < l.length) (w : World) (h : K w kb base v l) :
    Calls Try.prog 30 #[.pointer (some ⟨kb, 0, none⟩), .int .i64 who] w fun e w' => e = .returned (.bool true) ∧ Roused l who kb base v w w' := by
  have cF := find_any kb base v l (by omega) who w h
  obtain ⟨k, hk⟩ : ∃ k, fnd l who = k := ⟨_, rfl⟩
  rw [show fndI l who = (k : Int) by unfold fndI; rw [if_pos hf, hk]] at cF
  unfold Roused
  rw [hk] at hf ⊢
  clear hk
  have hk0 : ¬ (k : Int) < 0 := by omega
  obtain ⟨A, cap, rfl, _, _⟩ := own_sl h.row
  have HH := Lib.hid h
  have hlt := h.lt
  clear h
  go_enter Try.func30, Try.ntmps30
  go_wp2_with fail
  refine cF.mono ?_
  rintro e w1 ⟨rfl, hb1⟩
  have h1 := HH.out.below hb1
  have c0 : w1.cell? ⟨kb, 0, none⟩ = some (.slice A l.length cap) := (h1.blk.cell 0).trans rfl
  have cD := delete_one l hm k base hf _ w1 h1.row
  have H1 := Lib.hid (And.intro h1 hb1)
  clear h1 hb1 cF
  go_wp2_with fail
  refine cD.mono ?_
  rintro e w2 ⟨v', rfl, hrow, hvb, hg⟩
  obtain ⟨h1, hb1⟩ := H1.out
  have hblk2 := h1.blk.grow_own h1.row hg hlt
  have f0 := hblk2.frozen 0
  have q0 : w2.cell? ⟨kb, 0, none⟩ = some (.slice A l.length cap) := (hblk2.cell 0).trans rfl
  have hK : K (w2.setCell ⟨kb, 0, none⟩ v') kb base v' (l.eraseIdx k) := ⟨hblk2.set_ 0 v', own_grown hrow (set_only _) hlt, hlt⟩
  have hS : KStep w (w2.setCell ⟨kb, 0, none⟩ v') kb (.slice A l.length cap) :=
    ⟨hg.os.trans hb1.os, hg.tape.trans hb1.tape, hg.output.trans hb1.output, Nat.le_trans hb1.size (Nat.le_trans hg.size (set_only (w := w2) (g := kb) (j := 0) v').size), fun i hi h2 h3 =>
      (Below.heap_setCell w2 ⟨kb, 0, none⟩ v' i h2).trans ((hg.block i (Nat.lt_of_lt_of_le hi hb1.size) h3).trans (hb1.block i hi))⟩
  obtain ⟨nA, nc, rfl, _, _⟩ := own_sl hrow
  have HF := Lib.hid (And.intro hK (And.intro hvb hS))
  clear h1 hb1 hblk2 hK hS hrow hg hvb cD c0 H1
  go_wp2
  go_ret
  exact ⟨rfl, _, HF.out.1, HF.out.2.1, HF.out.2.2⟩
end Go.Proofs.Ytaanmamgmjhegaa
