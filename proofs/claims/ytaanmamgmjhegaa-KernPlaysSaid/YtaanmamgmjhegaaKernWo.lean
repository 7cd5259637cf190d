/- The document's Without. -/
import Derived.Test.YtaanmamgmjhegaaKernRef
namespace Go.Proofs.Ytaanmamgmjhegaa
open Go.ChangeShapes Go.WideShapes Go.ChangeAt Go.RowKit Go.Deep
set_option linter.unusedVariables false
set_option linter.unusedSimpArgs false

theorem slE_flat {W : World} {b off : Nat} {l : List Slp} {i : Nat} (hb : b < W.heap.size) (h : ∀ i, i < l.length → ∀ j u, (slp (l.getD i (0, 0)))[j]? = some u → W.cell? ⟨b, off + i * 2 + j, none⟩ = some u) (hi : i ≤ l.length) :
    Sl W (some ⟨b, off + i * 2, none⟩) ((l.drop i).length * 2) (fun k => ((l.drop i).flatMap slp).getD k undef) := fun h0 => by
  refine ⟨b, off + i * 2, rfl, hb, fun k hk => ?_⟩
  have hg := flat_get slp 2 (fun _ => rfl) (0, 0) (l.drop i) (k / 2) (by omega) (k % 2) (by omega)
  rw [show k / 2 * 2 + k % 2 = k from by omega] at hg
  have e : (l.drop i).getD (k / 2) (0, 0) = l.getD (i + k / 2) (0, 0) := by
    rw [List.getD_eq_getElem?_getD, List.getD_eq_getElem?_getD, List.getElem?_drop]
  rw [e] at hg
  obtain ⟨u, hu⟩ : ∃ u, (slp (l.getD (i + k / 2) (0, 0)))[k % 2]? = some u := ⟨_, List.getElem?_eq_getElem (by show k % 2 < 2; omega)⟩
  have hc := h (i + k / 2) (by rw [List.length_drop] at hk; omega) (k % 2) u hu
  rw [show off + (i + k / 2) * 2 + k % 2 = off + i * 2 + k from by omega] at hc
  rw [hc]
  show some u = some (((l.drop i).flatMap slp).getD k undef)
  rw [List.getD_eq_getElem?_getD, hg, hu]
  rfl
theorem slE_front {W : World} {b off : Nat} {l : List Slp} {i : Nat} (hb : b < W.heap.size) (h : ∀ i, i < l.length → ∀ j u, (slp (l.getD i (0, 0)))[j]? = some u → W.cell? ⟨b, off + i * 2 + j, none⟩ = some u) (hi : i ≤ l.length) :
    Sl W (some ⟨b, off, none⟩) (i * 2) (fun k => ((l.take i).flatMap slp).getD k undef) := fun h0 => by
  refine ⟨b, off, rfl, hb, fun k hk => ?_⟩
  have hl : (l.take i).length = i := by rw [List.length_take, Nat.min_eq_left hi]
  have hg := flat_get slp 2 (fun _ => rfl) (0, 0) (l.take i) (k / 2) (by rw [hl]; omega) (k % 2) (by omega)
  rw [show k / 2 * 2 + k % 2 = k from by omega] at hg
  have e : (l.take i).getD (k / 2) (0, 0) = l.getD (k / 2) (0, 0) := by
    rw [List.getD_eq_getElem?_getD, List.getD_eq_getElem?_getD, List.getElem?_take_of_lt (by omega)]
  rw [e] at hg
  obtain ⟨u, hu⟩ : ∃ u, (slp (l.getD (k / 2) (0, 0)))[k % 2]? = some u := ⟨_, List.getElem?_eq_getElem (by show k % 2 < 2; omega)⟩
  have hc := h (k / 2) (by omega) (k % 2) u hu
  rw [show off + k / 2 * 2 + k % 2 = off + k from by omega] at hc
  rw [hc]
  show some u = some (((l.take i).flatMap slp).getD k undef)
  rw [List.getD_eq_getElem?_getD, hg, hu]
  rfl

def RefWo (l : List Slp) (i : Nat) (w : World) (e : Ending) (w' : World) : Prop :=
  ∃ v, e = .returned v ∧ w'.ownsRow w.heap.size 73 2 v (l.eraseIdx i).length ((l.eraseIdx i).flatMap slp) ∧ Below w.heap.size w w'
set_option maxHeartbeats 2000000 in
theorem refWithout_any (A : Option Addr) (cap : Nat) (l : List Slp) (hm : l.length ≤ 10000) (i : Nat) (hi : i < l.length) (hlc : l.length ≤ cap) (hcm : cap ≤ 9223372036854775807) (w : World) (hs : SlE w A l.length 2 (fun i => slp (l.getD i (0, 0)))) :
    Calls Try.prog 31 #[.slice A l.length cap, .int .i64 (i : Int)] w (RefWo l i w) := by
  obtain ⟨b, off, rfl, hb, hcc⟩ := hs (by omega)
  obtain ⟨r0, ri, rz0, rz1, rz2⟩ := info_parts rslp_info
  have hal := (Below.refl w.heap.size w).alloc (Nat.le_refl _) (.cells #[] 73)
  have hf1 := (slE_front hb hcc (Nat.le_of_lt hi)).step hal
  have ht1 := slE_flat (i := i + 1) hb hcc hi
  have hown := own_none w 73 2
  obtain ⟨len, hlen⟩ : ∃ len, l.length = len := ⟨_, rfl⟩
  have hl1 : (l.take i).length = i := by rw [List.length_take, Nat.min_eq_left (Nat.le_of_lt hi)]
  have hl2 : (l.drop (i + 1)).length = len - (i + 1) := by rw [List.length_drop, hlen]
  have ho1 : ∀ k, k < i * 2 → (((l.take i).flatMap slp).getD k undef).oneCell' = true := by
    have := flat_one (l.take i)
    rw [hl1] at this
    exact this
  have ho2 : ∀ k, k < (len - (i + 1)) * 2 → (((l.drop (i + 1)).flatMap slp).getD k undef).oneCell' = true := by
    have := flat_one (l.drop (i + 1))
    rw [hl2] at this
    exact this
  rw [hl2] at ht1
  obtain ⟨A2, hA, ht2⟩ : ∃ A2 : Option Addr, (if cap = i + 1 then some (⟨b, off, none⟩ : Addr) else some ⟨b, off + (i + 1) * 2, none⟩) = A2 ∧ Hid (Sl w A2 ((len - (i + 1)) * 2) (fun k => ((l.drop (i + 1)).flatMap slp).getD k undef)) := by
    by_cases h : cap = i + 1
    · exact ⟨some ⟨b, off, none⟩, by simp [h], Lib.hid (fun h0 => absurd h0 (by omega))⟩
    · exact ⟨some ⟨b, off + (i + 1) * 2, none⟩, by simp [h], Lib.hid ht1⟩
  rw [hlen] at hm hi hlc ⊢
  have hi1 : (i : Int) + 1 ≤ (len : Int) := by omega
  have hi2 : (i : Int) ≤ (cap : Int) := by omega
  have HL := Lib.hid (And.intro hl1 (And.intro hl2 hlen))
  have HO := Lib.hid (And.intro ho1 ho2)
  have hz := hal.size
  clear hs hcc ht1 hl1 hl2 hlen ho1 ho2
  go_enter Try.func31, Try.ntmps31
  go_wp2_with (first
    | (at_builtin; refine wpList_append_sl _ rfl (.tmp 6) (.tmp 9) 69 rfl w.heap.size 73 r0 _ 2 16 Try.underlying69 ri rz0 rz1 rz2 rfl (by omega) _ 0 _ rfl hown _ i _ (fun k => ((l.take i).flatMap slp).getD k undef) rfl hf1 HO.out.1 (by unfold maxLen; omega) (by omega) hz ?_; intro v' w5 hown5 hg5 _; rw [Nat.zero_add, List.nil_append] at hown5; have hB5 := below_own hal hown hg5 (Nat.le_refl _) (Nat.le_refl _); have hz5 := hB5.size; have ht5 := ht2.out.step hB5)
    | (at_builtin; refine wpList_append_sl _ rfl (.tmp 11) (.tmp 15) 69 rfl w.heap.size 73 r0 _ 2 16 Try.underlying69 ri rz0 rz1 rz2 rfl (by omega) _ i _ rfl hown5 _ (len - (i + 1)) _ (fun k => ((l.drop (i + 1)).flatMap slp).getD k undef) rfl ht5 HO.out.2 (by unfold maxLen; omega) (by omega) hz5 ?_; intro v2 w6 hown6 hg6 _; have hB6 := below_own hB5 hown5 hg6 (Nat.le_refl _) (Nat.le_refl _)))
  go_ret
  refine ⟨_, rfl, ?_, hB6⟩
  have e1 := range_getD ((l.take i).flatMap slp) (i * 2) (by rw [slp_len, HL.out.1])
  have e2 := range_getD ((l.drop (i + 1)).flatMap slp) ((len - (i + 1)) * 2) (by rw [slp_len, HL.out.2.1])
  rw [e1, e2] at hown6
  rw [List.length_eraseIdx, if_pos (by rw [HL.out.2.2]; exact hi), List.eraseIdx_eq_take_drop_succ, List.flatMap_append, HL.out.2.2, show len - 1 = i + (len - (i + 1)) from by omega]
  exact hown6
end Go.Proofs.Ytaanmamgmjhegaa
