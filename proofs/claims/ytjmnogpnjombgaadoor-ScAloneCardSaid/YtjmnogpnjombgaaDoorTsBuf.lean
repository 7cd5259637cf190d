/- tso.Machine.Buffer. -/
import Derived.Test.YtjmnogpnjombgaaDoorTsA4
namespace Go.Proofs.YtjmnogpnjombgaaDoor
open Go.ChangeShapes Go.WideShapes Go.ChangeAt Go.RowKit Go.Deep
set_option linter.unusedVariables false
set_option maxRecDepth 100000
set_option linter.unusedSimpArgs false

theorem tbuf_le {B : MB} {s : Mst} {own : Nat → Prop} {W : World} (hI : MInv tsoL B s own W) {t : Nat} (ht : t < s.bufs.length) : (s.bufs.getD t []).length ≤ 16 := by
  obtain ⟨V, bcs, h⟩ := hI
  obtain ⟨g, cap, cs, e2, hgc, hgm, hbuf, hra, hth, hgn, hog, hput⟩ := h.bufAt ht
  exact hbuf.le
set_option maxHeartbeats 2000000 in
theorem tbuffer_any (B : MB) (s : Mst) (own : Nat → Prop) (W : World) (hI : MInv tsoL B s own W) (t : Nat) (ht : t < s.bufs.length) (n : Nat) (hn : (s.bufs.getD t []).length = n) :
    Calls Tryd.prog 39 #[.pointer (some ⟨B.mb, 0, none⟩), .int .i64 (t : Int)] W fun e W' => ∃ A cap, e = .returned (.slice A n cap) ∧ Below W.heap.size W W' := by
  obtain ⟨V, bcs, h⟩ := hI
  obtain ⟨g, cap, cs, e2, hgc, hgm, hbuf, hra, hth, hgn, hog, hput⟩ := h.bufAt ht
  have c2 : W.cell? ⟨B.mb, 2, none⟩ = some (.slice (some ⟨g, 0, none⟩) s.bufs.length cap) := by rw [← e2]; exact h.cell (j := 2) (by decide) rfl
  have hC : Calls Tryd.prog 94 #[.agg cs.toList.toArray] W _ := entries_any cs (s.bufs.getD t []) B.room hbuf W
  rw [hn] at hC
  have ht0 : ¬ (t : Int) < 0 := by omega
  have ht1 : (0 : Int) ≤ (t : Int) := by omega
  have ht2 : ¬ (s.bufs.length : Int) ≤ (t : Int) := by omega
  have ht3 : (t : Int) < (s.bufs.length : Int) := by omega
  clear h e2 hgc hgm hth hgn hog hput hn
  go_enter Tryd.func39, Tryd.ntmps39
  go_wp2_with (refine wpList_load_mid rfl 128 (.tmp 21) rfl g (t * 35) rfl cs.toList _ hra Tryd.underlying128 rfl (buf_infoL hbuf) ?_)
  with_reducible refine hC.mono ?_
  rintro e W2 ⟨v, rfl, hv, hb⟩
  obtain ⟨A, c, rfl, _, _⟩ := own_cap hv
  have HF := Lib.hid hb
  clear hC hb hv
  go_wp2
  go_ret
  exact ⟨_, _, rfl, HF.out⟩
theorem tbuffer_out (B : MB) (s : Mst) (own : Nat → Prop) (W : World) (hI : MInv tsoL B s own W) (t : Int) (ht : t < 0 ∨ (s.bufs.length : Int) ≤ t) :
    Calls Tryd.prog 39 #[.pointer (some ⟨B.mb, 0, none⟩), .int .i64 t] W fun e W' => e = .returned (.slice none 0 0) ∧ Below W.heap.size W W' := by
  obtain ⟨V, bcs, h⟩ := hI
  have hr : W.ownsRow 0 128 35 (V 2) s.bufs.length (bcs.flatMap Array.toList) := h.rows 2 (by decide)
  obtain ⟨A, cap, e5, _, _⟩ := own_cap hr
  have c2 : W.cell? ⟨B.mb, 2, none⟩ = some (V 2) := h.cell (j := 2) (by decide) rfl
  rw [e5] at c2
  have hb := Below.refl W.heap.size W
  clear h hr e5
  by_cases h0 : t < 0
  · clear ht
    go_enter Tryd.func39, Tryd.ntmps39
    go_wp2
    go_ret
    exact ⟨rfl, hb⟩
  · have h1 : (s.bufs.length : Int) ≤ t := ht.resolve_left h0
    clear ht
    go_enter Tryd.func39, Tryd.ntmps39
    go_wp2
    go_ret
    exact ⟨rfl, hb⟩
end Go.Proofs.YtjmnogpnjombgaaDoor
