/- The document's Drain. -/
import Derived.Test.YtaanmamgmjhegaaBufDrain
import Derived.Test.YtaanmamgmjhegaaBufPlay
namespace Go.Proofs.Ytaanmamgmjhegaa
open Go.ChangeShapes Go.WideShapes Go.ChangeAt Go.RowKit Go.Deep
set_option linter.unusedVariables false
set_option linter.unusedSimpArgs false

/-- The slice address A leads to m words f, in a block from base on that may be written. -/
def WordsS (W : World) (base : Nat) (A : Option Addr) (m : Nat) (f : Nat → Int) : Prop :=
  0 < m → ∃ (g : Nat) (cur : Array Value), A = some ⟨g, 0, none⟩ ∧ base ≤ g ∧ Blk W g 24 cur ∧ m ≤ cur.size ∧ ∀ i, i < m → cur[i]? = some (.int .u32 (f i))
theorem WordsS.below {W W1 : World} {base : Nat} {A : Option Addr} {m : Nat} {f : Nat → Int} (h : WordsS W base A m f) (hb : Below W.heap.size W W1) : WordsS W1 base A m f := fun hp => by
  obtain ⟨g, cur, rfl, h1, h2, h3, h4⟩ := h hp
  exact ⟨g, cur, rfl, h1, h2.below hb h2.lt, h3, h4⟩
theorem WordsS.row {W W1 : World} {base r : Nat} {A : Option Addr} {m : Nat} {f : Nat → Int} (h : WordsS W base A m f) (hg : W.grownBy W1 (some r)) (hr : r < base) : WordsS W1 base A m f := fun hp => by
  obtain ⟨g, cur, rfl, h1, h2, h3, h4⟩ := h hp
  exact ⟨g, cur, rfl, h1, h2.grown hg (fun e => by injection e with e; omega), h3, h4⟩
theorem WordsS.congr {W : World} {base : Nat} {A : Option Addr} {m : Nat} {f g : Nat → Int} (h : WordsS W base A m f) (e : ∀ i, i < m → f i = g i) : WordsS W base A m g := fun hp => by
  obtain ⟨r, cur, rfl, h1, h2, h3, h4⟩ := h hp
  exact ⟨r, cur, rfl, h1, h2, h3, fun i hi => by rw [h4 i hi, e i hi]⟩
theorem WordsS.sl {W : World} {base : Nat} {A : Option Addr} {m : Nat} {f : Nat → Int} (h : WordsS W base A m f) : Sl W A m (fun i => .int .u32 (f i)) := fun hp => by
  obtain ⟨g, cur, rfl, h1, h2, h3, h4⟩ := h hp
  exact ⟨g, 0, rfl, h2.lt, fun i hi => by rw [Nat.zero_add, h2.cell]; exact h4 i hi⟩
theorem words_own {W : World} {base m : Nat} {v : Value} {f : Nat → Int} (h : W.ownsRow base 24 1 v m ((List.range m).map (fun i => Value.int .u32 (f i)))) : ∃ A cap, v = .slice A m cap ∧ m ≤ cap ∧ WordsS W base A m f := by
  rcases h.2 with ⟨rfl, hx⟩ | ⟨g, cap, cur, rfl, hg, hh, hn, hc, hs, ht⟩
  · have : m = 0 := by simpa using hx
    subst this
    exact ⟨none, 0, rfl, Nat.le_refl _, fun hp => absurd hp (by omega)⟩
  · refine ⟨some ⟨g, 0, none⟩, cap, rfl, hn, fun hp => ⟨g, cur, rfl, hg, hh, by omega, fun i hi => ?_⟩⟩
    have h2 : (cur.toList.take (m * 1))[i]? = some (.int .u32 (f i)) := by rw [ht]; simp [hi]
    rw [Nat.mul_one, List.getElem?_take_of_lt hi] at h2
    simpa using h2
theorem words_blk {W : World} {base g : Nat} {m : Nat} {D : Array Value} {f : Nat → Int} (h : Blk W g 24 D) (hs : D.size = m) (hd : ∀ i, i < m → D[i]? = some (.int .u32 (f i))) (hg : base ≤ g) : WordsS W base (some ⟨g, 0, none⟩) m f :=
  fun _ => ⟨g, D, rfl, hg, h, by omega, hd⟩

set_option maxHeartbeats 2000000 in
theorem refDrain_any (A : Option Addr) (n cap : Nat) (E : Nat → Ent) (hn : n ≤ 100000) (A' : Option Addr) (m cap' : Nat) (Z : Nat → Int) (hm : m ≤ 100000) (w : World) (hs : SlE w A n 2 (fun i => entV (E i))) (hz : Sl w A' m (fun i => .int .u32 (Z i))) :
    Calls Try.prog 22 #[.slice A n cap, .slice A' m cap'] w fun e w' => ∃ (B : Option Addr) (c : Nat), e = .returned (.slice B m c) ∧ m ≤ c ∧ WordsS w' w.heap.size B m (drained (entL E n) Z) ∧ Below w.heap.size w w' := by
  obtain ⟨i0, hi, hz0, hz1, hz2⟩ := info_parts word_info
  have HS := Lib.hid hs
  have HZ := Lib.hid hz
  clear hs hz
  have hown0 := own_empty w 24 1
  have hB0 := (Below.refl w.heap.size w).alloc (Nat.le_refl _) (Obj.cells #[] 24)
  have hsl := HZ.out.step hB0
  go_enter Try.func22, Try.ntmps22
  go_wp2_with (at_builtin; refine wpList_append_sl _ rfl (.tmp 8) (.tmp 9) 49 rfl w.heap.size 24 i0 _ 1 4 Try.underlying49 hi hz0 hz1 hz2 rfl (by omega) _ 0 _ rfl hown0 A' m cap' (fun i => .int .u32 (Z i)) rfl (by rw [Nat.mul_one]; exact hsl) (fun _ _ => rfl) (by unfold maxLen; omega) (by omega) hB0.size ?_; intro v1 w1 hown1 hg1 _; have hB1 := below_own hB0 hown0 hg1 (Nat.le_refl _) (Nat.le_refl _); clear hown0 hsl hB0 hg1)
  rw [Nat.zero_add, List.nil_append, Nat.mul_one] at hown1
  obtain ⟨B, c, rfl, hc, hw⟩ := words_own hown1
  clear hown1
  go_wp2_with fail
  go_loopw [6] (fun v wr => ∃ i : Nat, i ≤ n ∧ v = .int .i64 i ∧ WordsS wr w.heap.size B m (drained (entL E i) Z) ∧ Below w.heap.size w wr) (fun v _ => n - (intOf v).toNat)
  case atStart => exact ⟨0, Nat.zero_le _, rfl, hw, hB1⟩
  case round =>
    clear hw hB1
    obtain ⟨i, hin, rfl, hw, hBr⟩ := hrel
    by_cases hlt : i < n
    · obtain ⟨b, off, rfl, hbB, hcc⟩ := HS.out (by omega)
      have c0 : w.cell? ⟨b, off + i * 2, none⟩ = some (.int .i64 (E i).1) := hcc i hlt 0 _ rfl
      have c1 : w.cell? ⟨b, off + i * 2 + 1, none⟩ = some (.int .u32 (E i).2) := hcc i hlt 1 _ rfl
      have HC := Lib.hid (And.intro c0 c1)
      have HE := Lib.hid (drained_snoc (entL E i) (E i) Z)
      have hi0 : (0 : Int) ≤ (i : Int) := by omega
      have hi1 : (i : Int) < (n : Int) := by omega
      clear hcc c0 c1
      generalize drained (entL E i) Z = f at hw HE
      obtain ⟨f', hf'⟩ : ∃ f', f' = drained (entL E i ++ [E i]) Z := ⟨_, rfl⟩
      rw [← hf'] at HE
      have HF := Lib.hid hf'
      clear hf'
      generalize E i = z at HC HE
      go_wp2_with fail
      obtain ⟨wo, rfl⟩ : ∃ wo : World, wo = wr := ⟨_, rfl⟩
      go_loopw [7] (fun v wr => ∃ k : Nat, k ≤ m ∧ v = .int .i64 k ∧ WordsS wr w.heap.size B m (fun j => if j < k then putM f z j else f j) ∧ Below w.heap.size w wr) (fun v _ => m - (intOf v).toNat)
      case atStart => exact ⟨0, Nat.zero_le _, rfl, hw.congr (fun j _ => by simp), hBr⟩
      case round =>
        clear hw hBr
        obtain ⟨k, hkm, rfl, hw, hBr⟩ := hrel
        by_cases hkl : k < m
        · have c0 := keepAt hBr hbB HC.out.1
          have c1 := keepAt hBr hbB HC.out.2
          have hk0 : (0 : Int) ≤ (k : Int) := by omega
          have hk1 : (k : Int) < (m : Int) := by omega
          by_cases hka : (k : Int) = z.1
          · have hkb : ((k : Int) == z.1) = true := by rw [beq_iff_eq]; exact hka
            have HK := Lib.hid hka
            obtain ⟨g, cur, rfl, hgb, hblk, hcs, hcc⟩ := hw (by omega)
            have oc := (hblk.cell k).trans (hcc k hkl)
            have fc := hblk.frozen k
            have HCC := Lib.hid hcc
            have HW := Lib.hid hw
            clear hka hcc hw
            go_wp2_with fail
            go_roundw
            case rel =>
              refine ⟨k + 1, by omega, by go_num, fun _ => ⟨g, _, rfl, hgb, hblk.set_ k (.int .u32 z.2), by simpa using hcs, fun j hj => ?_⟩, hBr.setCell hgb _⟩
              by_cases hjk : j = k
              · subst hjk
                rw [Array.getElem?_setIfInBounds_self_of_lt (by omega)]
                dsimp only
                rw [if_pos (by omega)]
                unfold putM
                rw [if_pos HK.out]
              · rw [Array.getElem?_setIfInBounds_ne (by omega), HCC.out j hj]
                dsimp only
                by_cases hjl : j < k
                · rw [if_pos hjl, if_pos (by omega)]
                · rw [if_neg hjl, if_neg (by omega)]
            case measure => simp [intOf]; omega
          · have hkb : ((k : Int) == z.1) = false := by rw [beq_eq_false_iff_ne]; exact hka
            have HK := Lib.hid hka
            have HW := Lib.hid hw
            clear hka hw
            go_wp2_with fail
            go_roundw
            case rel =>
              refine ⟨k + 1, by omega, by go_num, HW.out.congr (fun j hj => ?_), hBr⟩
              try dsimp only
              by_cases hjl : j < k
              · rw [if_pos hjl, if_pos (by omega)]
              · by_cases hjk : j = k
                · subst hjk
                  rw [if_neg hjl, if_pos (by omega)]
                  unfold putM
                  rw [if_neg HK.out]
                · rw [if_neg hjl, if_neg (by omega)]
            case measure => simp [intOf]; omega
        · obtain rfl : m = k := by omega
          have hk1 : ¬ (m : Int) < (m : Int) := by omega
          have HW := Lib.hid hw
          clear hw
          go_wp2_with fail
          go_roundw
          case rel =>
            refine ⟨i + 1, by omega, by go_num, HW.out.congr (fun j hj => ?_), hBr⟩
            try dsimp only
            rw [if_pos hj, entL_succ, ← HF.out, HE.out]
          case measure => simp [intOf]; omega
    · obtain rfl : n = i := by omega
      have hi1 : ¬ (n : Int) < (n : Int) := by omega
      go_wp2_with fail
      go_ret
      exact ⟨B, c, rfl, hc, hw, hBr⟩
end Go.Proofs.Ytaanmamgmjhegaa
