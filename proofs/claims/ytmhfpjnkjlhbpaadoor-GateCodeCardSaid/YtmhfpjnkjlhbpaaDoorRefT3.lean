/- The document's reader of code as text: place; numbers' digits. -/
import Derived.Test.YtmhfpjnkjlhbpaaDoorRefT2
namespace Go.Proofs.YtmhfpjnkjlhbpaaDoor
open Go.ChangeShapes Go.WideShapes Go.ChangeAt Go.RowKit Go.Deep
set_option linter.unusedVariables false
set_option maxRecDepth 100000
set_option linter.unusedSimpArgs false

/-- The place of a name among lines. -/
def placeL (name : List UInt8) : List (List UInt8) → Nat → Int
  | [], _ => -1
  | x :: l, n => if x = [] then placeL name l n else if x = name ++ [58] then (n : Int) else if x.getLastD 0 = 58 then placeL name l n else placeL name l (n + 1)
theorem beq_listB (x y : List UInt8) : (x == y) = decide (x = y) := by
  by_cases h : x = y
  · subst h; simp
  · simp [h]
set_option maxHeartbeats 2000000 in
theorem r4_place (l : List (List UInt8)) (name : List UInt8) (hl : l.length ≤ 1000000) (hx : ∀ x ∈ l, x.length ≤ 1000000) (hnl : name.length ≤ 1000) (A : Option Addr) (cap : Nat) (w : World) (hsl : Sl w A l.length (fun i => str (l.getD i []))) :
    Calls Tryd.prog 73 #[.slice A l.length cap, str name] w fun e w' => e = .returned (.int .i64 (placeL name l 0)) ∧ Below w.heap.size w w' := by
  obtain ⟨m, hm⟩ : ∃ m, l.length = m := ⟨_, rfl⟩
  rw [hm] at hl hsl ⊢
  rw [str_ba]
  obtain ⟨bn, hbn⟩ : ∃ bn, Bs bn name name.length := ⟨_, Bs.of name⟩
  rw [← hbn.eq]
  have hns := hbn.size
  have HS := Lib.hid (And.intro hsl (And.intro hm (And.intro hbn hx)))
  have hml : (m : Int) ≤ 1000000 := by omega
  clear hsl hm hbn hx
  go_enter Tryd.func73, Tryd.ntmps73
  go_wp2_with fail
  go_loopw [5, 6] (fun v5 v6 wr => ∃ (k c : Nat), k ≤ m ∧ c ≤ k ∧ v6 = .int .i64 k ∧ v5 = .int .i64 c ∧ placeL name (l.drop k) c = placeL name l 0 ∧ Below w.heap.size w wr) (fun _ v6 _ => m - (intOf v6).toNat)
  case atStart => exact ⟨0, 0, Nat.zero_le _, Nat.zero_le _, rfl, rfl, rfl, Below.refl _ _⟩
  case round =>
    obtain ⟨k, c, hk, hc, rfl, rfl, hp, hB⟩ := hrel
    have hk0 : (0 : Int) ≤ (k : Int) := by omega
    have hc0 : (0 : Int) ≤ (c : Int) := by omega
    have hcm : (c : Int) ≤ 1000000 := by omega
    by_cases hkm : k < m
    · have hki : (k : Int) < (m : Int) := by omega
      obtain ⟨g, o, rfl, hg, hcell⟩ := HS.out.1 (by omega)
      have hkl : k < l.length := by rw [HS.out.2.1]; exact hkm
      obtain ⟨x, hxe⟩ : ∃ x, l.getD k [] = x := ⟨_, rfl⟩
      have hdrop : l.drop k = x :: l.drop (k + 1) := by
        rw [List.drop_eq_getElem_cons hkl, ← hxe]
        simp [List.getD_eq_getElem?_getD, List.getElem?_eq_getElem hkl]
      have hxm : x ∈ l := by rw [← hxe, List.getD_eq_getElem?_getD, List.getElem?_eq_getElem hkl]; exact List.getElem_mem hkl
      have hx := HS.out.2.2.2 x hxm
      rw [hdrop] at hp
      have c5 : wr.cell? ⟨g, o + k, none⟩ = some (str x) := by
        have := keepAt hB hg (hcell k hkm)
        rw [this]
        show some (str (l.getD k [])) = _
        rw [hxe]
      rw [str_ba] at c5
      obtain ⟨bx, hbx⟩ : ∃ bx, Bs bx x x.length := ⟨_, Bs.of x⟩
      rw [← hbx.eq] at c5
      obtain ⟨q, hq⟩ : ∃ q, x.length = q := ⟨_, rfl⟩
      rw [hq] at hbx hx
      have hxs := hbx.size
      have hq63 : (q : Int) ≤ 1000000 := by omega
      have t1 : bx.toList = x := by rw [hbx.eq, ba_toList]
      have t2 : (bn ++ (⟨#[58]⟩ : ByteArray)).toList = name ++ [58] := by
        rw [HS.out.2.2.1.eq, show (⟨#[58]⟩ : ByteArray) = ba [58] from rfl, ba_app, ba_toList]
      by_cases h1 : x = []
      · have f1 : bx.toList.isEmpty = true := by rw [t1, h1]; rfl
        have hp' : placeL name (l.drop (k + 1)) c = placeL name l 0 := by rw [← hp]; show _ = if x = [] then _ else _; rw [if_pos h1]
        have HP := Lib.hid (And.intro hp' hB)
        clear hp hB hbx hdrop hxe hcell hxm hg t1 t2 hp'
        go_wp2
        go_roundw
        case rel => exact ⟨k + 1, c, by omega, by omega, by go_num, rfl, HP.out.1, HP.out.2⟩
        case measure => simp [intOf]; omega
      · have f1 : bx.toList.isEmpty = false := by rw [t1]; cases x with
          | nil => exact absurd rfl h1
          | cons a t => rfl
        by_cases h2 : x = name ++ [58]
        · have f2 : (bx.toList == (bn ++ (⟨#[58]⟩ : ByteArray)).toList) = true := by rw [t1, t2, beq_listB]; exact decide_eq_true h2
          have hp' : placeL name l 0 = c := by rw [← hp]; show (if x = [] then _ else if x = name ++ [58] then (c : Int) else _) = _; rw [if_neg h1, if_pos h2]
          have HP := Lib.hid (And.intro hp' hB)
          clear hp hB hbx hdrop hxe hcell hxm hg t1 t2 hp'
          go_wp2
          go_ret
          exact ⟨by rw [HP.out.1]; rfl, HP.out.2⟩
        · have f2 : (bx.toList == (bn ++ (⟨#[58]⟩ : ByteArray)).toList) = false := by rw [t1, t2, beq_listB]; exact decide_eq_false h2
          have hq1 : 1 ≤ q := by
            rcases Nat.eq_zero_or_pos q with h | h
            · exact absurd (List.length_eq_zero_iff.1 (hq.trans h)) h1
            · exact h
          obtain ⟨q', hq'⟩ : ∃ q', q = q' + 1 := ⟨q - 1, by omega⟩
          subst hq'
          clear hq1
          have hx2 : q' ≤ 1000000 := by omega
          have hq62 : (q' : Int) ≤ 1000000 := by omega
          clear hx hq63
          have hqb : q' < bx.size := by omega
          have hxq := hbx.at q' hqb
          have hlast : x.getLastD 0 = x.getD q' 0 := by
            rw [List.getLastD_eq_getLast?, List.getLast?_eq_getElem?, hq, List.getD_eq_getElem?_getD]; rfl
          obtain ⟨ch, hch⟩ : ∃ ch, x.getD q' 0 = ch := ⟨_, rfl⟩
          rw [hch] at hxq hlast
          obtain ⟨d, hd⟩ : ∃ d : Nat, ch.toNat = d := ⟨_, rfl⟩
          rw [hd] at hxq
          have hq0 : (0 : Int) ≤ (q' : Int) := by omega
          by_cases h3 : d = 58
          · subst h3
            have e58 : ch = 58 := UInt8.toNat_inj.1 hd
            have hp' : placeL name (l.drop (k + 1)) c = placeL name l 0 := by
              rw [← hp]
              show _ = (if x = [] then _ else if x = name ++ [58] then (c : Int) else if x.getLastD 0 = 58 then _ else _)
              rw [if_neg h1, if_neg h2, if_pos (hlast.trans e58)]
            have HP := Lib.hid (And.intro hp' hB)
            clear hp hB hbx hdrop hxe hcell hxm hg t1 t2 hp' hlast hch hd e58 hq h1 h2
            go_wp2_with fail
            go_quiet (fail)
            go_wp2
            go_roundw
            case rel => exact ⟨k + 1, c, by omega, by omega, by go_num, rfl, HP.out.1, HP.out.2.trans ⟨rfl, rfl, rfl, Nat.le_refl _, fun _ _ => rfl⟩⟩
            case measure => simp [intOf]; omega
          · have hdi : ¬ (d : Int) = 58 := by omega
            have hp' : placeL name (l.drop (k + 1)) (c + 1) = placeL name l 0 := by
              rw [← hp]
              show _ = (if x = [] then _ else if x = name ++ [58] then (c : Int) else if x.getLastD 0 = 58 then _ else _)
              rw [if_neg h1, if_neg h2, if_neg (fun e => h3 (by rw [← hd, ← hlast, e]; rfl))]
            have HP := Lib.hid (And.intro hp' hB)
            clear hp hB hbx hdrop hxe hcell hxm hg t1 t2 hp' hlast hch hd hq h1 h2
            go_wp2_with fail
            go_quiet (fail)
            go_wp2
            go_roundw
            case rel => exact ⟨k + 1, c + 1, by omega, by omega, by go_num, by go_num, HP.out.1, HP.out.2.trans ⟨rfl, rfl, rfl, Nat.le_refl _, fun _ _ => rfl⟩⟩
            case measure => simp [intOf]; omega
    · obtain rfl : k = m := by omega
      have hki : ¬ (k : Int) < (k : Int) := by omega
      rw [← HS.out.2.1, List.drop_length] at hp
      have HF := Lib.hid (And.intro hp hB)
      clear hp hB
      go_wp2
      go_ret
      exact ⟨by rw [← HF.out.1]; rfl, HF.out.2⟩
end Go.Proofs.YtmhfpjnkjlhbpaaDoor
