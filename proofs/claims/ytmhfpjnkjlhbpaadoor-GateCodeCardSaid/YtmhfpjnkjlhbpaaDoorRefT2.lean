/- The document's reader of code as text: address, split, place. -/
import Derived.Test.YtmhfpjnkjlhbpaaDoorRefT1
import Derived.Maps.AppendAt
namespace Go.Proofs.YtmhfpjnkjlhbpaaDoor
open Go.ChangeShapes Go.WideShapes Go.ChangeAt Go.RowKit Go.Deep
set_option linter.unusedVariables false
set_option maxRecDepth 100000
set_option linter.unusedSimpArgs false

theorem ba_loop (b : ByteArray) : ∀ (n i : Nat) (r : List UInt8), b.size - i = n → ByteArray.toList.loop b i r = r.reverse ++ b.data.toList.drop i := by
  intro n
  induction n with
  | zero =>
    intro i r h
    rw [ByteArray.toList.loop, if_neg (by omega)]
    have h2 : b.data.toList.length = b.size := rfl
    have : b.data.toList.drop i = [] := List.drop_eq_nil_of_le (by omega)
    rw [this, List.append_nil]
  | succ n ih =>
    intro i r h
    rw [ByteArray.toList.loop, if_pos (by omega), ih (i+1) _ (by omega)]
    have h2 : b.data.toList.length = b.size := rfl
    have hi : i < b.data.toList.length := by omega
    have hi2 : i < b.data.size := hi
    rw [List.drop_eq_getElem_cons hi, List.reverse_cons, List.append_assoc]
    have e : b.get! i = b.data.toList[i] := by
      show b.data[i]! = _
      rw [getElem!_pos b.data i hi2]
      rfl
    rw [e]
    rfl
theorem ba_toList (s : List UInt8) : (ba s).toList = s := by
  unfold ByteArray.toList
  rw [ba_loop _ _ 0 [] rfl]; rfl

set_option maxHeartbeats 1000000 in
theorem r4_address (m : Nat) (hm : m ≤ 4294967295) (w : World) :
    Calls Tryd.prog 110 #[str (91 :: (numL m ++ [93]))] w fun e w' => e = .returned (.tuple #[.int .i64 8, .int .i64 (m : Int)]) ∧ Below w.heap.size w w' := by
  have cN : ∀ w, Calls Tryd.prog 111 #[.string (ba (numL m))] w fun e w' => e = .returned (.int .i64 (m : Int)) ∧ Below w.heap.size w w' := fun w => by
    have := r4_number (numL m) (numL_pos m) (numL_ten hm) (numL_dig m) (numL_head m) (by rw [valL_num]; exact hm) w
    rw [valL_num] at this
    exact this
  have hl := numL_ten hm
  have hp := numL_pos m
  have hd := numL_dig m
  rw [str_ba]
  generalize numL m = d at cN hl hp hd ⊢
  obtain ⟨q, hq⟩ : ∃ q, d.length = q := ⟨_, rfl⟩
  obtain ⟨b, hb⟩ : ∃ b, Bs b (91 :: (d ++ [93])) (q + 2) := ⟨_, rfl, by simp; omega⟩
  obtain ⟨bd, hbd⟩ : ∃ bd, Bs bd d q := ⟨_, rfl, hq⟩
  rw [← hb.eq]
  rw [← hbd.eq] at cN
  have hn := hb.size
  have hz0 : 0 < b.size := by omega
  have hz1 : q + 1 < b.size := by omega
  have hx0 := hb.at 0 hz0
  have hx1 := hb.at (q + 1) hz1
  have e1 : (91 :: (d ++ [93])).getD (q + 1) 0 = 93 := by rw [← hq]; simp [List.getD_eq_getElem?_getD]
  rw [e1] at hx1
  have hx : b.extract 1 (q + 1) = bd := by rw [hb.eq, hbd.eq, ba_ext_]; congr 1; rw [← hq]; simp
  have hdb := hbd.size
  rw [hq] at hl hp
  have HD := Lib.hid (And.intro hd (And.intro hq hbd))
  have hn1 : decide ((q : Int) + 2 < 3) = false := decide_eq_false (by omega)
  have hq10 : (q : Int) ≤ 10 := by omega
  have hq1 : (1 : Int) ≤ (q : Int) := by omega
  clear hd hq e1 hbd hb
  go_enter Tryd.func110, Tryd.ntmps110
  go_wp2_with fail
  try rw [hx]
  go_loopw [4] (fun v4 wr => ∃ k : Nat, k ≤ q ∧ v4 = .int .i64 k ∧ Below w.heap.size w wr) (fun v4 _ => q - (intOf v4).toNat)
  case atStart => exact ⟨0, Nat.zero_le _, rfl, Below.refl _ _⟩
  case round =>
    obtain ⟨k, hk, rfl, hB⟩ := hrel
    have hk0 : (0 : Int) ≤ (k : Int) := by omega
    by_cases hkq : k < q
    · have hki : (k : Int) < (q : Int) := by omega
      have hkb : k < bd.size := by omega
      have hxk := HD.out.2.2.at k hkb
      obtain ⟨c, hc⟩ : ∃ c : Nat, (d.getD k 0).toNat = c := ⟨_, rfl⟩
      have hcd := of_decide_eq_true (HD.out.1 _ (getD_memB (by rw [HD.out.2.1]; exact hkq)))
      rw [hc] at hxk hcd
      have hc43 : ¬ (c : Int) = 43 := by omega
      have HBB := Lib.hid hB
      clear hc hcd hB
      go_wp2
      go_roundw
      case rel => exact ⟨k + 1, by omega, by go_num, HBB.out⟩
      case measure => simp [intOf]; omega
    · obtain rfl : k = q := by omega
      have hki : ¬ (k : Int) < (k : Int) := by omega
      have HBB := Lib.hid hB
      clear hB
      go_wp2_with fail
      refine (cN _).mono ?_
      rintro e W2 ⟨rfl, hB2⟩
      have HF := Lib.hid (HBB.out.trans (hB2.mono HBB.out.size))
      clear cN hB2
      go_wp2
      go_ret2
      exact ⟨rfl, HF.out⟩

/-! ### split -/
theorem str_info : (Tryd.prog.info? 9).map (fun i => (i.zero, i.size, i.bytes)) = some (some (.string ⟨#[]⟩), 1, 16) := by kernel_rfl
/-- What is parted off so far: all but L starts at f, k is looked at next. -/
def Sp (by_ : UInt8) (s : List UInt8) (L : List (List UInt8)) (f k : Nat) : Prop := L ++ (splitL by_ (s.drop k)).modifyHead (((s.take k).drop f) ++ ·) = splitL by_ s
theorem Sp.start (by_ : UInt8) (s : List UInt8) : Sp by_ s [] 0 0 := by
  unfold Sp
  cases q : splitL by_ s with
  | nil => exact absurd q (splitL_ne _ _)
  | cons a l => simp [q, List.modifyHead]
theorem Sp.hit {by_ : UInt8} {s : List UInt8} {L : List (List UInt8)} {f k : Nat} (h : Sp by_ s L f k) (hk : k < s.length) (hc : s.getD k 0 = by_) : Sp by_ s (L ++ [(s.take k).drop f]) (k + 1) (k + 1) := by
  unfold Sp at h ⊢
  have e : s.drop k = by_ :: s.drop (k + 1) := by
    rw [List.drop_eq_getElem_cons hk, ← hc]
    simp [List.getD_eq_getElem?_getD, List.getElem?_eq_getElem hk]
  rw [e] at h
  have e2 : splitL by_ (by_ :: s.drop (k + 1)) = [] :: splitL by_ (s.drop (k + 1)) := if_pos rfl
  rw [e2] at h
  have e3 : (s.take (k + 1)).drop (k + 1) = [] := List.drop_eq_nil_of_le (by rw [List.length_take]; omega)
  rw [e3, ← h]
  cases q : splitL by_ (s.drop (k + 1)) with
  | nil => exact absurd q (splitL_ne _ _)
  | cons a l => simp [List.modifyHead]
theorem Sp.miss {by_ : UInt8} {s : List UInt8} {L : List (List UInt8)} {f k : Nat} (h : Sp by_ s L f k) (hf : f ≤ k) (hk : k < s.length) (hc : s.getD k 0 ≠ by_) : Sp by_ s L f (k + 1) := by
  unfold Sp at h ⊢
  have e : s.drop k = s.getD k 0 :: s.drop (k + 1) := by
    rw [List.drop_eq_getElem_cons hk]
    simp [List.getD_eq_getElem?_getD, List.getElem?_eq_getElem hk]
  rw [e] at h
  have e2 : splitL by_ (s.getD k 0 :: s.drop (k + 1)) = (splitL by_ (s.drop (k + 1))).modifyHead (s.getD k 0 :: ·) := if_neg hc
  rw [e2] at h
  have e3 : (s.take (k + 1)).drop f = (s.take k).drop f ++ [s.getD k 0] := by
    rw [takeB_snoc hk, List.drop_append_of_le_length (by rw [List.length_take]; omega)]
  rw [e3, ← h]
  cases q : splitL by_ (s.drop (k + 1)) with
  | nil => exact absurd q (splitL_ne _ _)
  | cons a l => simp [List.modifyHead]
theorem Sp.done {by_ : UInt8} {s : List UInt8} {L : List (List UInt8)} {f : Nat} (h : Sp by_ s L f s.length) : L ++ [s.drop f] = splitL by_ s := by
  unfold Sp at h
  rw [List.drop_length, List.take_length] at h
  rw [← h]
  simp [splitL, List.modifyHead]

set_option maxHeartbeats 2000000 in
theorem r4_split (by_ : UInt8) (s : List UInt8) (hs : s.length ≤ 1000000) (w : World) :
    Calls Tryd.prog 71 #[str s, .int .u8 (by_.toNat : Int)] w fun e w' => (∃ v, e = .returned v ∧ w'.ownsRow w.heap.size 9 1 v (splitL by_ s).length ((splitL by_ s).map str)) ∧ Below w.heap.size w w' := by
  rw [str_ba]
  obtain ⟨b, n, hb⟩ : ∃ b n, Bs b s n := ⟨_, _, Bs.of s⟩
  rw [← hb.eq]
  have hn := hb.size
  have hl := hb.len
  rw [hl] at hs
  obtain ⟨y, hy⟩ : ∃ y : Nat, by_.toNat = y := ⟨_, rfl⟩
  rw [hy]
  have HB := Lib.hid (And.intro hb (And.intro hl hy))
  have hnm : (n : Int) ≤ 1000000 := by omega
  clear hb hl hy
  go_enter Tryd.func71, Tryd.ntmps71
  go_wp2_with fail
  go_loopw [5, 6, 7] (fun v5 v6 v7 wr => ∃ (k f : Nat) (L : List (List UInt8)), k ≤ n ∧ f ≤ k ∧ L.length ≤ k ∧ v7 = .int .i64 k ∧ v6 = .int .i64 f ∧ Sp by_ s L f k ∧ wr.ownsRow w.heap.size 9 1 v5 L.length (L.map str) ∧ Below w.heap.size w wr) (fun _ _ v7 _ => n - (intOf v7).toNat)
  case atStart => exact ⟨0, 0, [], Nat.zero_le _, Nat.zero_le _, Nat.zero_le _, rfl, rfl, Sp.start _ _, ⟨rfl, .inl ⟨rfl, rfl⟩⟩, Below.refl _ _⟩
  case round =>
    obtain ⟨k, f, L, hk, hf, hL, rfl, rfl, hsp, hr, hB⟩ := hrel
    have hk0 : (0 : Int) ≤ (k : Int) := by omega
    have hf0 : (0 : Int) ≤ (f : Int) := by omega
    have hfk : (f : Int) ≤ (k : Int) := by omega
    have hkn2 : (k : Int) ≤ (n : Int) := by omega
    have hfb : f ≤ b.size := by omega
    have hkb2 : k ≤ b.size := by omega
    obtain ⟨i0, hi, hy0, hy1, hy2⟩ := info_parts str_info
    obtain ⟨A5, c5, rfl, _, _⟩ := own_cap hr
    obtain ⟨m, hm⟩ : ∃ m, L.length = m := ⟨_, rfl⟩
    rw [hm] at hr hL
    by_cases hkn : k < n
    · have hki : (k : Int) < (n : Int) := by omega
      have hkb : k < b.size := by omega
      have hx := HB.out.1.at k hkb
      obtain ⟨ch, hch⟩ : ∃ ch, s.getD k 0 = ch := ⟨_, rfl⟩
      rw [hch] at hx
      obtain ⟨c, hcc⟩ : ∃ c : Nat, ch.toNat = c := ⟨_, rfl⟩
      rw [hcc] at hx
      rw [hm]
      have HH := Lib.hid (And.intro hsp (And.intro hr (And.intro hB (And.intro hch (And.intro hcc hm)))))
      clear hsp hr hB hch hcc hm
      by_cases hcy : c = y
      · subst hcy
        go_wp2_with (at_builtin; refine wpList_append_own_at _ rfl (.tmp 19) (.tmp 24) 77 rfl w.heap.size 9 i0 _ 1 16 Tryd.underlying77 hi hy0 hy1 hy2 rfl (by decide) _ _ _ rfl (HH.out.2.1.alloc _) ⟨wr.heap.size, 0, none⟩ 1 1 [.string (b.extract f k)] rfl rfl (cell_one_new _ _ _) (by simp [Value.oneCell']) (by unfold maxLen; omega) (by omega) (Nat.le_trans HH.out.2.2.1.size (by simp)) ?_; intro v' w5 own5 hg5 hx5 hnew)
        have HG := Lib.hid hg5
        clear hg5 hx5 hnew
        go_roundw
        case rel =>
          refine ⟨k + 1, k + 1, L ++ [(s.take k).drop f], by omega, Nat.le_refl _, by rw [List.length_append, HH.out.2.2.2.2.2]; simp; omega, by go_num, by go_num, ?_, ?_, ?_⟩
          · have e := UInt8.toNat_inj.1 (HH.out.2.2.2.2.1.trans HB.out.2.2.symm)
            exact HH.out.1.hit (by rw [HB.out.2.1]; exact hkn) (HH.out.2.2.2.1.trans e)
          · have e1 : (L ++ [(s.take k).drop f]).length = m + 1 := by rw [List.length_append, HH.out.2.2.2.2.2]; rfl
            have e2 : (L ++ [(s.take k).drop f]).map str = L.map str ++ [.string (b.extract f k)] := by
              rw [List.map_append, HB.out.1.eq, ba_ext_]; rfl
            rw [e1, e2]
            exact own5
          · exact below_own (HH.out.2.2.1.alloc HH.out.2.2.1.size _) (HH.out.2.1.alloc _) HG.out (Nat.le_refl _) (Nat.le_refl _)
        case measure => simp [intOf]; omega
      · have hcyi : ¬ (c : Int) = (y : Int) := by omega
        go_wp2
        go_roundw
        case rel =>
          refine ⟨k + 1, f, L, by omega, by omega, by rw [HH.out.2.2.2.2.2]; omega, by go_num, rfl, ?_, ?_, HH.out.2.2.1⟩
          · refine HH.out.1.miss hf (by rw [HB.out.2.1]; exact hkn) (fun e => hcy ?_)
            rw [← HH.out.2.2.2.2.1, ← HH.out.2.2.2.1, e]
            exact HB.out.2.2
          · rw [HH.out.2.2.2.2.2]
            exact HH.out.2.1
        case measure => simp [intOf]; omega
    · obtain rfl : k = n := by omega
      have hki : ¬ (k : Int) < (k : Int) := by omega
      rw [hm]
      have HH := Lib.hid (And.intro hsp (And.intro hr (And.intro hB hm)))
      clear hsp hr hB hm
      go_wp2_with (at_builtin; refine wpList_append_own_at _ rfl (.tmp 28) (.tmp 32) 77 rfl w.heap.size 9 i0 _ 1 16 Tryd.underlying77 hi hy0 hy1 hy2 rfl (by decide) _ _ _ rfl (HH.out.2.1.alloc _) ⟨wr.heap.size, 0, none⟩ 1 1 [.string (b.extract f k)] rfl rfl (cell_one_new _ _ _) (by simp [Value.oneCell']) (by unfold maxLen; omega) (by omega) (Nat.le_trans HH.out.2.2.1.size (by simp)) ?_; intro v' w5 own5 hg5 hx5 hnew)
      have HG := Lib.hid hg5
      clear hg5 hx5 hnew
      go_ret
      refine ⟨⟨_, rfl, ?_⟩, below_own (HH.out.2.2.1.alloc HH.out.2.2.1.size _) (HH.out.2.1.alloc _) HG.out (Nat.le_refl _) (Nat.le_refl _)⟩
      have hsp := HH.out.1
      rw [← HB.out.2.1] at hsp
      have e0 := hsp.done
      have e1 : (splitL by_ s).length = m + 1 := by rw [← e0, List.length_append, HH.out.2.2.2]; rfl
      have e2 : (splitL by_ s).map str = L.map str ++ [.string (b.extract f k)] := by
        rw [← e0, List.map_append, HB.out.1.eq, ba_ext_, ← HB.out.2.1, List.take_length]; rfl
      rw [e1, e2]
      exact own5
end Go.Proofs.YtmhfpjnkjlhbpaaDoor
