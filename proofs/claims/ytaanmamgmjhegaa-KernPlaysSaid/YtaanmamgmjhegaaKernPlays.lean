/- KernPlays returns true for all inputs: the row. -/
import Derived.Test.YtaanmamgmjhegaaKernWo
namespace Go.Proofs.Ytaanmamgmjhegaa
open Go.ChangeShapes Go.WideShapes Go.ChangeAt Go.RowKit Go.Deep
set_option linter.unusedVariables false
set_option linter.unusedSimpArgs false

/-- An act. -/
structure Act6 where
  (d who addr n : Int)
instance : Inhabited Act6 := ⟨⟨0, 0, 0, 0⟩⟩
def Act6.cells (x : Act6) : List Value := [.int .u8 x.d, .int .i64 x.who, .int .i64 x.addr, .int .u32 x.n]
structure Act6.Ok (x : Act6) : Prop where
  d0 : 0 ≤ x.d
  d1 : x.d ≤ 255
  n0 : 0 ≤ x.n
  n1 : x.n ≤ 4294967295
section
variable {H : Type} {enc : TypeId × Value → H} {W : World}
theorem elem_act (n : Nat) (cs : List Value) (x : DataW H × List MemPlace) (h : DataW.trod enc Try.prog W 0 (fun _ => true) true n 71 cs = some x) : ∃ a : Act6, cs = a.cells ∧ a.Ok := by
  obtain ⟨hcl, hcs⟩ := elem_ints Try.underlying71 (by kernel_rfl) (by kernel_rfl) (fun i => if i = 0 then .u8 else if i = 3 then .u32 else .i64) (fun i f hf => by
    rcases i with _ | _ | _ | _ | i
    · obtain rfl := Option.some.inj hf; exact Try.underlying5
    · obtain rfl := Option.some.inj hf; exact Try.underlying3
    · obtain rfl := Option.some.inj hf; exact Try.underlying3
    · obtain rfl := Option.some.inj hf; exact Try.underlying24
    · cases hf) n cs x h
  obtain ⟨c0, c1, c2, c3, rfl⟩ : ∃ c0 c1 c2 c3, cs = [c0, c1, c2, c3] := by
    match cs, hcl with
    | [c0, c1, c2, c3], _ => exact ⟨c0, c1, c2, c3, rfl⟩
  obtain ⟨n0, e0, w0⟩ := hcs 0 (by decide)
  obtain ⟨n1, e1, w1⟩ := hcs 1 (by decide)
  obtain ⟨n2, e2, w2⟩ := hcs 2 (by decide)
  obtain ⟨n3, e3, w3⟩ := hcs 3 (by decide)
  obtain rfl := Option.some.inj e0
  obtain rfl := Option.some.inj e1
  obtain rfl := Option.some.inj e2
  obtain rfl := Option.some.inj e3
  exact ⟨⟨n0, n1, n2, n3⟩, rfl, (bounds_u8 w0).1, (bounds_u8 w0).2, (bounds_u32 w3).1, (bounds_u32 w3).2⟩
end

/-- What holds at each round: the queue and the document's list are the same. -/
structure J (w wr : World) (kb : Nat) (v : Value) (Q : List Slp) (wv : Value) : Prop where
  k : K wr kb (kb + 1) v Q
  row : wr.ownsRow (kb + 1) 73 2 wv Q.length (Q.flatMap slp)
  hz : kb + 1 ≤ wr.heap.size
  B : Below w.heap.size w wr
theorem J.below {w wr w' : World} {kb : Nat} {v wv : Value} {Q : List Slp} (h : J w wr kb v Q wv) (hb : Below wr.heap.size wr w') : J w w' kb v Q wv :=
  ⟨h.k.below hb, own_below h.row (Nat.le_refl _) hb, Nat.le_trans h.hz hb.size, step_below h.B hb⟩
theorem J.step {w wr w' : World} {kb : Nat} {v wv : Value} {Q : List Slp} (h : J w wr kb v Q wv) (hw : w.heap.size ≤ kb) (hS : KStep wr w' kb v) : w'.ownsRow (kb + 1) 73 2 wv Q.length (Q.flatMap slp) ∧ kb + 1 ≤ w'.heap.size ∧ Below w.heap.size w w' :=
  ⟨hS.row h.k h.row (by decide) (by decide), Nat.le_trans h.hz hS.size, h.B.trans (hS.below h.k hw)⟩
theorem J.drewN {w wr : World} {kb : Nat} {v wv : Value} {Q : List Slp} (h : J w wr kb v Q wv) (q : Nat) : J w (wr.drewN q) kb v Q wv :=
  ⟨⟨h.k.blk, h.k.row, h.k.lt⟩, h.row, h.hz, ⟨h.B.os, h.B.tape, h.B.output, h.B.size, h.B.block⟩⟩

set_option maxRecDepth 100000 in
theorem kernPlays_long (A : Option Addr) (len cap : Nat) (a : Value) (w : World) (hl : 300 < len) (hm : len ≤ maxLen) :
    Calls Try.prog 9 #[.slice A len cap, a] w fun e w' => e = .returned (.bool true) ∧ Below w.heap.size w w' := by
  unfold maxLen at hm
  have hl' : (300 : Int) < (len : Int) := by omega
  go_enter Try.func9, Try.ntmps9
  go_wp2_with fail
  refine (kernAwake_any _).mono ?_
  rintro e w1 ⟨rfl, hb1⟩
  go_wp2_with fail
  refine (kernAwake_any _).mono ?_
  rintro e w2 ⟨rfl, hb2⟩
  go_wp2
  go_ret
  exact ⟨rfl, step_below hb1 hb2⟩

theorem K.apartG {w w' : World} {kb base b n : Nat} {v x : Value} {l : List Slp} {xs : List Value} (h : K w kb base v l) (hr : w.ownsRow b 73 2 x n xs) (hb : kb < b) (hg : w.grownBy w' x.ownBlock) : K w' kb base v l :=
  ⟨h.blk.grow_own hr hg hb, own_apart h.row hr (by decide) hg, h.lt⟩
theorem own_cap9 {w : World} {base : Nat} {e : TypeId} {size n cap : Nat} {A : Option Addr} {xs : List Value} (h : w.ownsRow base e size (.slice A n cap) n xs) : n ≤ cap ∧ cap ≤ 9223372036854775807 := by
  obtain ⟨A', c', e', h1, h2⟩ := own_cap h
  injection e' with _ _ e3
  subst e3
  unfold maxLen at h2
  exact ⟨h1, by omega⟩

set_option maxRecDepth 100000 in
set_option maxHeartbeats 16000000 in
theorem kernPlays_true (A : Option Addr) (len cap : Nat) (F : Nat → Act6) (who : Int) (hl : len ≤ 300) (w : World) (hs : SlE w A len 4 (fun i => (F i).cells)) (hF : ∀ i, i < len → (F i).Ok) :
    Calls Try.prog 9 #[.slice A len cap, .int .i64 who] w fun e w' => e = .returned (.bool true) ∧ Below w.heap.size w w' := by
  have hl' : ¬ (300 : Int) < (len : Int) := by omega
  obtain ⟨r0, ri, rz0, rz1, rz2⟩ := info_parts rslp_info
  have HS := Lib.hid (And.intro hs hF)
  clear hs hF
  go_enter Try.func9, Try.ntmps9
  go_wp2_with fail
  refine (kernAwake_any _).mono ?_
  rintro e w1 ⟨rfl, hb1⟩
  have hk := K.new w1
  have hB0 := hb1.alloc hb1.size (.cells #[.slice none 0 0] 58)
  have hsz : (w1.alloc (.cells #[.slice none 0 0] 58)).heap.size = w1.heap.size + 1 := by simp
  have hkb : w.heap.size ≤ w1.heap.size := hb1.size
  go_wp2_with fail
  obtain ⟨w2, hw2⟩ : ∃ w2, w1.alloc (.cells #[.slice none 0 0] 58) = w2 := ⟨_, rfl⟩
  rw [hw2] at hk hB0 hsz ⊢
  clear hw2 hb1
  obtain ⟨kb, hkbe⟩ : ∃ kb, w1.heap.size = kb := ⟨_, rfl⟩
  rw [hkbe] at hk hsz hkb ⊢
  clear hkbe
  have HI : Hid (J w w2 kb (.slice none 0 0) [] (.slice none 0 0)) := Lib.hid ⟨hk, ⟨rfl, .inl ⟨rfl, rfl⟩⟩, by rw [hsz]; exact Nat.le_refl _, hB0⟩
  clear hk hB0 hsz
  go_loopw [6, 7] (fun wv i wr => ∃ (k : Nat) (Q : List Slp) (v : Value), k ≤ len ∧ i = .int .i64 k ∧ Q.length ≤ k ∧ J w wr kb v Q wv) (fun _ i _ => len - (intOf i).toNat)
  case atStart => exact ⟨0, [], _, Nat.zero_le _, rfl, Nat.le_refl _, HI.out⟩
  case round =>
    clear HI
    obtain ⟨k, Q, v, hkl, rfl, hqk, hJ⟩ := hrel
    obtain ⟨wA, wc, rfl, hwc, hws⟩ := own_sle slp (fun _ => rfl) (0, 0) Q hJ.row
    by_cases hlt : k < len
    · have hlt' : (k : Int) < (len : Int) := by omega
      have hk0 : (0 : Int) ≤ (k : Int) := by omega
      obtain ⟨b, off, rfl, hb, hcc⟩ := HS.out.1 (by omega)
      have hok := HS.out.2 k hlt
      have hc0 := hcc k hlt
      dsimp only at hc0
      obtain ⟨⟨d, aw, aa, an⟩, hx⟩ : ∃ x, F k = x := ⟨_, rfl⟩
      rw [hx] at hc0 hok
      obtain ⟨d0, d1, n0, n1⟩ := hok
      dsimp only at d0 d1 n0 n1
      have k0 := keepAt hJ.B hb (hc0 0 (.int .u8 d) rfl)
      have k1 := keepAt hJ.B hb (hc0 1 (.int .i64 aw) rfl)
      have k2 := keepAt hJ.B hb (hc0 2 (.int .i64 aa) rfl)
      have k3 := keepAt hJ.B hb (hc0 3 (.int .u32 an) rfl)
      rw [Nat.add_zero] at k0
      clear hcc hc0 hx
      obtain ⟨n, rfl⟩ : ∃ n : Nat, an = (n : Int) := ⟨an.toNat, by omega⟩
      have hn : n ≤ 4294967295 := by omega
      have hal := (Below.refl wr.heap.size wr).alloc (Nat.le_refl _) (.cells #[.int .u8 d, .int .i64 aw, .int .i64 aa, .int .u32 (n : Int)] 71)
      have hJ1 := hJ.below hal
      have hbx := Blk.new wr 71 #[.int .u8 d, .int .i64 aw, .int .i64 aa, .int .u32 (n : Int)]
      have cF := refFind_any wA wc Q (by omega) aw (wr.alloc (.cells #[.int .u8 d, .int .i64 aw, .int .i64 aa, .int .u32 (n : Int)] 71)) (SlE.step hws hal)
      obtain ⟨f, hf⟩ : ∃ f, fndI Q aw = f := ⟨_, rfl⟩
      rw [hf] at cF
      have hxk : kb < wr.heap.size := hJ.hz
      have HJ := Lib.hid (And.intro hJ1 (And.intro hbx hf))
      clear hJ hJ1 hbx hf hal hws hwc
      go_wp2_with fail
      refine cF.mono ?_
      rintro e w3 ⟨rfl, rfl⟩
      obtain ⟨w3, hw3⟩ : ∃ w3, wr.alloc (.cells #[.int .u8 d, .int .i64 aw, .int .i64 aa, .int .u32 (n : Int)] 71) = w3 := ⟨_, rfl⟩
      obtain ⟨xb, hxb⟩ : ∃ xb, wr.heap.size = xb := ⟨_, rfl⟩
      rw [hw3, hxb] at HJ
      rw [hxb] at hxk
      rw [hw3, hxb]
      clear hw3 hxb cF k0 k1 k2 k3
      have hbx := HJ.out.2.1
      have x0 := hbx.cell 0
      have x1 := hbx.cell 1
      have x2 := hbx.cell 2
      have x3 := hbx.cell 3
      simp only [List.getElem?_toArray, List.getElem?_cons_zero, List.getElem?_cons_succ] at x0 x1 x2 x3
      clear hbx
      rcases (by
        rcases (by omega : d % 3 = 0 ∨ d % 3 = 1 ∨ d % 3 = 2) with hd | hd | hd
        · rcases (by omega : aw < 0 ∨ 7 < aw ∨ (0 ≤ aw ∧ aw ≤ 7)) with h | h | h
          · exact .inl ⟨hd, h⟩
          · exact .inr (.inl ⟨hd, h⟩)
          · rcases Decidable.em (fnd Q aw < Q.length) with h2 | h2
            · exact .inr (.inr (.inl ⟨hd, h, h2⟩))
            · exact .inr (.inr (.inr (.inl ⟨hd, h, h2⟩)))
        · exact .inr (.inr (.inr (.inr (.inl hd))))
        · rcases Decidable.em (fnd Q aw < Q.length) with h2 | h2
          · exact .inr (.inr (.inr (.inr (.inr (.inl ⟨hd, h2⟩)))))
          · exact .inr (.inr (.inr (.inr (.inr (.inr ⟨hd, h2⟩))))) :
        (d % 3 = 0 ∧ aw < 0) ∨ (d % 3 = 0 ∧ 7 < aw) ∨ (d % 3 = 0 ∧ (0 ≤ aw ∧ aw ≤ 7) ∧ fnd Q aw < Q.length) ∨ (d % 3 = 0 ∧ (0 ≤ aw ∧ aw ≤ 7) ∧ ¬ fnd Q aw < Q.length) ∨ d % 3 = 1 ∨ (d % 3 = 2 ∧ fnd Q aw < Q.length) ∨ (d % 3 = 2 ∧ ¬ fnd Q aw < Q.length)) with hw | hw | hw | hw | hw | hw | hw
      case' inl =>
        obtain ⟨hd, hw⟩ := hw
        have hs0 : ((d % 3) == 0) = true := by simp [hd]
        clear hd
        have e1 : slpE Q aw = 1 := by
          unfold slpE
          rw [if_pos (.inl hw)]
        have cS := sleep_no kb (kb + 1) v Q (by omega) aw aa (by rw [e1]; decide) w3 HJ.out.1.k
        rw [e1] at cS
        clear e1
        go_wp2_with fail
        refine cS.mono ?_
        rintro e w6 ⟨rfl, hb4⟩
        have hbx4 := HJ.out.2.1.below hb4 HJ.out.2.1.lt
        clear x0 x1 x2 x3
        have x0 := hbx4.cell 0
        have x1 := hbx4.cell 1
        have x2 := hbx4.cell 2
        have x3 := hbx4.cell 3
        simp only [List.getElem?_toArray, List.getElem?_cons_zero, List.getElem?_cons_succ] at x0 x1 x2 x3
        obtain ⟨m6, hm6⟩ : ∃ m6, Q.length = m6 := ⟨_, rfl⟩
        have H6 : Hid (J w w6 kb v Q (.slice wA m6 wc) ∧ Q.length = m6) := Lib.hid ⟨by rw [← hm6]; exact HJ.out.1.below hb4, hm6⟩
        have hq6 : m6 ≤ k + 1 := by omega
        rw [hm6]
        obtain ⟨Q6, rfl⟩ : ∃ Q6, Q6 = Q := ⟨_, rfl⟩
        obtain ⟨v6, rfl⟩ : ∃ v6, v6 = v := ⟨_, rfl⟩
        obtain ⟨A6, rfl⟩ : ∃ A6, A6 = wA := ⟨_, rfl⟩
        obtain ⟨c6, rfl⟩ : ∃ c6, c6 = wc := ⟨_, rfl⟩
        clear hb4 cS hbx4 hm6
        go_wp2_with fail
      case' inr.inl =>
        obtain ⟨hd, hw⟩ := hw
        have hs0 : ((d % 3) == 0) = true := by simp [hd]
        have hw0 : ¬ aw < 0 := by omega
        clear hd
        have e1 : slpE Q aw = 1 := by
          unfold slpE
          rw [if_pos (.inr hw)]
        have cS := sleep_no kb (kb + 1) v Q (by omega) aw aa (by rw [e1]; decide) w3 HJ.out.1.k
        rw [e1] at cS
        clear e1
        go_wp2_with fail
        refine cS.mono ?_
        rintro e w6 ⟨rfl, hb4⟩
        have hbx4 := HJ.out.2.1.below hb4 HJ.out.2.1.lt
        clear x0 x1 x2 x3
        have x0 := hbx4.cell 0
        have x1 := hbx4.cell 1
        have x2 := hbx4.cell 2
        have x3 := hbx4.cell 3
        simp only [List.getElem?_toArray, List.getElem?_cons_zero, List.getElem?_cons_succ] at x0 x1 x2 x3
        obtain ⟨m6, hm6⟩ : ∃ m6, Q.length = m6 := ⟨_, rfl⟩
        have H6 : Hid (J w w6 kb v Q (.slice wA m6 wc) ∧ Q.length = m6) := Lib.hid ⟨by rw [← hm6]; exact HJ.out.1.below hb4, hm6⟩
        have hq6 : m6 ≤ k + 1 := by omega
        rw [hm6]
        obtain ⟨Q6, rfl⟩ : ∃ Q6, Q6 = Q := ⟨_, rfl⟩
        obtain ⟨v6, rfl⟩ : ∃ v6, v6 = v := ⟨_, rfl⟩
        obtain ⟨A6, rfl⟩ : ∃ A6, A6 = wA := ⟨_, rfl⟩
        obtain ⟨c6, rfl⟩ : ∃ c6, c6 = wc := ⟨_, rfl⟩
        clear hb4 cS hbx4 hm6
        go_wp2_with fail
      case' inr.inr.inl =>
        obtain ⟨hd, hw, hf⟩ := hw
        have hs0 : ((d % 3) == 0) = true := by simp [hd]
        have hw0 : ¬ aw < 0 := by omega
        have hw7 : ¬ 7 < aw := by omega
        have hf0 : 0 ≤ f := by rw [← HJ.out.2.2]; unfold fndI; rw [if_pos hf]; omega
        have HFF := Lib.hid hf
        clear hd hf
        have e1 : slpE Q aw = 6 := by
          unfold slpE
          rw [if_neg (by omega), if_pos HFF.out]
        have cS := sleep_no kb (kb + 1) v Q (by omega) aw aa (by rw [e1]; decide) w3 HJ.out.1.k
        rw [e1] at cS
        clear e1
        go_wp2_with fail
        refine cS.mono ?_
        rintro e w6 ⟨rfl, hb4⟩
        have hbx4 := HJ.out.2.1.below hb4 HJ.out.2.1.lt
        clear x0 x1 x2 x3
        have x0 := hbx4.cell 0
        have x1 := hbx4.cell 1
        have x2 := hbx4.cell 2
        have x3 := hbx4.cell 3
        simp only [List.getElem?_toArray, List.getElem?_cons_zero, List.getElem?_cons_succ] at x0 x1 x2 x3
        obtain ⟨m6, hm6⟩ : ∃ m6, Q.length = m6 := ⟨_, rfl⟩
        have H6 : Hid (J w w6 kb v Q (.slice wA m6 wc) ∧ Q.length = m6) := Lib.hid ⟨by rw [← hm6]; exact HJ.out.1.below hb4, hm6⟩
        have hq6 : m6 ≤ k + 1 := by omega
        rw [hm6]
        obtain ⟨Q6, rfl⟩ : ∃ Q6, Q6 = Q := ⟨_, rfl⟩
        obtain ⟨v6, rfl⟩ : ∃ v6, v6 = v := ⟨_, rfl⟩
        obtain ⟨A6, rfl⟩ : ∃ A6, A6 = wA := ⟨_, rfl⟩
        obtain ⟨c6, rfl⟩ : ∃ c6, c6 = wc := ⟨_, rfl⟩
        clear hb4 cS hbx4 hm6
        go_wp2_with fail
      case' inr.inr.inr.inl =>
        obtain ⟨hd, hw, hf⟩ := hw
        have hs0 : ((d % 3) == 0) = true := by simp [hd]
        have hw0 : ¬ aw < 0 := by omega
        have hw7 : ¬ 7 < aw := by omega
        have hf0 : ¬ 0 ≤ f := by rw [← HJ.out.2.2]; unfold fndI; rw [if_neg hf]; omega
        have e1 : slpE Q aw = 0 := by unfold slpE; rw [if_neg (by omega), if_neg hf]
        have cS := sleep_yes kb (kb + 1) v Q (by omega) aw aa e1 w3 HJ.out.1.k HJ.out.1.hz
        clear hd hf e1
        go_wp2_with fail
        refine cS.mono ?_
        rintro e w4 ⟨rfl, v6, hK4, hS4⟩
        have hbx4 := hS4.blkG HJ.out.1.k.row HJ.out.2.1 (by omega) (by decide)
        obtain ⟨hrow4, hz4, hB4⟩ := HJ.out.1.step hkb hS4
        clear x0 x1 x2 x3
        have x0 := hbx4.cell 0
        have x1 := hbx4.cell 1
        have x2 := hbx4.cell 2
        have x3 := hbx4.cell 3
        simp only [List.getElem?_toArray, List.getElem?_cons_zero, List.getElem?_cons_succ] at x0 x1 x2 x3
        have hal := (Below.refl w4.heap.size w4).alloc (Nat.le_refl _) (.cells #[.int .i64 aw, .int .i64 aa] 73)
        have hrow5 := own_below hrow4 (Nat.le_refl _) hal
        have hz5 := Nat.le_trans hz4 hal.size
        have hsl4 := sl_new w4 73 [.int .i64 aw, .int .i64 aa]
        have hone := slp_one (aw, aa)
        have HZ := Lib.hid (And.intro (hK4.below hal) (step_below hB4 hal))
        clear hK4 hS4 hbx4 hrow4 hB4 hal cS hz4
        go_wp2_with (at_builtin; refine wpList_append_sl _ rfl (.tmp 73) (.tmp 79) 69 rfl (kb + 1) 73 r0 _ 2 16 Try.underlying69 ri rz0 rz1 rz2 rfl (by omega) _ Q.length _ rfl hrow5 _ 1 _ (fun i => [Value.int .i64 aw, Value.int .i64 aa].getD i undef) rfl hsl4 hone (by unfold maxLen; omega) (by omega) hz5 ?_; intro v' w6 hown5 hg5 _; rw [range_getD [Value.int .i64 aw, Value.int .i64 aa] (1 * 2) rfl] at hown5; have hK5 := HZ.out.1.apartG hrow5 (by omega) hg5; have hB5 := below_own HZ.out.2 hrow5 hg5 (by omega) (Nat.le_refl _); have hz6 := Nat.le_trans hz5 hg5.size; obtain ⟨A6, c6, rfl, q1, q2⟩ := own_sl hown5; clear q1 q2; have H5 := Lib.hid (And.intro hK5 (And.intro hown5 (And.intro hz6 hB5))); clear hK5 hown5 hz6 hB5 hg5 hrow5 hsl4 hone hz5)
        obtain ⟨m6, hm6⟩ : ∃ m6, Q.length + 1 = m6 := ⟨_, rfl⟩
        rw [hm6] at H5 ⊢
        obtain ⟨Q6, hQ6⟩ : ∃ Q6, Q ++ [(aw, aa)] = Q6 := ⟨_, rfl⟩
        have hql : Q6.length = m6 := by rw [← hQ6, List.length_append, ← hm6]; rfl
        have H6 : Hid (J w w6 kb v6 Q6 (.slice A6 m6 c6) ∧ Q6.length = m6) := Lib.hid ⟨⟨by rw [← hQ6]; exact H5.out.1, by rw [hql, ← hQ6, List.flatMap_append]; exact H5.out.2.1, H5.out.2.2.1, H5.out.2.2.2⟩, hql⟩
        have hq6 : m6 ≤ k + 1 := by omega
        clear H5 hm6 hQ6 hql
      case' inr.inr.inr.inr.inl =>
        have hs0 : ((d % 3) == 0) = false := by simp [hw]
        have hs1 : ((d % 3) == 1) = true := by simp [hw]
        have cW := wake_any kb (kb + 1) v Q (by omega) aa n hn w3 HJ.out.1.k HJ.out.1.hz
        clear hw
        go_wp2_with fail
        refine cW.mono ?_
        rintro e w4 ⟨v6, ov, rfl, hK4, _, hov, hS4⟩
        have hbx4 := hS4.blkG HJ.out.1.k.row HJ.out.2.1 (by omega) (by decide)
        obtain ⟨hrow4, hz4, hB4⟩ := HJ.out.1.step hkb hS4
        clear x0 x1 x2 x3
        have x0 := hbx4.cell 0
        have x1 := hbx4.cell 1
        have x2 := hbx4.cell 2
        have x3 := hbx4.cell 3
        simp only [List.getElem?_toArray, List.getElem?_cons_zero, List.getElem?_cons_succ] at x0 x1 x2 x3
        obtain ⟨_, _, e4, _, hws⟩ := own_sle slp (fun _ => rfl) (0, 0) Q hrow4
        injection e4 with e4 e5 e6
        subst e4 e6
        have cR := refWake_any wA wc Q (by omega) aa n hn w4 hws
        obtain ⟨L, hL⟩ : ∃ L, (wk aa n Q).1 = L := ⟨_, rfl⟩
        obtain ⟨T, hT⟩ : ∃ T, (wk aa n Q).2 = T := ⟨_, rfl⟩
        unfold RefW at cR
        rw [hL] at hK4
        rw [hT] at hov
        rw [hL, hT] at cR
        have hLQ : L.length ≤ Q.length ∧ T.length ≤ Q.length := by have := wk_len aa n Q; rw [hL, hT] at this; omega
        obtain ⟨oA, oc, rfl, q1, q2, _⟩ := own_ints hov
        clear q1 q2
        have HZ := Lib.hid (And.intro hK4 (And.intro hB4 hov))
        clear hK4 hS4 hbx4 hrow4 hB4 hov hws cW hL hT e5
        go_wp2_with fail
        refine cR.mono ?_
        rintro e w5 ⟨lv, ov2, rfl, hl5, ho5, hb5⟩
        have hov5 := own_below HZ.out.2.2 (Nat.le_refl _) hb5
        obtain ⟨_, _, e4, q1, q2, s1⟩ := own_ints hov5
        injection e4 with e4 e5 e6
        subst e4 e6
        obtain ⟨pA, pc, rfl, q3, q4, s2⟩ := own_ints ho5
        obtain ⟨A6, c6, rfl, q5, q6⟩ := own_sl hl5
        have cN := numbers_eq oA pA T.length oc pc T (by omega) w5 s1 s2
        have HY := Lib.hid (And.intro hl5 hb5)
        clear q1 q2 q3 q4 q5 q6 s1 s2 hov5 ho5 hl5 hb5 e5 cR
        go_wp2_with fail
        refine cN.mono ?_
        rintro e w8 ⟨rfl, q, rfl⟩
        obtain ⟨m6, hm6⟩ : ∃ m6, L.length = m6 := ⟨_, rfl⟩
        obtain ⟨Q6, rfl⟩ : ∃ Q6, Q6 = L := ⟨_, rfl⟩
        have hJ5 : J w w5 kb v6 Q6 (.slice A6 Q6.length c6) := ⟨HZ.out.1.below HY.out.2, own_base HY.out.1 hz4, Nat.le_trans hz4 HY.out.2.size, step_below HZ.out.2.1 HY.out.2⟩
        have hJ6 := hJ5.drewN q
        obtain ⟨w6, hw6⟩ : ∃ w6, w5.drewN q = w6 := ⟨_, rfl⟩
        rw [hw6] at hJ6 ⊢
        rw [hm6] at hJ6 hLQ ⊢
        have H6 := Lib.hid (And.intro hJ6 hm6)
        have hq6 : m6 ≤ k + 1 := by omega
        clear hJ5 hJ6 hw6 hm6 HY HZ cN hLQ
        go_wp2_with fail
      case' inr.inr.inr.inr.inr.inl =>
        obtain ⟨hd, hf⟩ := hw
        have hs0 : ((d % 3) == 0) = false := by simp [hd]
        have hs1 : ((d % 3) == 1) = false := by simp [hd]
        have cR := rouse_yes kb (kb + 1) v Q (by omega) aw hf w3 HJ.out.1.k
        obtain ⟨i, hi⟩ : ∃ i, fnd Q aw = i := ⟨_, rfl⟩
        obtain rfl : f = (i : Int) := by rw [← HJ.out.2.2]; unfold fndI; rw [if_pos hf, hi]
        unfold Roused at cR
        rw [hi] at cR hf
        clear hd hi
        go_wp2_with fail
        refine cR.mono ?_
        rintro e w4 ⟨rfl, v6, hK4, _, hS4⟩
        obtain ⟨hrow4, hz4, hB4⟩ := HJ.out.1.step hkb hS4
        obtain ⟨hwc1, hwc2⟩ := own_cap9 hrow4
        obtain ⟨_, _, e4, _, hws⟩ := own_sle slp (fun _ => rfl) (0, 0) Q hrow4
        injection e4 with e4 e5 e6
        subst e4 e6
        have cW := refWithout_any wA wc Q (by omega) i hf hwc1 hwc2 w4 hws
        have hi0 : (0 : Int) ≤ (i : Int) := by omega
        have hel : (Q.eraseIdx i).length ≤ Q.length := by rw [List.length_eraseIdx]; split <;> omega
        have HZ := Lib.hid (And.intro hK4 hB4)
        clear x0 x1 x2 x3 hK4 hS4 hrow4 hB4 hws cR e5 hwc1 hwc2
        go_wp2_with fail
        refine cW.mono ?_
        rintro e w6 ⟨wv, rfl, hrow6, hb6⟩
        obtain ⟨Q6, hQ6⟩ : ∃ Q6, Q.eraseIdx i = Q6 := ⟨_, rfl⟩
        obtain ⟨m6, hm6⟩ : ∃ m6, Q6.length = m6 := ⟨_, rfl⟩
        rw [hQ6] at hrow6 hel
        have hK6 := HZ.out.1.below hb6
        rw [hQ6] at hK6
        obtain ⟨A6, c6, rfl, q1, q2⟩ := own_sl hrow6
        have hJ6 : J w w6 kb v6 Q6 (.slice A6 Q6.length c6) := ⟨hK6, own_base hrow6 hz4, Nat.le_trans hz4 hb6.size, step_below HZ.out.2 hb6⟩
        rw [hm6] at hJ6 hel ⊢
        have H6 := Lib.hid (And.intro hJ6 hm6)
        have hq6 : m6 ≤ k + 1 := by omega
        clear hJ6 hm6 HZ cW hel q1 q2 hrow6 hb6 hK6 hQ6
        go_wp2_with fail
      case' inr.inr.inr.inr.inr.inr =>
        obtain ⟨hd, hf⟩ := hw
        have hs0 : ((d % 3) == 0) = false := by simp [hd]
        have hs1 : ((d % 3) == 1) = false := by simp [hd]
        have cR := rouse_no kb (kb + 1) v Q (by omega) aw hf w3 HJ.out.1.k
        obtain rfl : f = -1 := by rw [← HJ.out.2.2]; unfold fndI; rw [if_neg hf]
        clear hd hf
        go_wp2_with fail
        refine cR.mono ?_
        rintro e w6 ⟨rfl, hb4⟩
        obtain ⟨m6, hm6⟩ : ∃ m6, Q.length = m6 := ⟨_, rfl⟩
        have H6 : Hid (J w w6 kb v Q (.slice wA m6 wc) ∧ Q.length = m6) := Lib.hid ⟨by rw [← hm6]; exact HJ.out.1.below hb4, hm6⟩
        have hq6 : m6 ≤ k + 1 := by omega
        rw [hm6]
        obtain ⟨Q6, rfl⟩ : ∃ Q6, Q6 = Q := ⟨_, rfl⟩
        obtain ⟨v6, rfl⟩ : ∃ v6, v6 = v := ⟨_, rfl⟩
        obtain ⟨A6, rfl⟩ : ∃ A6, A6 = wA := ⟨_, rfl⟩
        obtain ⟨c6, rfl⟩ : ∃ c6, c6 = wc := ⟨_, rfl⟩
        clear hb4 cR hm6 x0 x1 x2 x3
        go_wp2_with fail
      all_goals
        as_aux_lemma =>
          refine (all_any kb (kb + 1) v6 Q6 (by have := H6.out.2; omega) w6 H6.out.1.k).mono ?_
          rintro e w7 ⟨o, rfl, ho, hb7⟩
          have hJ7 := H6.out.1.below hb7
          obtain ⟨pA, pc, rfl, q1, hp⟩ := own_sle slp (fun _ => rfl) (0, 0) Q6 ho
          obtain ⟨_, _, e4, q2, hq⟩ := own_sle slp (fun _ => rfl) (0, 0) Q6 hJ7.row
          injection e4 with e4 e5 e6
          subst e4 e6
          have hm6 := H6.out.2
          rw [hm6] at hp hq ⊢
          have H7 := Lib.hid (And.intro hp (And.intro hq (And.intro hJ7 hm6)))
          have hne : ((m6 : Int) != (m6 : Int)) = false := by simp
          clear hb7 hJ7 q1 q2 e5 hp hq hm6 ho H6
          go_wp2_with fail
          obtain ⟨wo, rfl⟩ : ∃ wo : World, wo = wr := ⟨_, rfl⟩
          go_loopw [16] (fun i wr => ∃ j q : Nat, j ≤ m6 ∧ i = .int .i64 j ∧ wr = w7.drewN q) (fun i _ => m6 - (intOf i).toNat)
          case atStart => exact ⟨0, 0, Nat.zero_le _, rfl, rfl⟩
          case round =>
            obtain ⟨j, q, hj, rfl, rfl⟩ := hrel
            by_cases hjm : j < m6
            · have hj0 : (0 : Int) ≤ (j : Int) := by omega
              have hj1 : (j : Int) < (m6 : Int) := by omega
              obtain ⟨b1, o1, rfl, _, hc1⟩ := H7.out.1 (by omega)
              obtain ⟨b2, o2, rfl, _, hc2⟩ := H7.out.2.1 (by omega)
              have y0 := hc1 j hjm 0 (.int .i64 (Q6.getD j (0, 0)).1) rfl
              have y1 := hc1 j hjm 1 (.int .i64 (Q6.getD j (0, 0)).2) rfl
              have z0 := hc2 j hjm 0 (.int .i64 (Q6.getD j (0, 0)).1) rfl
              have z1 := hc2 j hjm 1 (.int .i64 (Q6.getD j (0, 0)).2) rfl
              rw [Nat.add_zero] at y0 z0
              obtain ⟨⟨t0, t1⟩, ht⟩ : ∃ x, Q6.getD j (0, 0) = x := ⟨_, rfl⟩
              rw [ht] at y0 y1 z0 z1
              dsimp only at y0 y1 z0 z1
              have he0 : (t0 != t0) = false := by simp
              have he1 : (t1 != t1) = false := by simp
              clear hc1 hc2 ht
              go_wp2
              go_quiet (fail)
              go_wp2
              go_roundw
              case rel => exact ⟨j + 1, _, by omega, by go_num, rfl⟩
              case measure => simp [intOf]; omega
            · obtain rfl : m6 = j := by omega
              have hj1 : ¬ (m6 : Int) < (m6 : Int) := by omega
              have cS := asleep_any kb (kb + 1) v6 Q6 (by have := H7.out.2.2.2; omega) who (w7.drewN q) (H7.out.2.2.1.drewN q).k
              rcases Decidable.em (fnd Q6 who < Q6.length) with hf | hf
              · obtain ⟨i, hi⟩ : ∃ i, fnd Q6 who = i := ⟨_, rfl⟩
                obtain ⟨z, hz⟩ : ∃ z, (Q6.getD i (0, 0)).2 = z := ⟨_, rfl⟩
                have e1 : aslp Q6 who = (z, true) := by unfold aslp; rw [if_pos hf, hi, hz]
                have e2 : fndI Q6 who = (i : Int) := by unfold fndI; rw [if_pos hf, hi]
                rw [e1] at cS
                rw [hi, H7.out.2.2.2] at hf
                have HE := Lib.hid (And.intro e2 hz)
                clear e1 e2 hi hz
                dsimp only at cS
                go_wp2_with fail
                refine cS.mono ?_
                rintro e w8 ⟨rfl, hb8⟩
                have hJ8 := (H7.out.2.2.1.drewN q).below hb8
                obtain ⟨_, _, e4, _, hq8⟩ := own_sle slp (fun _ => rfl) (0, 0) Q6 hJ8.row
                injection e4 with e4 e5 e6
                subst e4 e6
                have cF := refFind_any A6 c6 Q6 (by have := H7.out.2.2.2; omega) who w8 hq8
                rw [HE.out.1, H7.out.2.2.2] at cF
                rw [H7.out.2.2.2] at hq8
                obtain ⟨b2, o2, rfl, _, hc2⟩ := hq8 (by omega)
                have z1 := hc2 i hf 1 (.int .i64 (Q6.getD i (0, 0)).2) rfl
                rw [HE.out.2] at z1
                have hi0 : (0 : Int) ≤ (i : Int) := by omega
                have hi1 : (i : Int) < (m6 : Int) := by omega
                have hzz : (z != z) = false := by simp
                have H8 := Lib.hid (And.intro hJ8 H7.out.2.2.2)
                clear hJ8 hb8 hc2 cS e5 hf
                go_wp2_with fail
                refine cF.mono ?_
                rintro e w9 ⟨rfl, rfl⟩
                clear cF
                go_wp2
                go_roundw
                case rel => exact ⟨k + 1, Q6, v6, by omega, by go_num, by rw [H8.out.2]; omega, H8.out.1⟩
                case measure => simp [intOf]; omega
              · have e1 : aslp Q6 who = (0, false) := by unfold aslp; rw [if_neg hf]
                have e2 : fndI Q6 who = -1 := by unfold fndI; rw [if_neg hf]
                rw [e1] at cS
                have HE := Lib.hid e2
                clear e1 e2 hf
                dsimp only at cS
                go_wp2_with fail
                refine cS.mono ?_
                rintro e w8 ⟨rfl, hb8⟩
                have hJ8 := (H7.out.2.2.1.drewN q).below hb8
                obtain ⟨_, _, e4, _, hq8⟩ := own_sle slp (fun _ => rfl) (0, 0) Q6 hJ8.row
                injection e4 with e4 e5 e6
                subst e4 e6
                have cF := refFind_any A6 c6 Q6 (by have := H7.out.2.2.2; omega) who w8 hq8
                rw [HE.out, H7.out.2.2.2] at cF
                have H8 := Lib.hid (And.intro hJ8 H7.out.2.2.2)
                clear hJ8 hb8 hq8 cS e5
                go_wp2_with fail
                refine cF.mono ?_
                rintro e w9 ⟨rfl, rfl⟩
                clear cF
                go_wp2
                go_roundw
                case rel => exact ⟨k + 1, Q6, v6, by omega, by go_num, by rw [H8.out.2]; omega, H8.out.1⟩
                case measure => simp [intOf]; omega
    · obtain rfl : len = k := by omega
      have hlt' : ¬ (len : Int) < (len : Int) := by omega
      have HB := Lib.hid hJ.B
      clear hJ hws hwc
      go_wp2
      go_ret
      exact ⟨rfl, HB.out⟩
end Go.Proofs.Ytaanmamgmjhegaa
