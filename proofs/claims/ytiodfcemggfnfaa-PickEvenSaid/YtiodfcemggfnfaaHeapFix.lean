/- container/heap over the dues: up, down, Fix. -/
import Derived.Test.YtiodfcemggfnfaaHeap
import Derived.Test.YtiodfcemggfnfaaGrow
namespace Go.Proofs.Ytiodfcemggfnfaa
open Go.ChangeShapes Go.WideShapes Go.ChangeAt Go.RowKit Go.Deep
set_option linter.unusedVariables false
set_option linter.unusedSimpArgs false

/-- What is left: the same items, in a heap. -/
def HEnd (W : World) (Bd g n cap : Nat) (F : Nat → Itm) (e : Ending) (W' : World) : Prop :=
  (∃ v, e = .returned v) ∧ ∃ G, Swaps n F G ∧ Heap n G ∧ HS W' Bd g n cap G ∧ W.grownBy W' (some g)
theorem grown_drewN {a b : World} {row : Option Nat} (h : a.grownBy b row) (q : Nat) : a.grownBy (b.drewN q) row := ⟨h.os, h.tape, h.output, h.size, h.block⟩

set_option maxHeartbeats 2000000 in
theorem up_any (Bd g n cap j0 : Nat) (F : Nat → Itm) (hj0 : j0 < n) (hn : n ≤ 1000) (W : World) (hS : HS W Bd g n cap F) (hU : ButUp n F j0) :
    Calls Try.prog 21 #[.iface 46 (.pointer (some ⟨Bd, 0, none⟩)), .int .i64 (j0 : Int)] W (HEnd W Bd g n cap F) := by
  go_enter Try.func21, Try.ntmps21
  go_wp2
  go_loopw [1] (fun v wr => ∃ (j : Nat) (G : Nat → Itm), j < n ∧ v = .int .i64 (j : Int) ∧ Swaps n F G ∧ ButUp n G j ∧ HS wr Bd g n cap G ∧ W.grownBy wr (some g)) (fun v _ => (intOf v).toNat)
  case atStart => exact ⟨j0, F, hj0, rfl, .refl, hU, hS, World.grownBy.refl W _⟩
  case round =>
    clear hS hU hj0
    obtain ⟨j, G, hj, rfl, hsw, hbu, hs, hg⟩ := hrel
    rcases Nat.eq_zero_or_pos j with rfl | hp
    · have HX := Lib.hid (And.intro hsw (And.intro hbu (And.intro hs hg)))
      clear hsw hbu hs hg
      go_wp2
      go_end0
      exact ⟨⟨_, rfl⟩, G, HX.out.1, HX.out.2.1.root, HX.out.2.2.1, HX.out.2.2.2⟩
    · have hp1 : (0 : Int) ≤ (j : Int) - 1 := by omega
      have hp2 : (j : Int) - 1 ≤ 1000 := by omega
      obtain ⟨p, hpp⟩ : ∃ p, par j = p := ⟨_, rfl⟩
      have hpj : p < j := by unfold par at hpp; omega
      have hpn : p < n := by omega
      have he : ((j : Int) - 1) / 2 = (p : Int) := by unfold par at hpp; omega
      have hne : ((p : Int) == (j : Int)) = false := by simp; omega
      have hm := m_less hs
      have hL := hs.less hj hpn
      obtain ⟨dj, hdj⟩ : ∃ d, (G j).due = d := ⟨_, rfl⟩
      obtain ⟨dp, hdp⟩ : ∃ d, (G p).due = d := ⟨_, rfl⟩
      rw [hdj, hdp] at hL
      have HX := Lib.hid (And.intro hsw (And.intro hbu (And.intro hs (And.intro hg (And.intro hpp (And.intro hdj hdp))))))
      clear hsw hbu hs hg hpp hdj hdp
      go_wp2_with fail
      refine hL.mono ?_
      rintro e w1 ⟨rfl, q, rfl⟩
      clear hL hm
      by_cases hl : dj < dp
      · have hlb : decide (dj < dp) = true := by simpa using hl
        have hm2 := m_swap (HX.out.2.2.1.drewN q)
        have hS2 := (HX.out.2.2.1.drewN q).swap hpn hj (by omega)
        have HL := Lib.hid hl
        clear hl
        go_wp2_with fail
        refine hS2.mono ?_
        rintro e w2 ⟨⟨ve, rfl⟩, hs3, hg3⟩
        obtain ⟨hsw, hbu, hs, hg, hpp, hdj, hdp⟩ := HX.out
        have hbu3 := hbu.step hp hj (by rw [hpp, hdj, hdp]; exact HL.out)
        rw [hpp] at hbu3
        have hsw3 := hsw.step p j hpn hj
        have hg4 := grown_trans' (grown_drewN hg q) hg3
        have HY := Lib.hid (And.intro hsw3 (And.intro hbu3 (And.intro hs3 hg4)))
        clear hS2 hm2 hs3 hg3 hsw hbu hs hg hpp hdj hdp hbu3 hsw3 hg4 HX HL
        go_wp2
        go_roundw
        case rel => exact ⟨p, _, hpn, rfl, HY.out.1, HY.out.2.1, HY.out.2.2.1, HY.out.2.2.2⟩
        case measure => simp [intOf]; omega
      · have hlb : decide (dj < dp) = false := by simpa using hl
        have HL := Lib.hid hl
        clear hl
        go_wp2
        go_end0
        obtain ⟨hsw, hbu, hs, hg, hpp, hdj, hdp⟩ := HX.out
        have := HL.out
        exact ⟨⟨_, rfl⟩, G, hsw, hbu.done (by rw [hpp, hdj, hdp]; omega), hs.drewN q, grown_drewN hg q⟩

/-- What down leaves: whether it has moved; then all is in order; else all but what is above. -/
def DEnd (W : World) (Bd g n cap i0 : Nat) (F : Nat → Itm) (e : Ending) (W' : World) : Prop :=
  ∃ mv : Bool, e = .returned (.bool mv) ∧ ∃ G, Swaps n F G ∧ (mv = true → Heap n G) ∧ (mv = false → ButUp n G i0) ∧ HS W' Bd g n cap G ∧ W.grownBy W' (some g)
theorem dend {W W' : World} {Bd g n cap i0 i : Nat} {F G : Nat → Itm} (hi0 : i0 ≤ i) (hsw : Swaps n F G) (hb : But n G i) (hu : i ≠ i0 → (G (par i)).due ≤ (G i).due) (hs : HS W' Bd g n cap G) (hg : W.grownBy W' (some g))
    (hlow : ∀ c, c < n → 0 < c → par c = i → (G i).due ≤ (G c).due) : DEnd W Bd g n cap i0 F (.returned (.bool (decide (i0 < i)))) W' := by
  refine ⟨_, rfl, G, hsw, fun h => hb.heap hlow (fun h0 => hu ?_), fun h => ?_, hs, hg⟩
  · have := of_decide_eq_true h; omega
  · have := of_decide_eq_false h
    obtain rfl : i = i0 := by omega
    exact hb.stop hlow

set_option maxRecDepth 100000 in
set_option maxHeartbeats 4000000 in
theorem down_any (Bd g n cap i0 : Nat) (F : Nat → Itm) (hi0 : i0 < n) (hn : n ≤ 1000) (W : World) (hS : HS W Bd g n cap F) (hB : But n F i0) :
    Calls Try.prog 22 #[.iface 46 (.pointer (some ⟨Bd, 0, none⟩)), .int .i64 (i0 : Int), .int .i64 (n : Int)] W (DEnd W Bd g n cap i0 F) := by
  go_enter Try.func22, Try.ntmps22
  go_wp2
  go_loopw [7] (fun v wr => ∃ (i : Nat) (G : Nat → Itm), i < n ∧ i0 ≤ i ∧ v = .int .i64 (i : Int) ∧ Swaps n F G ∧ But n G i ∧ (i ≠ i0 → (G (par i)).due ≤ (G i).due) ∧ HS wr Bd g n cap G ∧ W.grownBy wr (some g)) (fun v _ => n - (intOf v).toNat)
  case atStart => exact ⟨i0, F, hi0, Nat.le_refl _, rfl, .refl, hB, fun h => absurd rfl h, hS, World.grownBy.refl W _⟩
  case round =>
    clear hS hB hi0
    obtain ⟨i, G, hi, hii, rfl, hsw, hbu, hup, hs, hg⟩ := hrel
    by_cases hj1 : n ≤ 2 * i + 1
    · have hj1' : (n : Int) ≤ 2 * (i : Int) + 1 := by omega
      have hlow : ∀ c, c < n → 0 < c → par c = i → (G i).due ≤ (G c).due := fun c hc h0 hp => by unfold par at hp; omega
      have HX := Lib.hid (dend hii hsw hbu hup hs hg hlow)
      clear hsw hbu hup hs hg hlow
      go_wp2
      go_ret
      exact HX.out
    · have hp2 : 2 * (i : Int) ≤ 2000 := by omega
      have hp3 : (0 : Int) ≤ 2 * (i : Int) := by omega
      obtain ⟨a, ha⟩ : ∃ a : Nat, 2 * (i : Int) + 1 = (a : Int) := ⟨2 * i + 1, by omega⟩
      obtain ⟨b, hb⟩ : ∃ b : Nat, (a : Int) + 1 = (b : Int) := ⟨a + 1, by omega⟩
      have ga : a = 2 * i + 1 := by omega
      have gb : b = 2 * i + 2 := by omega
      have han : a < n := by omega
      have hbi : b ≤ 2000 := by omega
      have hai : i < a := by omega
      have hn1 : ¬ (n : Int) ≤ (a : Int) := by omega
      have hn2 : ¬ (a : Int) < 0 := by omega
      have hpa : par a = i := by unfold par; omega
      have hpb : par b = i := by unfold par; omega
      have hchild : ∀ c, 0 < c → par c = i → c = a ∨ c = b := fun c h0 hp => by unfold par at hp; omega
      have hm := m_less hs
      obtain ⟨di, hdi⟩ : ∃ d, (G i).due = d := ⟨_, rfl⟩
      obtain ⟨da, hda⟩ : ∃ d, (G a).due = d := ⟨_, rfl⟩
      obtain ⟨db, hdb⟩ : ∃ d, (G b).due = d := ⟨_, rfl⟩
      have HX := Lib.hid (And.intro hsw (And.intro hbu (And.intro hup (And.intro hs (And.intro hg (And.intro hdi (And.intro hda (And.intro hdb (And.intro hpa (And.intro hpb hchild))))))))))
      have HG := Lib.hid (And.intro ga gb)
      clear hsw hbu hup hs hg hdi hda hdb hpa hpb hchild ga gb
      by_cases hbn : b < n
      · have hn3 : (b : Int) < (n : Int) := by omega
        have hL := HX.out.2.2.2.1.less hbn han
        rw [HX.out.2.2.2.2.2.2.1, HX.out.2.2.2.2.2.2.2.1] at hL
        go_wp2_with fail
        refine hL.mono ?_
        rintro e w1 ⟨rfl, q, rfl⟩
        clear hL hm
        by_cases hx : db < da
        · have hxb : decide (db < da) = true := by simpa using hx
          have HXX := Lib.hid hx
          clear hx
          have hS1 := HX.out.2.2.2.1.drewN q
          have hm1 := m_less hS1
          have hL1 := hS1.less (i := b) (j := i) hbn hi
          rw [HX.out.2.2.2.2.2.2.2.1, HX.out.2.2.2.2.2.1] at hL1
          have HMIN : Hid (∀ c, c < n → 0 < c → par c = i → (G b).due ≤ (G c).due) := Lib.hid (fun c hc h0 hp => by
            have h1 := HX.out.2.2.2.2.2.2.2.1
            have h2 := HX.out.2.2.2.2.2.2.1
            have h3 := HX.out.2.2.2.2.2.2.2.1
            rcases HX.out.2.2.2.2.2.2.2.2.2.2 c h0 hp with rfl | rfl
            · have := HXX.out; omega
            · omega)
          have HS1 := Lib.hid hS1
          clear hS1
          go_wp2_with fail
          refine hL1.mono ?_
          rintro e w2 ⟨rfl, q2, rfl⟩
          clear hL1 hm1
          by_cases hl : db < di
          · have hlb : decide (db < di) = true := by simpa using hl
            have hS2 := (HX.out.2.2.2.1.drewN (q + q2))
            have hm2 := m_swap hS2
            have hW2 := hS2.swap (i := i) (j := b) hi hbn (by omega)
            have HL := Lib.hid hl
            clear hl hS2
            go_wp2_with fail
            refine hW2.mono ?_
            rintro e w3 ⟨⟨ve, rfl⟩, hs3, hg3⟩
            have hst := HX.out.2.1.step (j := b) hbn (by omega) HX.out.2.2.2.2.2.2.2.2.2.1 HMIN.out (by rw [HX.out.2.2.2.2.2.2.2.1, HX.out.2.2.2.2.2.1]; exact HL.out)
            have hup3 : b ≠ i0 → (swp G i b (par b)).due ≤ (swp G i b b).due := fun _ => hst.2.1
            have hg4 := grown_trans' (grown_drewN HX.out.2.2.2.2.1 (q + q2)) hg3
            have HY := Lib.hid (And.intro (HX.out.1.step i b hi hbn) (And.intro hst.1 (And.intro hup3 (And.intro hs3 hg4))))
            clear hm2 hW2 hs3 hg3 hst hup3 hg4
            go_wp2
            go_roundw
            case rel => exact ⟨b, _, hbn, by omega, rfl, HY.out.1, HY.out.2.1, HY.out.2.2.1, HY.out.2.2.2.1, HY.out.2.2.2.2⟩
            case measure => simp [intOf]; omega
          · have hlb : decide (db < di) = false := by simpa using hl
            have HL := Lib.hid hl
            have hE := dend hii HX.out.1 HX.out.2.1 HX.out.2.2.1 (HX.out.2.2.2.1.drewN (q + q2)) (grown_drewN HX.out.2.2.2.2.1 (q + q2)) (fun c hc h0 hp => by
              have h1 := HMIN.out c hc h0 hp
              have h2 := HL.out
              have h3 := HX.out.2.2.2.2.2.2.2.1
              have h4 := HX.out.2.2.2.2.2.1
              omega)
            have HE := Lib.hid hE
            clear hl hE
            go_wp2
            go_ret
            exact HE.out
        · have hxb : decide (db < da) = false := by simpa using hx
          have HXX := Lib.hid hx
          clear hx
          have hS1 := HX.out.2.2.2.1.drewN q
          have hm1 := m_less hS1
          have hL1 := hS1.less (i := a) (j := i) han hi
          rw [HX.out.2.2.2.2.2.2.1, HX.out.2.2.2.2.2.1] at hL1
          have HMIN : Hid (∀ c, c < n → 0 < c → par c = i → (G a).due ≤ (G c).due) := Lib.hid (fun c hc h0 hp => by
            have h1 := HX.out.2.2.2.2.2.2.1
            have h2 := HX.out.2.2.2.2.2.2.1
            have h3 := HX.out.2.2.2.2.2.2.2.1
            rcases HX.out.2.2.2.2.2.2.2.2.2.2 c h0 hp with rfl | rfl
            · omega
            · have := HXX.out; omega)
          have HS1 := Lib.hid hS1
          clear hS1
          go_wp2_with fail
          refine hL1.mono ?_
          rintro e w2 ⟨rfl, q2, rfl⟩
          clear hL1 hm1
          by_cases hl : da < di
          · have hlb : decide (da < di) = true := by simpa using hl
            have hS2 := (HX.out.2.2.2.1.drewN (q + q2))
            have hm2 := m_swap hS2
            have hW2 := hS2.swap (i := i) (j := a) hi han (by omega)
            have HL := Lib.hid hl
            clear hl hS2
            go_wp2_with fail
            refine hW2.mono ?_
            rintro e w3 ⟨⟨ve, rfl⟩, hs3, hg3⟩
            have hst := HX.out.2.1.step (j := a) han (by omega) HX.out.2.2.2.2.2.2.2.2.1 HMIN.out (by rw [HX.out.2.2.2.2.2.2.1, HX.out.2.2.2.2.2.1]; exact HL.out)
            have hup3 : a ≠ i0 → (swp G i a (par a)).due ≤ (swp G i a a).due := fun _ => hst.2.1
            have hg4 := grown_trans' (grown_drewN HX.out.2.2.2.2.1 (q + q2)) hg3
            have HY := Lib.hid (And.intro (HX.out.1.step i a hi han) (And.intro hst.1 (And.intro hup3 (And.intro hs3 hg4))))
            clear hm2 hW2 hs3 hg3 hst hup3 hg4
            go_wp2
            go_roundw
            case rel => exact ⟨a, _, han, by omega, rfl, HY.out.1, HY.out.2.1, HY.out.2.2.1, HY.out.2.2.2.1, HY.out.2.2.2.2⟩
            case measure => simp [intOf]; omega
          · have hlb : decide (da < di) = false := by simpa using hl
            have HL := Lib.hid hl
            have hE := dend hii HX.out.1 HX.out.2.1 HX.out.2.2.1 (HX.out.2.2.2.1.drewN (q + q2)) (grown_drewN HX.out.2.2.2.2.1 (q + q2)) (fun c hc h0 hp => by
              have h1 := HMIN.out c hc h0 hp
              have h2 := HL.out
              have h3 := HX.out.2.2.2.2.2.2.1
              have h4 := HX.out.2.2.2.2.2.1
              omega)
            have HE := Lib.hid hE
            clear hl hE
            go_wp2
            go_ret
            exact HE.out
      · have hn3 : ¬ (b : Int) < (n : Int) := by omega
        clear hm
        have hS1 := HX.out.2.2.2.1
        have hm1 := m_less hS1
        have hL1 := hS1.less (i := a) (j := i) han hi
        rw [HX.out.2.2.2.2.2.2.1, HX.out.2.2.2.2.2.1] at hL1
        have HMIN : Hid (∀ c, c < n → 0 < c → par c = i → (G a).due ≤ (G c).due) := Lib.hid (fun c hc h0 hp => by
          have h1 := HX.out.2.2.2.2.2.2.1
          have h2 := HX.out.2.2.2.2.2.2.1
          have h3 := HX.out.2.2.2.2.2.2.2.1
          rcases HX.out.2.2.2.2.2.2.2.2.2.2 c h0 hp with rfl | rfl
          · omega
          · omega)
        have HS1 := Lib.hid hS1
        clear hS1
        go_wp2_with fail
        refine hL1.mono ?_
        rintro e w2 ⟨rfl, q2, rfl⟩
        clear hL1 hm1
        by_cases hl : da < di
        · have hlb : decide (da < di) = true := by simpa using hl
          have hS2 := (HX.out.2.2.2.1.drewN q2)
          have hm2 := m_swap hS2
          have hW2 := hS2.swap (i := i) (j := a) hi han (by omega)
          have HL := Lib.hid hl
          clear hl hS2
          go_wp2_with fail
          refine hW2.mono ?_
          rintro e w3 ⟨⟨ve, rfl⟩, hs3, hg3⟩
          have hst := HX.out.2.1.step (j := a) han (by omega) HX.out.2.2.2.2.2.2.2.2.1 HMIN.out (by rw [HX.out.2.2.2.2.2.2.1, HX.out.2.2.2.2.2.1]; exact HL.out)
          have hup3 : a ≠ i0 → (swp G i a (par a)).due ≤ (swp G i a a).due := fun _ => hst.2.1
          have hg4 := grown_trans' (grown_drewN HX.out.2.2.2.2.1 q2) hg3
          have HY := Lib.hid (And.intro (HX.out.1.step i a hi han) (And.intro hst.1 (And.intro hup3 (And.intro hs3 hg4))))
          clear hm2 hW2 hs3 hg3 hst hup3 hg4
          go_wp2
          go_roundw
          case rel => exact ⟨a, _, han, by omega, rfl, HY.out.1, HY.out.2.1, HY.out.2.2.1, HY.out.2.2.2.1, HY.out.2.2.2.2⟩
          case measure => simp [intOf]; omega
        · have hlb : decide (da < di) = false := by simpa using hl
          have HL := Lib.hid hl
          have hE := dend hii HX.out.1 HX.out.2.1 HX.out.2.2.1 (HX.out.2.2.2.1.drewN q2) (grown_drewN HX.out.2.2.2.2.1 q2) (fun c hc h0 hp => by
            have h1 := HMIN.out c hc h0 hp
            have h2 := HL.out
            have h3 := HX.out.2.2.2.2.2.2.1
            have h4 := HX.out.2.2.2.2.2.1
            omega)
          have HE := Lib.hid hE
          clear hl hE
          go_wp2
          go_ret
          exact HE.out

/-- The item at place i has got another due; the heap is mended. -/
theorem fix_any (Bd g n cap i : Nat) (F : Nat → Itm) (hi : i < n) (hn : n ≤ 1000) (W : World) (hS : HS W Bd g n cap F) (hB : But n F i) :
    Calls Try.prog 20 #[.iface 46 (.pointer (some ⟨Bd, 0, none⟩)), .int .i64 (i : Int)] W (HEnd W Bd g n cap F) := by
  have hm := m_len hS
  have hD := down_any Bd g n cap i F hi hn W hS hB
  go_enter Try.func20, Try.ntmps20
  go_wp2_with (go_at_call 39; refine (dlen_any _ _ _ _).mono ?_; rintro e w' ⟨rfl, rfl⟩)
  refine hD.mono ?_
  rintro e w1 ⟨mv, rfl, G, hsw, h1, h2, hs, hg⟩
  clear hm hD
  cases mv
  · have hU := up_any Bd g n cap i G hi hn w1 hs (h2 rfl)
    have HX := Lib.hid (And.intro hsw hg)
    clear h1 h2 hsw hs hg
    go_wp2_with fail
    refine hU.mono ?_
    rintro e w2 ⟨⟨ve, rfl⟩, H, hsw2, hh, hs2, hg2⟩
    go_wp2
    go_end0
    exact ⟨⟨_, rfl⟩, H, HX.out.1.trans hsw2, hh, hs2, grown_trans' HX.out.2 hg2⟩
  · have HX := Lib.hid (And.intro hsw (And.intro (h1 rfl) (And.intro hs hg)))
    clear h1 h2 hsw hs hg
    go_wp2
    go_end0
    exact ⟨⟨_, rfl⟩, G, HX.out.1, HX.out.2.1, HX.out.2.2.1, HX.out.2.2.2⟩
end Go.Proofs.Ytiodfcemggfnfaa
