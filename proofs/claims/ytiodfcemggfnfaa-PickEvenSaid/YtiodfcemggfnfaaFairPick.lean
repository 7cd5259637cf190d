/- The contract of pick.Fair: it tells whether every window holds each thread's step and flush. -/
import Derived.Test.YtiodfcemggfnfaaFair
import Derived.Deep.DeepCutAuto
namespace Go.Proofs.Ytiodfcemggfnfaa
open Go.RowKit
set_option linter.unusedVariables false

theorem right_no (t w : Int) (W : World) (h : t < 1 ∨ 8 < t ∨ w < 4 * t) :
    Calls Try.prog 18 #[.int .i64 t, .int .i64 w] W fun e w' => e = .returned (.bool false) ∧ W = w' := by
  rcases (by omega : t < 1 ∨ (1 ≤ t ∧ 8 < t) ∨ (1 ≤ t ∧ t ≤ 8 ∧ w < 4 * t)) with c | ⟨c, c'⟩ | ⟨c, c', c''⟩
  all_goals
    clear h
    go_enter Try.func18, Try.ntmps18
    go_wp2
    go_ret
    refine ⟨?_, rfl⟩
    first | rfl | (simp; omega)
theorem right_yes (t w : Int) (W : World) (h1 : 1 ≤ t) (h2 : t ≤ 8) (h3 : 4 * t ≤ w) :
    Calls Try.prog 18 #[.int .i64 t, .int .i64 w] W fun e w' => e = .returned (.bool true) ∧ W = w' := by
  go_enter Try.func18, Try.ntmps18
  go_wp2
  go_ret
  exact ⟨rfl, rfl⟩

theorem fair_no (A : Option Addr) (len cap : Nat) (K V : Nat → Int) (t w : Int) (W : World) (h : t < 1 ∨ 8 < t ∨ w < 4 * t) :
    Calls Try.prog 13 #[.slice A len cap, .int .i64 t, .int .i64 w] W (FairRes (FairP K V len t w) W) := by
  have hno : ¬ FairP K V len t w := fun hp => by unfold FairP at hp; omega
  go_enter Try.func13, Try.ntmps13
  go_wp2_with (first | (go_at_call 18; refine (right_no _ _ _ h).mono ?_; rintro e w' ⟨rfl, rfl⟩))
  go_ret
  exact FairRes.no hno (Below.refl _ _)

/-- The number n tells where a pick was last, of i picks: 0, or the place of the last one and 1 more. -/
def LastOk (K V : Nat → Int) (kind who i n : Nat) : Prop := n ≤ i ∧ (∀ p, p < i → K p = kind → V p = who → p < n) ∧ (0 < n → K (n - 1) = kind ∧ V (n - 1) = who)
theorem LastOk.has {K V : Nat → Int} {kind who i n j : Nat} (h : LastOk K V kind who i n) (hj : j ≤ i) : j < n ↔ Has K V kind who j i := by
  obtain ⟨h1, h2, h3⟩ := h
  constructor
  · intro hn
    exact ⟨n - 1, by omega, by omega, h3 (by omega)⟩
  · rintro ⟨p, hp, hp2, e1, e2⟩
    have := h2 p hp2 e1 e2
    omega
theorem LastOk.skip {K V : Nat → Int} {kind who i n : Nat} (h : LastOk K V kind who i n) (hne : ¬ (K i = kind ∧ V i = who)) : LastOk K V kind who (i + 1) n := by
  obtain ⟨h1, h2, h3⟩ := h
  refine ⟨by omega, fun p hp e1 e2 => ?_, h3⟩
  by_cases hpi : p = i
  · subst hpi; exact absurd ⟨e1, e2⟩ hne
  · exact h2 p (by omega) e1 e2
theorem LastOk.hit {K V : Nat → Int} {kind who i : Nat} (h1 : K i = kind) (h2 : V i = who) : LastOk K V kind who (i + 1) (i + 1) :=
  ⟨Nat.le_refl _, fun p hp _ _ => hp, fun _ => ⟨h1, h2⟩⟩

def Lasts (K V : Nat → Int) (t i : Nat) (cs : Array Value) : Prop := cs.size = 16 ∧ ∀ kind who, kind < 2 → who < 8 → ∃ n : Nat, cs[kind * 8 + who]? = some (.int .i64 n) ∧ (who < t → LastOk K V kind who i n)
theorem Lasts.skip {K V : Nat → Int} {t i : Nat} {cs : Array Value} (h : Lasts K V t i cs) (hne : ¬ ((K i = 0 ∨ K i = 1) ∧ 0 ≤ V i ∧ V i < t)) : Lasts K V t (i + 1) cs :=
  ⟨h.1, fun kind who hk hw => by
    obtain ⟨n, h1, h2⟩ := h.2 kind who hk hw
    exact ⟨n, h1, fun hwt => (h2 hwt).skip (by omega)⟩⟩
theorem Lasts.hit {K V : Nat → Int} {t i : Nat} {cs : Array Value} (h : Lasts K V t i cs) {kind who : Nat} (hk : kind < 2) (hw : who < 8) (h1 : K i = kind) (h2 : V i = who) :
    Lasts K V t (i + 1) (cs.setIfInBounds (kind * 8 + who) (.int .i64 ((i + 1 : Nat) : Int))) := by
  refine ⟨by simpa using h.1, fun kind' who' hk' hw' => ?_⟩
  by_cases he : kind' * 8 + who' = kind * 8 + who
  · obtain rfl : kind' = kind := by omega
    obtain rfl : who' = who := by omega
    exact ⟨i + 1, by rw [Array.getElem?_setIfInBounds_self_of_lt (by rw [h.1]; omega)], fun _ => LastOk.hit h1 h2⟩
  · obtain ⟨n, h3, h4⟩ := h.2 kind' who' hk' hw'
    exact ⟨n, by rw [Array.getElem?_setIfInBounds_ne (by omega)]; exact h3, fun hwt => (h4 hwt).skip (by omega)⟩

/-- What the round's world holds: the places at which the picks were last. -/
def St (K V : Nat → Int) (t i : Nat) (W wr : World) : Prop := Below W.heap.size W wr ∧ ∃ cs : Array Value, Blk wr W.heap.size 45 cs ∧ Lasts K V t i cs
theorem St.skip {K V : Nat → Int} {t i : Nat} {W wr : World} (h : St K V t i W wr) (hne : ¬ ((K i = 0 ∨ K i = 1) ∧ 0 ≤ V i ∧ V i < t)) (o : Obj) : St K V t (i + 1) W (wr.alloc o) := by
  obtain ⟨hB, cs, hb, hl⟩ := h
  exact ⟨hB.alloc hB.size _, cs, hb.alloc _, hl.skip hne⟩
theorem St.hit {K V : Nat → Int} {t i : Nat} {W wr : World} (h : St K V t i W wr) {kind who : Nat} (hk : kind < 2) (hw : who < 8) (h1 : K i = kind) (h2 : V i = who) (o : Obj) {n : Nat} (hn : n = kind * 8 + who) :
    St K V t (i + 1) W ((wr.setCell ⟨W.heap.size, n, none⟩ (.int .i64 ((i : Int) + 1))).alloc o).drew := by
  obtain ⟨hB, cs, hb, hl⟩ := h
  subst hn
  exact ⟨((hB.setCell (Nat.le_refl _) _).alloc (by simp [World.setCell]; exact hB.size) _).drew, _, ((hb.set_ _ _).alloc _).drew, hl.hit hk hw h1 h2⟩

def hitB (K V : Nat → Int) (t i : Nat) : Bool := decide ((K i = 0 ∨ K i = 1) ∧ 0 ≤ V i ∧ V i < t)
set_option maxHeartbeats 1000000 in
theorem fair_yes (A : Option Addr) (len cap : Nat) (K V : Nat → Int) (t w : Nat) (W : World) (h1 : 1 ≤ t) (h2 : t ≤ 8) (h3 : 4 * t ≤ w) (h4 : w ≤ 9223372036854775807) (hl : len ≤ 1000000)
    (hsl : Sl W A (len * 2) (pickCells K V)) :
    Calls Try.prog 13 #[.slice A len cap, .int .i64 t, .int .i64 w] W (FairRes (FairP K V len t w) W) := by
  have HP := Lib.hid (fairP_nat (K := K) (V := V) (len := len) h1 h2 h3)
  go_enter Try.func13, Try.ntmps13
  go_wp2_with (first | (go_at_call 18; refine (right_yes _ _ _ (by omega) (by omega) (by omega)).mono ?_; rintro e w' ⟨rfl, rfl⟩))
  go_loopw [18] (fun v wr => ∃ i : Nat, i ≤ len ∧ v = .int .i64 i ∧ (∀ j, j + w ≤ i → FairW K V t w j) ∧ St K V t i W wr) (fun v _ => len - (intOf v).toNat)
  case atStart =>
    refine ⟨0, Nat.zero_le _, rfl, fun j hj => absurd hj (by omega), (Below.refl _ _).alloc (Nat.le_refl _) _, _, Blk.new _ _ _, rfl, fun kind who hk hw => ⟨0, ?_, fun _ => ⟨Nat.le_refl _, fun p hp => absurd hp (by omega), fun h => absurd h (by omega)⟩⟩⟩
    have : kind * 8 + who < 16 := by omega
    rcases (by omega : kind = 0 ∨ kind = 1) with rfl | rfl <;> rcases (by omega : who = 0 ∨ who = 1 ∨ who = 2 ∨ who = 3 ∨ who = 4 ∨ who = 5 ∨ who = 6 ∨ who = 7) with rfl | rfl | rfl | rfl | rfl | rfl | rfl | rfl <;> rfl
  case round =>
    obtain ⟨i, hi, rfl, hwin, hst⟩ := hrel
    by_cases hlt : i < len
    · obtain ⟨b, off, rfl, hbW, hcW⟩ := hsl.below (Nat.le_refl _) hst.1 (by omega)
      have hc0 := hcW (i * 2) (by omega)
      have hc1 := hcW (i * 2 + 1) (by omega)
      rw [pickCells_0] at hc0
      rw [pickCells_1, ← Nat.add_assoc] at hc1
      obtain ⟨hB, cs, hblk, hlast⟩ := id hst
      have hg := hblk.lt
      have HST := Lib.hid hst
      clear hcW hsl hst
      have HC := Lib.hid hi
      go_upto_region 7 with (fail)
      go_cut [41] (fun s wx => s = .bool (hitB K V t i) ∧ wx = wr.alloc (Obj.cells #[.int .i64 (K i), .int .i64 (V i)] 23))
      case first =>
        have hcase : (K i = 0 ∧ 0 ≤ V i ∧ V i < t) ∨ (K i = 0 ∧ V i < 0) ∨ (K i = 0 ∧ 0 ≤ V i ∧ t ≤ V i) ∨ (K i = 1 ∧ 0 ≤ V i ∧ V i < t) ∨ (K i = 1 ∧ V i < 0) ∨ (K i = 1 ∧ 0 ≤ V i ∧ t ≤ V i) ∨ (¬ K i = 0 ∧ ¬ K i = 1) := by omega
        have hyes : (K i = 0 ∨ K i = 1) → 0 ≤ V i → V i < t → hitB K V t i = true := fun a b c => decide_eq_true ⟨a, b, c⟩
        have hno : ¬ ((K i = 0 ∨ K i = 1) ∧ 0 ≤ V i ∧ V i < t) → hitB K V t i = false := fun a => decide_eq_false a
        have E : Hid (hitB K V t i = decide ((K i = 0 ∨ K i = 1) ∧ 0 ≤ V i ∧ V i < t)) := Lib.hid rfl
        clear hyes hno
        rcases hcase with ⟨hk, hv0, hv1⟩ | ⟨hk, hv0⟩ | ⟨hk, hv0, hv1⟩ | ⟨hk, hv0, hv1⟩ | ⟨hk, hv0⟩ | ⟨hk, hv0, hv1⟩ | ⟨hk, hk2⟩
        all_goals
          have b0 : (K i == 0) = decide (K i = 0) := rfl
          have b1 : (K i == 1) = decide (K i = 1) := rfl
          have H0 := Lib.hid hk
          clear hk
          first
            | (have c0 : (K i == 0) = true := by rw [beq_iff_eq]; exact H0.out
               clear b0 b1
               go_wp2)
            | (have c0 : (K i == 0) = false := by rw [beq_eq_false_iff_ne, H0.out]; decide
               have c1 : (K i == 1) = true := by rw [beq_iff_eq]; exact H0.out
               clear b0 b1
               go_wp2)
            | (have c0 : (K i == 0) = false := by rw [beq_eq_false_iff_ne]; exact H0.out
               have c1 : (K i == 1) = false := by rw [beq_eq_false_iff_ne]; exact hk2
               clear b0 b1
               go_wp2)
          go_meet
          case rel =>
            refine ⟨?_, rfl⟩
            rw [E.out]
            have := H0.out
            first | (simp [*]; done) | (simp [*]; omega) | (simp; omega)
      case rest =>
        obtain ⟨rfl, rfl⟩ := hcut
        go_upto_if 41 with (fail)
        go_cut [] (fun wx => St K V t (i + 1) W wx)
        case first =>
          cases hhit : hitB K V t i
          case false =>
            go_wp2
            go_meet
            case rel => exact HST.out.skip (of_decide_eq_false hhit) _
          case true =>
            have hh := of_decide_eq_true hhit
            obtain ⟨hk, hv0, hv1⟩ := hh
            obtain ⟨vn, hvn⟩ : ∃ vn : Nat, V i = vn := ⟨(V i).toNat, by omega⟩
            have hvt : vn < t := by omega
            clear hhit hv0 hv1
            obtain ⟨n0, e0, _⟩ := hlast.2 0 vn (by omega) (by omega)
            obtain ⟨n1, e1, _⟩ := hlast.2 1 vn (by omega) (by omega)
            have hq0 := (hblk.cell (0 * 8 + vn)).trans e0
            have hq1 := (hblk.cell (1 * 8 + vn)).trans e1
            have hf0 := hblk.frozen (0 * 8 + vn)
            have hf1 := hblk.frozen (1 * 8 + vn)
            simp only [Nat.zero_mul, Nat.zero_add, Nat.one_mul] at hq0 hf0 hq1 hf1
            have HV := Lib.hid hvn
            clear e0 e1 hlast hblk hB
            rcases hk with hk | hk
            all_goals
              have HK := Lib.hid hk
              go_wp2_with fail
              go_region
              go_wp2
              go_meet
              case rel => first | exact HST.out.hit (kind := 0) (who := vn) (by omega) (by omega) HK.out HV.out _ (by omega) | exact HST.out.hit (kind := 1) (who := vn) (by omega) (by omega) HK.out HV.out _ (by omega)
        case rest =>
          clear hc0 hc1 hbW HST hlast hblk hB
          by_cases hiw : i + 1 < w
          · go_wp2
            refine ⟨⟨i + 1, by omega, by go_num, fun j hj => hwin j (by omega), hcut⟩, by simp [intOf]; omega⟩
          · obtain ⟨hB, cs, hblk, hlast⟩ := id hcut
            go_wp2
            go_loop [54] (fun v => ∃ kd : Nat, v = .int .i64 kd ∧ kd ≤ 2 ∧ ∀ c, c < kd → ∀ who, who < t → Has K V c who (i + 1 - w) (i + 1)) (fun v => 2 - (intOf v).toNat)
            case atStart => exact ⟨0, rfl, by omega, fun c hc => absurd hc (by omega)⟩
            case round =>
              obtain ⟨kd, rfl, hkd, hkdone⟩ := hrel
              by_cases hk2 : kd < 2
              · go_wp2
                go_loop [58] (fun v => ∃ who : Nat, v = .int .i64 who ∧ who ≤ t ∧ ∀ j, j < who → Has K V kd j (i + 1 - w) (i + 1)) (fun v => t - (intOf v).toNat)
                case atStart => exact ⟨0, rfl, by omega, fun c hc => absurd hc (by omega)⟩
                case round =>
                  obtain ⟨who, rfl, hwho, hwdone⟩ := hrel
                  by_cases hwt : who < t
                  · obtain ⟨n, hn, hok⟩ := hlast.2 kd who hk2 (by omega)
                    have hq := (hblk.cell (kd * 8 + who)).trans hn
                    have HO := Lib.hid (hok hwt)
                    clear hok hn hlast hblk
                    by_cases hle : (n : Int) ≤ (i : Int) + 1 - (w : Int)
                    · go_wp2
                      go_ret
                      refine FairRes.no (fun hp => ?_) hcut.1
                      have h0 := (HP.out.1 hp (i + 1 - w) (by omega)) who hwt
                      rw [show i + 1 - w + w = i + 1 from by omega] at h0
                      have hlt2 : ¬ i + 1 - w < n := by omega
                      rcases (by omega : kd = 0 ∨ kd = 1) with rfl | rfl
                      · exact hlt2 ((HO.out.has (by omega)).2 h0.1)
                      · exact hlt2 ((HO.out.has (by omega)).2 h0.2)
                    · go_wp2
                      refine ⟨⟨who + 1, by go_num, by omega, fun j hj => ?_⟩, by simp [intOf]; omega⟩
                      by_cases hjw : j = who
                      · subst hjw; exact (HO.out.has (by omega)).1 (by omega)
                      · exact hwdone j (by omega)
                  · obtain rfl : who = t := by omega
                    go_wp2
                    refine ⟨⟨kd + 1, by go_num, by omega, fun c hc => ?_⟩, by simp [intOf]; omega⟩
                    by_cases hck : c = kd
                    · subst hck; exact hwdone
                    · exact hkdone c (by omega)
              · obtain rfl : kd = 2 := by omega
                go_wp2
                refine ⟨⟨i + 1, by omega, by go_num, fun j hj => ?_, hcut⟩, by simp [intOf]; omega⟩
                by_cases hji : j + w ≤ i
                · exact hwin j hji
                · obtain rfl : j = i + 1 - w := by omega
                  intro who hwt
                  rw [show i + 1 - w + w = i + 1 from by omega]
                  exact ⟨hkdone 0 (by omega) who hwt, hkdone 1 (by omega) who hwt⟩
    · obtain rfl : i = len := by omega
      go_wp2
      go_ret
      exact FairRes.yes (HP.out.2 hwin) hst.1
end Go.Proofs.Ytiodfcemggfnfaa
