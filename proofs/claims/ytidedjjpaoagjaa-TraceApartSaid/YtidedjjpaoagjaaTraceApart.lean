/- A thread's calls do not overlap; an inner event is of one call alone. For every slice of events. -/
import Derived.Test.YtidedjjpaoagjaaTraceApartP
namespace Go.Proofs.Ytidedjjpaoagjaa
open Go.ChangeShapes Go.WideShapes Go.ChangeAt Go.RowKit Go.Deep
set_option linter.unusedVariables false
set_option linter.unusedSimpArgs false

theorem traceApart_long (A : Option Addr) (len cap : Nat) (w : World) (hl : 400 < len) (hm : len ≤ maxLen) :
    Calls Try.prog 5 #[.slice A len cap] w fun e w' => e = .returned (.bool true) ∧ Below w.heap.size w w' := by
  unfold maxLen at hm
  have hl' : (400 : Int) < (len : Int) := by omega
  go_enter Try.func5, Try.ntmps5
  go_wp2_with fail
  refine (awake_any _).mono ?_
  rintro e w1 ⟨rfl, hb1⟩
  go_wp2_with fail
  refine (awake_any _).mono ?_
  rintro e w2 ⟨rfl, hb2⟩
  go_wp2
  go_ret
  exact ⟨rfl, step_below hb1 hb2⟩

/-- The i-th call, in memory. -/
theorem PT.cv {W : World} {lo hi : Nat} {A : Option Addr} {n cap : Nat} {l : List CV} {C : List Cl} (h : PT W lo hi (.slice A n cap) l) (hl : l.map (·.1) = C) (hin : ∀ p ∈ l, INN W lo hi p) (i : Nat) (hi' : i < n) :
    ∃ b off c I d, A = some ⟨b, off, none⟩ ∧ C[i]? = some c ∧ W.cell? ⟨b, off + i * 6 + 1, none⟩ = some (.int .i64 c.who) ∧ W.cell? ⟨b, off + i * 6 + 2, none⟩ = some (.int .i64 c.began) ∧
      W.cell? ⟨b, off + i * 6 + 3, none⟩ = some (.int .i64 c.ended) ∧ W.cell? ⟨b, off + i * 6 + 5, none⟩ = some (.slice I c.inner.length d) ∧ (∀ k, k < c.inner.length → ∃ b2 o2, I = some ⟨b2, o2, none⟩ ∧ W.cell? ⟨b2, o2 + k, none⟩ = some (.int .i64 (c.inner.getD k 0))) := by
  have hn : n = l.length := by
    obtain ⟨A', cap', e, _⟩ := h
    simp only [Value.slice.injEq] at e
    exact e.2.1
  obtain ⟨b, off, rfl, _, hc⟩ := h.at_ i hi'
  have hq : l.getD i cv0 ∈ l := getD_mem (by omega)
  have hin1 := hin _ hq
  have hC : C[i]? = some (l.getD i cv0).1 := by
    rw [← hl, List.getElem?_map, List.getElem?_eq_getElem (show i < l.length by omega)]
    simp [List.getD_eq_getElem?_getD, List.getElem?_eq_getElem (show i < l.length by omega)]
  generalize l.getD i cv0 = q at hc hin1 hC
  obtain ⟨c, iv⟩ := q
  obtain ⟨I, d, e1, _, hI⟩ := hin1
  dsimp only at e1 hI
  subst e1
  refine ⟨b, off, c, I, d, rfl, hC, hc 1 _ rfl, hc 2 _ rfl, hc 3 _ rfl, hc 5 _ rfl, fun k hk => ?_⟩
  obtain ⟨b2, o2, e, _, _, h3⟩ := hI (by omega)
  exact ⟨b2, o2, e, h3 k hk⟩

set_option maxRecDepth 100000 in
set_option maxHeartbeats 8000000 in
theorem traceApart_true (A : Option Addr) (len cap : Nat) (E : Nat → Ev) (hl : len ≤ 400) (w : World) (hs : SlE w A len 8 (fun i => (E i).cells)) :
    Calls Try.prog 5 #[.slice A len cap] w fun e w' => e = .returned (.bool true) ∧ Below w.heap.size w w' := by
  have hl' : ¬ (400 : Int) < (len : Int) := by omega
  have HS := Lib.hid hs
  clear hs
  go_enter Try.func5, Try.ntmps5
  go_wp2_with fail
  refine (awake_any _).mono ?_
  rintro e w1 ⟨rfl, hb1⟩
  go_wp2_with fail
  refine (tcalls_any A len cap E (by omega) _ (SlE.step HS.out hb1)).mono ?_
  rintro e w2 ⟨v1, R1, rfl, m1, p1, i1, hb2⟩
  obtain ⟨A1, cap1, rfl⟩ := p1.n_
  have hB2 := step_below hb1 hb2
  obtain ⟨n, hn⟩ : ∃ n, R1.length = n := ⟨_, rfl⟩
  rw [hn] at p1 ⊢
  have hnl : n ≤ 400 := by
    have h1 := congrArg List.length m1
    have h2 := allC_len E len
    rw [List.length_map] at h1
    omega
  have HP : Hid (∀ i, i < n → _) := Lib.hid (p1.cv m1 i1)
  have HE : Hid (SlE w2 A len 8 (fun i => (E i).cells)) := Lib.hid (SlE.below HS.out (Nat.le_refl _) hB2)
  clear hn m1 p1 i1 hb2 hb1
  go_wp2
  go_loopw [4] (fun i wr => ∃ k q : Nat, k ≤ n ∧ i = .int .i64 (k : Int) ∧ wr = w2.drewN q) (fun i _ => n - (intOf i).toNat)
  case atStart => exact ⟨0, 0, Nat.zero_le _, rfl, rfl⟩
  case round =>
    obtain ⟨k, q, hk, rfl, rfl⟩ := hrel
    by_cases hlt : k < n
    · have hlt' : (k : Int) < (n : Int) := by omega
      have hk0 : (0 : Int) ≤ (k : Int) := by omega
      obtain ⟨b, off, c, I, d, rfl, hC, f1, f2, f3, f5, hI⟩ := HP.out k hlt
      have hcm : c ∈ allC E len := List.mem_of_getElem? hC
      obtain ⟨g1, g2, g3, gm, g4⟩ := apart_one E len c hcm
      have hil := allC_inner E len c hcm
      obtain ⟨m, hm⟩ : ∃ m, c.inner.length = m := ⟨_, rfl⟩
      rw [hm] at f5 hI hil
      have HM := Lib.hid hm
      have HC := Lib.hid hC
      have HG := Lib.hid g4
      have HI := Lib.hid hI
      have GM := Lib.hid gm
      clear gm
      clear hm hC g4 hcm hI
      go_wp2
      go_loopw [5] (fun i wq => ∃ k2 q : Nat, k2 ≤ m ∧ i = .int .i64 (k2 : Int) ∧ wq = w2.drewN q) (fun i _ => m - (intOf i).toNat)
      case atStart => exact ⟨0, q, Nat.zero_le _, rfl, rfl⟩
      case round =>
        obtain ⟨k2, q2, hk2, rfl, rfl⟩ := hrel
        by_cases hlt2 : k2 < m
        · have hlt2' : (k2 : Int) < (m : Int) := by omega
          have hk20 : (0 : Int) ≤ (k2 : Int) := by omega
          obtain ⟨p2, o2, rfl, u1⟩ := HI.out k2 hlt2
          obtain ⟨z1, z2, z3, z4⟩ := HG.out (c.inner.getD k2 0) (getD_mem (by have := HM.out; omega))
          obtain ⟨ba, oa, rfl, _, hca⟩ := HE.out (by omega)
          generalize c.inner.getD k2 0 = z at u1 z1 z2 z3 z4
          obtain ⟨za, rfl⟩ : ∃ za : Nat, z = (za : Int) := ⟨z.toNat, by omega⟩
          rw [Int.toNat_natCast] at z3
          have hzl : za < len := by omega
          have hz0 : (0 : Int) ≤ (za : Int) := by omega
          have y1 := hca za hzl 1 _ rfl
          rw [z3] at y1
          have d1 : decide ((za : Int) ≤ c.began) = false := by simp; omega
          have d2 : decide (len ≤ za) = false := by simp; omega
          have d5 : (c.who != c.who) = false := by simp
          by_cases he : 0 ≤ c.ended
          · have z5 := z4 he
            have d3 : decide (0 ≤ c.ended) = true := by simpa using he
            have d4 : decide (c.ended ≤ (za : Int)) = false := by simp; omega
            clear z3 z4 hca
            go_upto_region 11 with fail
            go_quiet (fail)
            go_wp2
            go_roundw
            case measure => simp [intOf]; omega
            case rel => exact ⟨k2 + 1, q2 + nq, by omega, by go_num, rfl⟩
          · have he' : c.ended = -1 := by have := GM.out; omega
            rw [he'] at f3
            clear he he' g3
            clear z3 z4 hca
            go_upto_region 11 with fail
            go_quiet (fail)
            go_wp2
            go_roundw
            case measure => simp [intOf]; omega
            case rel => exact ⟨k2 + 1, q2 + nq, by omega, by go_num, rfl⟩
        · obtain rfl : k2 = m := by omega
          have hmm : ¬ (k2 : Int) < (k2 : Int) := by omega
          go_wp2
          go_loopw [7] (fun i wq => ∃ k3 q : Nat, k3 ≤ k ∧ i = .int .i64 (k3 : Int) ∧ wq = w2.drewN q) (fun i _ => k - (intOf i).toNat)
          case atStart => exact ⟨0, q2, Nat.zero_le _, rfl, rfl⟩
          case round =>
            obtain ⟨k3, q3, hk3, rfl, rfl⟩ := hrel
            by_cases hlt3 : k3 < k
            · have hlt3' : (k3 : Int) < (k : Int) := by omega
              have hlt3n : k3 < n := by omega
              have hlt3n' : (k3 : Int) < (n : Int) := by omega
              have hk30 : (0 : Int) ≤ (k3 : Int) := by omega
              obtain ⟨b', off', c3, I3, d3, eb, hC3, j1, j2, j3, j5, hI3⟩ := HP.out k3 hlt3n
              simp only [Option.some.injEq, Addr.mk.injEq, and_true] at eb
              obtain ⟨rfl, rfl⟩ := eb
              have hil3 := allC_inner E len c3 (List.mem_of_getElem? hC3)
              have hap : c3.who = c.who → c3.ended < c.began ∧ ∀ z ∈ c3.inner, z < c.began := by
                have := List.pairwise_iff_getElem.1 (apart_two E len) k3 k (List.getElem?_eq_some_iff.1 hC3).1 (List.getElem?_eq_some_iff.1 HC.out).1 hlt3
                rw [(List.getElem?_eq_some_iff.1 hC3).2, (List.getElem?_eq_some_iff.1 HC.out).2] at this
                exact this
              by_cases hw : c3.who = c.who
              · obtain ⟨a1, a2⟩ := hap hw
                have e1 : (c3.who == c.who) = true := by simpa using hw
                have e2 : decide (c.began < c3.ended) = false := by simp; omega
                rcases Nat.eq_zero_or_pos c3.inner.length with h0 | hp
                · rw [h0] at j5
                  clear hap hw a2 hI3 hC3 h0
                  go_upto_region 16 with fail
                  go_quiet (fail)
                  go_wp2
                  go_roundw
                  case measure => simp [intOf]; omega
                  case rel => exact ⟨k3 + 1, q3 + nq, by omega, by go_num, rfl⟩
                · obtain ⟨m3, hm3⟩ : ∃ m3, c3.inner.length = m3 + 1 := ⟨c3.inner.length - 1, by omega⟩
                  rw [hm3] at j5 hI3 hil3
                  obtain ⟨p3, o3, rfl, u3⟩ := hI3 m3 (by omega)
                  have a3 := a2 (c3.inner.getD m3 0) (getD_mem (by omega))
                  generalize c3.inner.getD m3 0 = z at u3 a3
                  have e3 : decide (c.began < z) = false := by simp; omega
                  have e4' : (0 : Int) < (m3 : Int) + 1 := by omega
                  have e5 : IntKind.i64.wrap ((m3 : Int) + 1 - 1) = (m3 : Int) := by rw [IntWalk.i64_in _ (by omega)]; omega
                  have e6 : (m3 : Int) < (m3 : Int) + 1 := by omega
                  have e7 : (0 : Int) ≤ (m3 : Int) := by omega
                  clear hap hw a2 hI3 hC3 hm3 hp
                  go_upto_region 16 with fail
                  go_quiet (fail)
                  go_wp2
                  go_roundw
                  case measure => simp [intOf]; omega
                  case rel => exact ⟨k3 + 1, q3 + nq, by omega, by go_num, rfl⟩
              · have e1 : (c3.who == c.who) = false := by simpa using hw
                clear hap hw hI3 hC3
                go_upto_region 16 with fail
                go_quiet (fail)
                go_wp2
                go_roundw
                case measure => simp [intOf]; omega
                case rel => exact ⟨k3 + 1, q3 + nq, by omega, by go_num, rfl⟩
            · obtain rfl : k3 = k := by omega
              have hkk : ¬ (k3 : Int) < (k3 : Int) := by omega
              go_wp2
              go_roundw
              case measure => simp [intOf]; omega
              case rel => exact ⟨k3 + 1, q3, by omega, by go_num, rfl⟩
    · obtain rfl : k = n := by omega
      have hkk : ¬ (k : Int) < (k : Int) := by omega
      go_wp2
      go_ret
      exact ⟨rfl, hB2.grown (grew_drewN w2 q) hB2.size (fun r e => by cases e)⟩

set_option maxRecDepth 100000 in
theorem traceApart_lifted (os : Os) (started : os.Started) (H : Type) (enc : TypeId × Value → H) :
    ReturnsInHanded {} Try.checked os 5 .any (Rows.traceApartSpec.pre6 enc Try.prog Try.f5 Rows.traceApartRow.domain false) (Rows.traceApartSpec.post enc Try.prog Try.f5 false true false false) := by
  refine law_lifted started (by kernel_rfl) Try.func5
    (ChangeSpec.witness6 (enc := enc) (C := Try.checked) false ⟨#[], #[.slice none 0 0], []⟩ 8 (by kernel_rfl) (by kernel_rfl) (by kernel_rfl) (by kernel_rfl))
    4 rfl (by kernel_rfl) Try.underlying4 (fun ds h => ?_) (by kernel_rfl) ?_
  · rw [show Try.f5.params.size = 1 from by kernel_rfl] at h
    match ds, h with
    | [_], _ => rfl
  intro W base args ds p hval hA hlt hsz
  rw [Try.params5] at hA hval hsz
  obtain ⟨v0, d0, rfl, rfl, h0⟩ := trodAll_one hA
  obtain ⟨A, len, cap, E, rfl, hlc, hcm, hsl⟩ := open_evs (hval 0 22 v0 rfl rfl) h0 hlt
  by_cases h : len ≤ 400
  · exact traceApart_true A len cap E h W hsl
  · exact traceApart_long A len cap W (by omega) (by omega)

theorem traceApart_holds : Rows.TraceApartSaid :=
  OpenClaim.holds_of_wide 5 Try.f5 rfl rfl rfl rfl rfl rfl rfl ⟨rfl, rfl, rfl, rfl, rfl⟩ rfl rfl rfl rfl rfl (by kernel_rfl) Try.func5 (by kernel_rfl)
    (of_decide_eq_true (by kernel_rfl)) (by unfold Func.isWrapper; first | (rw [if_pos (by decide +kernel)]; kernel_rfl) | (rw [if_neg (by decide +kernel)]; exact ⟨rfl, rfl⟩))
    (fun os started H enc _ => traceApart_lifted os started H enc)
end Go.Proofs.Ytidedjjpaoagjaa
