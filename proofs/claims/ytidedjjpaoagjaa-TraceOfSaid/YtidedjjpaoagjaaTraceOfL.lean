/- A thread's events are told, each once, in order, with their places; who goes through them may stop. For every slice of events, every integer and every byte. -/
import Derived.Test.YtidedjjpaoagjaaTraceOutsL
import Derived.StillTailTactics
import Derived.RegionTactic
import Derived.BigRegion
namespace Go.Proofs.Ytidedjjpaoagjaa
open Go.ChangeShapes Go.WideShapes Go.ChangeAt Go.RowKit Go.Deep
set_option linter.unusedVariables false
set_option linter.unusedSimpArgs false

/-- Two worlds that differ in new blocks and in the blocks g and n alone. -/
structure Kp2 (g n : Nat) (W W' : World) : Prop where
  os : W'.os = W.os
  tape : W'.tape = W.tape
  output : W'.output = W.output
  size : W.heap.size ≤ W'.heap.size
  block : ∀ i, i < W.heap.size → i ≠ g → i ≠ n → W'.heap[i]? = W.heap[i]?
theorem Kp2.refl (g n : Nat) (W : World) : Kp2 g n W W := ⟨rfl, rfl, rfl, Nat.le_refl _, fun _ _ _ _ => rfl⟩
theorem Kp2.trans {g n : Nat} {A B C : World} (h : Kp2 g n A B) (k : Kp2 g n B C) : Kp2 g n A C :=
  ⟨k.os.trans h.os, k.tape.trans h.tape, k.output.trans h.output, Nat.le_trans h.size k.size, fun i hi h1 h2 => (k.block i (Nat.lt_of_lt_of_le hi h.size) h1 h2).trans (h.block i hi h1 h2)⟩
theorem Kp2.grown {g n : Nat} {A B C : World} {r : Option Nat} (h : Kp2 g n A B) (k : B.grownBy C r) (hr : ∀ i, r = some i → i = g ∨ i = n ∨ A.heap.size ≤ i) : Kp2 g n A C :=
  ⟨k.os.trans h.os, k.tape.trans h.tape, k.output.trans h.output, Nat.le_trans h.size k.size, fun i hi h1 h2 => (k.block i (Nat.lt_of_lt_of_le hi h.size) (fun e => by
    rcases hr i e.symm with h | h | h
    · exact h1 h
    · exact h2 h
    · omega)).trans (h.block i hi h1 h2)⟩
theorem Kp2.below {g n B : Nat} {w A C : World} (hb : Below B w A) (h : Kp2 g n A C) (hg : B ≤ g) (hn : B ≤ n) (hB : B ≤ w.heap.size) : Below B w C := by
  have h2 : Below B A C := ⟨h.os, h.tape, h.output, h.size, fun i hi => h.block i (by have := hb.size; omega) (by omega) (by omega)⟩
  exact hb.trans h2
theorem Kp2.cell {g n b o : Nat} {A C : World} (h : Kp2 g n A C) (hb : b < A.heap.size) (h1 : b ≠ g) (h2 : b ≠ n) : C.cell? ⟨b, o, none⟩ = A.cell? ⟨b, o, none⟩ :=
  World.cell?_of_block (w := A) (a := ⟨b, o, none⟩) (h.block b hb h1 h2)
theorem Kp2.blk {g n b : Nat} {t : TypeId} {cs : Array Value} {A C : World} (h : Kp2 g n A C) (hb : Blk A b t cs) (h1 : b ≠ g) (h2 : b ≠ n) : Blk C b t cs := (h.block b hb.lt h1 h2).trans hb

/-- The blocks that the loop's body captures. -/
structure Caps (W : World) (g n wd l s : Nat) (m s' : Nat) (Aw : Option Addr) (r cw : Nat) (A : Option Addr) (len cap : Nat) : Prop where
  hg : Blk W g 4 #[.bool true]
  hn : Blk W n 3 #[.int .i64 (m : Int)]
  hw : Blk W wd 24 #[.slice Aw r cw]
  hl : Blk W l 22 #[.slice A len cap]
  hs : Blk W s 5 #[.int .u8 (s' : Int)]
  d1 : g ≠ n
  d2 : g ≠ wd
  d3 : g ≠ l
  d4 : g ≠ s
  d5 : n ≠ wd
  d6 : n ≠ l
  d7 : n ≠ s

set_option maxRecDepth 100000 in
set_option maxHeartbeats 4000000 in
/-- The body, at an event that is the next one. -/
theorem body_any (g n wd l s m s' : Nat) (Aw : Option Addr) (r cw : Nat) (A : Option Addr) (len cap i : Nat) (x : Ev) (hm : m < r) (hr : r ≤ 1000) (hi : i < len) (hlen : len ≤ 1000) (hs' : s' ≤ 255) (W : World)
    (hC : Caps W g n wd l s m s' Aw r cw A len cap) (bw ow ba oa : Nat) (hAw : Aw = some ⟨bw, ow, none⟩) (hA : A = some ⟨ba, oa, none⟩) (hwc : W.cell? ⟨bw, ow + m, none⟩ = some (.int .i64 (i : Int)))
    (hac : ∀ j u, x.cells[j]? = some u → W.cell? ⟨ba, oa + i * 8 + j, none⟩ = some u) (hbw : bw < W.heap.size) (hba : ba < W.heap.size) :
    Calls Try.prog 11 #[.int .i64 (i : Int), x.val, .pointer (some ⟨g, 0, none⟩), .pointer (some ⟨n, 0, none⟩), .pointer (some ⟨wd, 0, none⟩), .pointer (some ⟨l, 0, none⟩), .pointer (some ⟨s, 0, none⟩)] W
      fun e W' => e = .returned (.bool (decide (m + 1 < s'))) ∧ Caps W' g n wd l s (m + 1) s' Aw r cw A len cap ∧ Kp2 g n W W' := by
  subst hAw hA
  obtain ⟨kd, wh, pc, ad, va, ol, kk, ok, v0, v1, k0, k1⟩ := x
  have hm' : (m : Int) < (r : Int) := by omega
  have hi' : (i : Int) < (len : Int) := by omega
  have hm0 : (0 : Int) ≤ (m : Int) := by omega
  have hi0 : (0 : Int) ≤ (i : Int) := by omega
  have HC := Lib.hid hC
  obtain ⟨xg, xn, xw, xl, xs, d1, d2, d3, d4, d5, d6, d7⟩ := hC
  have HK := Lib.hid (And.intro hwc hac)
  have lg := xg.lt
  have ln := xn.lt
  have lw := xw.lt
  have ll := xl.lt
  have ls := xs.lt
  have bX := Blk.new W 31 #[.int .i64 kd, .int .i64 wh, .int .i64 pc, .int .i64 ad, .int .u32 va, .int .u32 ol, .int .u32 kk, .bool ok]
  unfold Ev.val
  dsimp only
  have cg := (xg.alloc (.cells #[.int .i64 kd, .int .i64 wh, .int .i64 pc, .int .i64 ad, .int .u32 va, .int .u32 ol, .int .u32 kk, .bool ok] 31)).cell 0
  have cn := (xn.alloc (.cells #[.int .i64 kd, .int .i64 wh, .int .i64 pc, .int .i64 ad, .int .u32 va, .int .u32 ol, .int .u32 kk, .bool ok] 31)).cell 0
  have cw' := (xw.alloc (.cells #[.int .i64 kd, .int .i64 wh, .int .i64 pc, .int .i64 ad, .int .u32 va, .int .u32 ol, .int .u32 kk, .bool ok] 31)).cell 0
  have cl := (xl.alloc (.cells #[.int .i64 kd, .int .i64 wh, .int .i64 pc, .int .i64 ad, .int .u32 va, .int .u32 ol, .int .u32 kk, .bool ok] 31)).cell 0
  have cs := (xs.alloc (.cells #[.int .i64 kd, .int .i64 wh, .int .i64 pc, .int .i64 ad, .int .u32 va, .int .u32 ol, .int .u32 kk, .bool ok] 31)).cell 0
  have fg := (xg.alloc (.cells #[.int .i64 kd, .int .i64 wh, .int .i64 pc, .int .i64 ad, .int .u32 va, .int .u32 ol, .int .u32 kk, .bool ok] 31)).frozen 0
  have fn := (xn.alloc (.cells #[.int .i64 kd, .int .i64 wh, .int .i64 pc, .int .i64 ad, .int .u32 va, .int .u32 ol, .int .u32 kk, .bool ok] 31)).frozen 0
  have hal := (Below.refl W.heap.size W).alloc (Nat.le_refl _) (.cells #[.int .i64 kd, .int .i64 wh, .int .i64 pc, .int .i64 ad, .int .u32 va, .int .u32 ol, .int .u32 kk, .bool ok] 31)
  have cwm := keepAt hal hbw hwc
  have a0 := keepAt hal hba (hac 0 _ rfl)
  have a1 := keepAt hal hba (hac 1 _ rfl)
  have a2 := keepAt hal hba (hac 2 _ rfl)
  have a3 := keepAt hal hba (hac 3 _ rfl)
  have a4 := keepAt hal hba (hac 4 _ rfl)
  have a5 := keepAt hal hba (hac 5 _ rfl)
  have a6 := keepAt hal hba (hac 6 _ rfl)
  have a7 := keepAt hal hba (hac 7 _ rfl)
  rw [Nat.add_zero] at a0
  have x0 := bX.cell 0
  have x1 := bX.cell 1
  have x2 := bX.cell 2
  have x3 := bX.cell 3
  have x4 := bX.cell 4
  have x5 := bX.cell 5
  have x6 := bX.cell 6
  have x7 := bX.cell 7
  simp only [List.getElem?_toArray, List.getElem?_cons_zero, List.getElem?_cons_succ] at cg cn cw' cl cs x0 x1 x2 x3 x4 x5 x6 x7
  clear hwc hac hal HC
  obtain ⟨W1, hW1⟩ : ∃ W1, W.alloc (.cells #[.int .i64 kd, .int .i64 wh, .int .i64 pc, .int .i64 ad, .int .u32 va, .int .u32 ol, .int .u32 kk, .bool ok] 31) = W1 := ⟨_, rfl⟩
  rw [hW1] at cg cn cw' cl cs fg fn cwm a0 a1 a2 a3 a4 a5 a6 a7 x0 x1 x2 x3 x4 x5 x6 x7
  have HW1 := Lib.hid hW1
  go_enter Try.func11, Try.ntmps11
  go_wp2
  clear hW1
  go_region
  all_goals
    go_wp2
    go_ret
    obtain rfl := HW1.out
    refine ⟨by show Ending.returned (.bool (decide ((m : Int) + 1 < (s' : Int)))) = _; rw [show decide ((m : Int) + 1 < (s' : Int)) = decide (m + 1 < s') from decide_eq_decide.2 (by omega)], ⟨?_, ?_, ?_, ?_, ?_, d1, d2, d3, d4, d5, d6, d7⟩, ?_⟩
    · exact (((xg.alloc _).set_ 0 _).far d1 _).drew
    · have := (((xn.alloc (.cells #[.int .i64 kd, .int .i64 wh, .int .i64 pc, .int .i64 ad, .int .u32 va, .int .u32 ol, .int .u32 kk, .bool ok] 31)).far (p := ⟨g, 0, none⟩) (Ne.symm d1) (.bool true)).set_ 0 (.int .i64 ((m : Int) + 1))).drew
      exact this
    · exact (((xw.alloc _).far (Ne.symm d2) _).far (Ne.symm d5) _).drew
    · exact (((xl.alloc _).far (Ne.symm d3) _).far (Ne.symm d6) _).drew
    · exact (((xs.alloc _).far (Ne.symm d4) _).far (Ne.symm d7) _).drew
    · have h1 := (Kp2.refl g n W).grown (World.grownBy_alloc W (.cells #[.int .i64 kd, .int .i64 wh, .int .i64 pc, .int .i64 ad, .int .u32 va, .int .u32 ol, .int .u32 kk, .bool ok] 31) none) (fun i e => by cases e)
      have h2 := h1.grown (set_only (g := g) (j := 0) (.bool true)) (fun i e => .inl (Option.some.inj e).symm)
      have h3 := h2.grown (set_only (g := n) (j := 0) (.int .i64 ((m : Int) + 1))) (fun i e => .inr (.inl (Option.some.inj e).symm))
      exact ⟨h3.os, h3.tape, h3.output, h3.size, h3.block⟩

theorem evs_pre (E : Nat → Ev) (t : Int) (k : Nat) : ∀ d, ∃ rest, evs E t (k + d) = evs E t k ++ rest
  | 0 => ⟨[], by simp⟩
  | d + 1 => by
    obtain ⟨rest, h⟩ := evs_pre E t k d
    by_cases e : (E (k + d)).who = t
    · exact ⟨rest ++ [(k + d, E (k + d))], by rw [← Nat.add_assoc, evs_hit e, h, List.append_assoc]⟩
    · exact ⟨rest, by rw [← Nat.add_assoc, evs_miss e, h]⟩
theorem evs_at {E : Nat → Ev} {t : Int} {k len : Nat} (hk : k < len) (h : (E k).who = t) : (evs E t k).length < (evs E t len).length ∧ ((evs E t len).map fun x => (x.1 : Int)).getD (evs E t k).length 0 = (k : Int) := by
  obtain ⟨rest, hr⟩ := evs_pre E t (k + 1) (len - (k + 1))
  rw [show k + 1 + (len - (k + 1)) = len by omega, evs_hit h] at hr
  rw [hr]
  refine ⟨by simp only [List.length_append, List.length_cons]; omega, ?_⟩
  simp [List.getD_eq_getElem?_getD]

/-- How the going through ends. -/
def OfDone (E : Nat → Ev) (t : Int) (len : Nat) (g n wd l s s' : Nat) (Aw : Option Addr) (r cw : Nat) (A : Option Addr) (cap : Nat) (W : World) (e : Ending) (W' : World) : Prop :=
  (∃ v, e = .returned v) ∧ Caps W' g n wd l s (min r (max s' 1)) s' Aw r cw A len cap ∧ Kp2 g n W W'
theorem cap_end {c r s' : Nat} (h : c = 0 ∨ c < s') (hc : c = r) : c = min r (max s' 1) := by omega

set_option maxRecDepth 100000 in
set_option maxHeartbeats 4000000 in
theorem of1c_any (g n wd l s s' Bs Bt : Nat) (Aw : Option Addr) (r cw : Nat) (A : Option Addr) (len cap : Nat) (E : Nat → Ev) (t : Int) (hlen : len ≤ 400) (hs' : s' ≤ 255) (W : World)
    (hr : (evs E t len).length = r) (hC : Caps W g n wd l s 0 s' Aw r cw A len cap) (hBs : Blk W Bs 22 #[.slice A len cap]) (hBt : Blk W Bt 3 #[.int .i64 t]) (hBs1 : Bs ≠ g) (hBs2 : Bs ≠ n) (hBt1 : Bt ≠ g) (hBt2 : Bt ≠ n)
    (hA : SlE W A len 8 (fun i => (E i).cells)) (hAn : ∀ b o, 0 < len → A = some ⟨b, o, none⟩ → b ≠ g ∧ b ≠ n) (hW : Sl W Aw r (fun i => .int .i64 (((evs E t len).map fun x => (x.1 : Int)).getD i 0))) (hWn : ∀ b o, 0 < r → Aw = some ⟨b, o, none⟩ → b ≠ g ∧ b ≠ n) :
    Calls Try.prog 19 #[.func (.func 11) #[] #[.pointer (some ⟨g, 0, none⟩), .pointer (some ⟨n, 0, none⟩), .pointer (some ⟨wd, 0, none⟩), .pointer (some ⟨l, 0, none⟩), .pointer (some ⟨s, 0, none⟩)], .pointer (some ⟨Bs, 0, none⟩), .pointer (some ⟨Bt, 0, none⟩)] W
      (OfDone E t len g n wd l s s' Aw r cw A cap W) := by
  have HR := Lib.hid hr
  have HA := Lib.hid (And.intro hA (And.intro hAn (And.intro hW hWn)))
  have hrl : r ≤ 400 := by have := evs_len E t len; omega
  have s0 := hBs.cell 0
  simp only [List.getElem?_toArray, List.getElem?_cons_zero] at s0
  clear hA hAn hW hWn hr
  go_enter Try.func19, Try.ntmps19
  go_wp2
  go_loopw [8] (fun i wr => ∃ k c : Nat, k ≤ len ∧ i = .int .i64 (k : Int) ∧ (evs E t k).length = c ∧ (c = 0 ∨ c < s') ∧ Caps wr g n wd l s c s' Aw r cw A len cap ∧ Kp2 g n W wr) (fun i _ => len - (intOf i).toNat)
  case atStart => exact ⟨0, 0, Nat.zero_le _, rfl, rfl, .inl rfl, hC, Kp2.refl _ _ _⟩
  case round =>
    obtain ⟨k, c, hk, rfl, hc, hcs, hCr, hK⟩ := hrel
    have HC := Lib.hid (And.intro hc (And.intro hcs hCr))
    clear hc hcs hCr
    by_cases hlt : k < len
    · obtain ⟨b, off, rfl, hbb, hcc⟩ := HA.out.1 (by omega)
      obtain ⟨hb1, hb2⟩ := HA.out.2.1 b off (by omega) rfl
      have hlt' : (k : Int) < (len : Int) := by omega
      have hk0 : (0 : Int) ≤ (k : Int) := by omega
      have hcx : ∀ j u, (E k).cells[j]? = some u → wr.cell? ⟨b, off + k * 8 + j, none⟩ = some u := fun j u hu => (hK.cell hbb hb1 hb2).trans (hcc k hlt j u hu)
      have htx : Blk wr Bt 3 #[.int .i64 t] := hK.blk hBt hBt1 hBt2
      have hbw : b < wr.heap.size := Nat.lt_of_lt_of_le hbb hK.size
      obtain ⟨x, hx⟩ : ∃ x, E k = x := ⟨_, rfl⟩
      rw [hx] at hcx
      have c0 := hcx 0 _ rfl
      have c1 := hcx 1 _ rfl
      have c2 := hcx 2 _ rfl
      have c3 := hcx 3 _ rfl
      have c4 := hcx 4 _ rfl
      have c5 := hcx 5 _ rfl
      have c6 := hcx 6 _ rfl
      have c7 := hcx 7 _ rfl
      rw [Nat.add_zero] at c0
      have HX := Lib.hid (And.intro hx hcx)
      clear hcx hx hcc
      have htz : (wr.alloc (.cells #[.int .i64 x.kind, .int .i64 x.who, .int .i64 x.pc, .int .i64 x.addr, .int .u32 x.value, .int .u32 x.old, .int .u32 x.k, .bool x.ok] 31)).cell? ⟨Bt, 0, none⟩ = some (.int .i64 t) := ((htx.alloc _).cell 0).trans rfl
      have hal := (Below.refl wr.heap.size wr).alloc (Nat.le_refl _) (.cells #[.int .i64 x.kind, .int .i64 x.who, .int .i64 x.pc, .int .i64 x.addr, .int .u32 x.value, .int .u32 x.old, .int .u32 x.k, .bool x.ok] 31)
      have hKa := hK.grown (World.grownBy_alloc wr (.cells #[.int .i64 x.kind, .int .i64 x.who, .int .i64 x.pc, .int .i64 x.addr, .int .u32 x.value, .int .u32 x.old, .int .u32 x.k, .bool x.ok] 31) none) (fun i e => by cases e)
      have hCa : Hid (Caps (wr.alloc (.cells #[.int .i64 x.kind, .int .i64 x.who, .int .i64 x.pc, .int .i64 x.addr, .int .u32 x.value, .int .u32 x.old, .int .u32 x.k, .bool x.ok] 31)) g n wd l s c s' Aw r cw (some ⟨b, off, none⟩) len cap) := Lib.hid (by
        obtain ⟨y1, y2, y3, y4, y5, y6, y7, y8, y9, y10, y11, y12⟩ := HC.out.2.2
        exact ⟨y1.alloc _, y2.alloc _, y3.alloc _, y4.alloc _, y5.alloc _, y6, y7, y8, y9, y10, y11, y12⟩)
      by_cases hw : x.who = t
      · have hwb : (x.who == t) = true := by simpa using hw
        have hat := evs_at (E := E) (t := t) hlt (by rw [HX.out.1]; exact hw)
        rw [HC.out.1, HR.out] at hat
        obtain ⟨hat1, hat2⟩ := hat
        have hsn : (evs E t (k + 1)).length = c + 1 := by rw [evs_hit (by rw [HX.out.1]; exact hw), List.length_append, HC.out.1]; rfl
        obtain ⟨bw, ow, rfl, hbw2, hwc⟩ := HA.out.2.2.1 (by omega)
        obtain ⟨hw1, hw2⟩ := HA.out.2.2.2 bw ow (by omega) rfl
        have hwk := hwc c hat1
        dsimp only at hwk
        rw [hat2] at hwk
        have hb3 : bw < wr.heap.size := Nat.lt_of_lt_of_le hbw2 hK.size
        have hwk2 := keepAt hal hb3 ((hK.cell hbw2 hw1 hw2).trans hwk)
        have cBody := body_any g n wd l s c s' (some ⟨bw, ow, none⟩) r cw (some ⟨b, off, none⟩) len cap k x hat1 (by omega) hlt (by omega) hs' _ hCa.out bw ow b off rfl rfl hwk2 (fun j u hu => keepAt hal hbw (HX.out.2 j u hu)) (Nat.lt_of_lt_of_le hb3 hal.size) (Nat.lt_of_lt_of_le hbw hal.size)
        have HW := Lib.hid (And.intro hw (And.intro hat2 (And.intro hsn (And.intro hwk hwk2))))
        clear hw hat2 hsn hwk hwk2 hwc
        unfold Ev.val at cBody
        go_wp2_with fail
        refine cBody.mono ?_
        rintro e W3 ⟨rfl, hC3, hK3⟩
        clear cBody
        by_cases hgo : c + 1 < s'
        · have hgb : decide (c + 1 < s') = true := by simpa using hgo
          go_wp2
          go_roundw
          case rel => exact ⟨k + 1, c + 1, by omega, by go_num, HW.out.2.2.1, .inr hgo, hC3, hKa.trans hK3⟩
          case measure => simp [intOf]; omega
        · have hgb : decide (c + 1 < s') = false := by simpa using hgo
          have hmm : c + 1 = min r (max s' 1) := by have := HC.out.2.1; omega
          have HM := Lib.hid hmm
          clear hmm
          go_wp2
          refine bodyPost_ret (results_none rfl _ _ _) rfl ?_
          exact ⟨⟨_, rfl⟩, by rw [← HM.out]; exact hC3, hKa.trans hK3⟩
      · have hwb : (x.who == t) = false := by simpa using hw
        have HW := Lib.hid hw
        clear hw
        go_wp2
        go_roundw
        case rel => exact ⟨k + 1, c, by omega, by go_num, by rw [evs_miss (by rw [HX.out.1]; exact HW.out)]; exact HC.out.1, HC.out.2.1, hCa.out, hKa⟩
        case measure => simp [intOf]; omega
    · obtain rfl : k = len := by omega
      have hlt' : ¬ (k : Int) < (k : Int) := by omega
      obtain rfl : c = r := HC.out.1.symm.trans HR.out
      have hmm := cap_end HC.out.2.1 rfl
      have HM := Lib.hid (And.intro hmm HC.out.2.2)
      clear hmm
      go_wp2
      go_end0
      exact ⟨⟨_, rfl⟩, by rw [← HM.out.1]; exact HM.out.2, hK⟩


theorem int_row_info : (Try.prog.info? 3).map (fun i => (i.zero, i.size, i.bytes)) = some (some (.int .i64 0), 1, 8) := by kernel_rfl
def posL (E : Nat → Ev) (t : Int) (k : Nat) : List Int := (evs E t k).map fun x => (x.1 : Int)
theorem posL_len (E : Nat → Ev) (t : Int) (k : Nat) : (posL E t k).length ≤ k := by unfold posL; rw [List.length_map]; exact evs_len E t k
/-- What holds between two rounds of the document's Of. -/
structure PI (E : Nat → Ev) (t : Int) (w W : World) (k : Nat) (v : Value) : Prop where
  row : W.ownsRow w.heap.size 3 1 v (posL E t k).length ((posL E t k).map (Value.int .i64))
  below : Below w.heap.size w W
theorem PI.miss {E : Nat → Ev} {t : Int} {w W : World} {k : Nat} {v : Value} (h : PI E t w W k v) (hf : (E k).who ≠ t) : PI E t w W (k + 1) v := ⟨by unfold posL; rw [evs_miss hf]; exact h.row, h.below⟩
theorem PI.hit {E : Nat → Ev} {t : Int} {w W W' : World} {k : Nat} {v v' : Value} (h : PI E t w W k v) (hf : (E k).who = t) {o : Obj} (hg : (W.alloc o).grownBy W' v.ownBlock)
    (hown : W'.ownsRow w.heap.size 3 1 v' ((posL E t k).length + 1) ((posL E t k).map (Value.int .i64) ++ [.int .i64 (k : Int)])) : PI E t w W' (k + 1) v' :=
  ⟨by unfold posL at hown ⊢; rw [evs_hit hf, List.map_append, List.length_append, List.map_append]; exact hown, below_own (h.below.alloc h.below.size _) (h.row.alloc _) hg (Nat.le_refl _) (Nat.le_refl _)⟩
def PEnd (E : Nat → Ev) (t : Int) (len : Nat) (w : World) (e : Ending) (W' : World) : Prop :=
  ∃ v, e = .returned v ∧ W'.ownsRow w.heap.size 3 1 v (posL E t len).length ((posL E t len).map (Value.int .i64)) ∧ Below w.heap.size w W'

set_option maxHeartbeats 4000000 in
theorem refOf_any (A : Option Addr) (len cap : Nat) (E : Nat → Ev) (t : Int) (hl : len ≤ 100000) (w : World) (hs : SlE w A len 8 (fun i => (E i).cells)) :
    Calls Try.prog 9 #[.slice A len cap, .int .i64 t] w (PEnd E t len w) := by
  obtain ⟨i0, hi, hz0, hz1, hz2⟩ := info_parts int_row_info
  have HS := Lib.hid hs
  clear hs
  go_enter Try.func9, Try.ntmps9
  go_wp2
  go_loopw [5, 6] (fun v i wr => ∃ k : Nat, k ≤ len ∧ i = .int .i64 (k : Int) ∧ PI E t w wr k v) (fun _ i _ => len - (intOf i).toNat)
  case atStart => exact ⟨0, Nat.zero_le _, rfl, World.ownsRow_nil _ _ _ _, Below.refl _ _⟩
  case round =>
    obtain ⟨k, hk, rfl, hI⟩ := hrel
    by_cases hlt : k < len
    · obtain ⟨b, off, rfl, hbb, hcc⟩ := HS.out (by omega)
      have hlt' : (k : Int) < (len : Int) := by omega
      have hk0 : (0 : Int) ≤ (k : Int) := by omega
      have c1 := keepAt hI.below hbb (hcc k hlt 1 _ rfl)
      obtain ⟨wh, hwh⟩ : ∃ wh, (E k).who = wh := ⟨_, rfl⟩
      rw [hwh] at c1
      obtain ⟨m, hm⟩ : ∃ m, (posL E t k).length = m := ⟨_, rfl⟩
      have hol := posL_len E t k
      have hrow := hI.row
      have hsz := hI.below.size
      rw [hm] at hrow hol
      have HX := Lib.hid (And.intro hwh (And.intro hm hI))
      clear hwh hm hI hcc
      by_cases hw : wh = t
      · have hwb : (wh == t) = true := by simpa using hw
        have HW := Lib.hid hw
        clear hw
        go_wp2_with (at_builtin; go_must (refine wpList_append_own_at _ rfl (.tmp 20) (.tmp 22) 24 rfl w.heap.size 3 i0 _ 1 8 Try.underlying24 hi hz0 hz1 hz2 rfl (by decide) _ _ _ rfl (hrow.alloc _) ⟨wr.heap.size, 0, none⟩ 1 1 [.int .i64 (k : Int)] rfl rfl (cell_one_new _ _ _) (by simp [Value.oneCell']) (by unfold maxLen; omega) (by omega) (Nat.le_trans hsz (by simp)) ?_; intro v' w5 own5 hg5 _ hnew))
        obtain ⟨hx, hm, hI⟩ := HX.out
        rw [← hm] at own5
        have hI5 := hI.hit (by rw [hx]; exact HW.out) hg5 own5
        go_roundw
        case measure => simp [intOf]; omega
        case rel => exact ⟨k + 1, by omega, by go_num, hI5⟩
      · have hwb : (wh == t) = false := by simpa using hw
        have HW := Lib.hid hw
        clear hw
        have hI5 := HX.out.2.2.miss (by rw [HX.out.1]; exact HW.out)
        have HI5 := Lib.hid hI5
        clear hI5 hrow
        go_wp2
        go_roundw
        case measure => simp [intOf]; omega
        case rel => exact ⟨k + 1, by omega, by go_num, HI5.out⟩
    · obtain rfl : k = len := by omega
      have hlt' : ¬ (k : Int) < (k : Int) := by omega
      go_wp2
      go_ret
      exact ⟨_, rfl, hI.row, hI.below⟩

theorem of_any (A : Option Addr) (len cap : Nat) (t : Int) (w : World) : Calls Try.prog 10 #[.slice A len cap, .int .i64 t] w fun e w' => e = .returned (.func (.func 19) #[] #[.pointer (some ⟨w.heap.size, 0, none⟩), .pointer (some ⟨w.heap.size + 1, 0, none⟩)]) ∧
      w' = (w.alloc (.cells #[.slice A len cap] 22)).alloc (.cells #[.int .i64 t] 3) :=
  (callsIn_wide (n := 3)).1 (of_in Fence.wide 3 trivial rfl A len cap t w)

/-- The two boxes at the law's head. -/
theorem boxes (A : Option Addr) (len cap : Nat) (s : Int) (w w1 : World) (h : Below ((w.alloc (.cells #[.slice A len cap] 22)).alloc (.cells #[.int .u8 s] 5)).heap.size ((w.alloc (.cells #[.slice A len cap] 22)).alloc (.cells #[.int .u8 s] 5)) w1) :
    Blk w1 w.heap.size 22 #[.slice A len cap] ∧ Blk w1 (w.heap.size + 1) 5 #[.int .u8 s] ∧ Below w.heap.size w w1 := by
  have h0 := ((Below.refl w.heap.size w).alloc (Nat.le_refl _) (.cells #[.slice A len cap] 22)).alloc (by simp) (.cells #[.int .u8 s] 5)
  exact ⟨((Blk.new w 22 #[.slice A len cap]).alloc (.cells #[.int .u8 s] 5)).below h ((Blk.new w 22 #[.slice A len cap]).alloc (.cells #[.int .u8 s] 5)).lt, (Blk.new2 w (.cells #[.slice A len cap] 22) 5 #[.int .u8 s]).below h (Blk.new2 w (.cells #[.slice A len cap] 22) 5 #[.int .u8 s]).lt, step_below h0 h⟩
theorem traceOf_long (A : Option Addr) (len cap : Nat) (a : Value) (s : Int) (w : World) (hl : 400 < len) (hm : len ≤ maxLen) :
    Calls Try.prog 3 #[.slice A len cap, a, .int .u8 s] w fun e w' => e = .returned (.bool true) ∧ Below w.heap.size w w' := by
  unfold maxLen at hm
  have hl' : (400 : Int) < (len : Int) := by omega
  go_enter Try.func3, Try.ntmps3
  go_wp2_with fail
  refine (awake_any _).mono ?_
  rintro e w1 ⟨rfl, hb1⟩
  obtain ⟨b3, b5, hB1⟩ := boxes A len cap s w w1 hb1
  have c3 := b3.cell 0
  simp only [List.getElem?_toArray, List.getElem?_cons_zero] at c3
  clear b3 b5 hb1
  go_wp2_with fail
  refine (awake_any _).mono ?_
  rintro e w2 ⟨rfl, hb2⟩
  go_wp2
  go_ret
  exact ⟨rfl, step_below hB1 hb2⟩

set_option maxRecDepth 100000 in
set_option maxHeartbeats 8000000 in
theorem traceOf_true (A : Option Addr) (len cap : Nat) (E : Nat → Ev) (t : Int) (s' : Nat) (hl : len ≤ 400) (hs' : s' ≤ 255) (w : World) (hs : SlE w A len 8 (fun i => (E i).cells)) :
    Calls Try.prog 3 #[.slice A len cap, .int .i64 t, .int .u8 (s' : Int)] w fun e w' => e = .returned (.bool true) ∧ Below w.heap.size w w' := by
  have hl' : ¬ (400 : Int) < (len : Int) := by omega
  have HS := Lib.hid hs
  clear hs
  go_enter Try.func3, Try.ntmps3
  go_wp2_with fail
  refine (awake_any _).mono ?_
  rintro e w1 ⟨rfl, hb1⟩
  obtain ⟨b3, b5, hB1⟩ := boxes A len cap (s' : Int) w w1 hb1
  have c3 := b3.cell 0
  simp only [List.getElem?_toArray, List.getElem?_cons_zero] at c3
  clear hb1
  go_wp2_with fail
  refine (refOf_any A len cap E t (by omega) _ (HS.out.below (Nat.le_refl _) hB1)).mono ?_
  rintro e w2 ⟨v2, rfl, own2, hb2⟩
  obtain ⟨Aw, cw, rfl, hcw, sw⟩ := own_sl own2
  rw [Nat.mul_one] at sw
  have pl := posL_len E t len
  obtain ⟨r, hr⟩ : ∃ r, (posL E t len).length = r := ⟨_, rfl⟩
  have HR := Lib.hid hr
  have sw' := sw.congr (D := fun i => .int .i64 ((posL E t len).getD i 0)) (fun i hi => by simp [List.getD_eq_getElem?_getD, List.getElem?_eq_getElem hi])
  rw [hr] at sw' hcw pl ⊢
  have b3' := b3.below hb2 b3.lt
  have b5' := b5.below hb2 b5.lt
  have HSW := Lib.hid sw'
  have hB2 := step_below hB1 hb2
  clear hr sw sw' own2 hb2 c3 b3 b5 hB1
  have hB5 := ((hB2.alloc hB2.size (.cells #[.slice Aw r cw] 24)).alloc (by have := hB2.size; simp; omega) (.cells #[.int .i64 0] 3)).alloc (by have := hB2.size; simp; omega) (.cells #[.bool true] 4)
  have hb25 := (((Below.refl w2.heap.size w2).alloc (Nat.le_refl _) (.cells #[.slice Aw r cw] 24)).alloc (by simp) (.cells #[.int .i64 0] 3)).alloc (by simp; omega) (.cells #[.bool true] 4)
  have hsz5 : (((w2.alloc (.cells #[.slice Aw r cw] 24)).alloc (.cells #[.int .i64 0] 3)).alloc (.cells #[.bool true] 4)).heap.size = w2.heap.size + 3 := by simp
  have l3 : w.heap.size < w2.heap.size := b3'.lt
  have l5 : w.heap.size + 1 < w2.heap.size := b5'.lt
  have b3 := b3'.below hb25 l3
  have b5 := b5'.below hb25 l5
  have bw := ((Blk.new w2 24 #[.slice Aw r cw]).alloc (.cells #[.int .i64 0] 3)).alloc (.cells #[.bool true] 4)
  have bn := (Blk.new2 w2 (.cells #[.slice Aw r cw] 24) 3 #[.int .i64 0]).alloc (.cells #[.bool true] 4)
  have bg := Blk.new2 (w2.alloc (.cells #[.slice Aw r cw] 24)) (.cells #[.int .i64 0] 3) 4 #[.bool true]
  rw [World.size_alloc] at bg
  have hsA := Lib.hid (HS.out.below (Nat.le_refl _) hB5)
  have hsW := Lib.hid (HSW.out.below (Nat.le_refl _) hb25)
  obtain ⟨W5, hW5⟩ : ∃ W5, ((w2.alloc (.cells #[.slice Aw r cw] 24)).alloc (.cells #[.int .i64 0] 3)).alloc (.cells #[.bool true] 4) = W5 := ⟨_, rfl⟩
  rw [hW5] at hB5 hb25 hsz5 b3 b5 bw bn bg hsA hsW
  have HW5 := Lib.hid hW5
  have hge5 : w2.heap.size + 3 ≤ W5.heap.size := by omega
  clear hsz5
  have c3 := b3.cell 0
  simp only [List.getElem?_toArray, List.getElem?_cons_zero] at c3
  go_wp2_with fail
  clear hW5
  refine (of_any A len cap t W5).mono ?_
  rintro e w7 ⟨rfl, rfl⟩
  have b3' := (b3.alloc (.cells #[.slice A len cap] 22)).alloc (.cells #[.int .i64 t] 3)
  have b5' := (b5.alloc (.cells #[.slice A len cap] 22)).alloc (.cells #[.int .i64 t] 3)
  have bw' := (bw.alloc (.cells #[.slice A len cap] 22)).alloc (.cells #[.int .i64 t] 3)
  have bn' := (bn.alloc (.cells #[.slice A len cap] 22)).alloc (.cells #[.int .i64 t] 3)
  have bg' := (bg.alloc (.cells #[.slice A len cap] 22)).alloc (.cells #[.int .i64 t] 3)
  have bs := (Blk.new W5 22 #[.slice A len cap]).alloc (.cells #[.int .i64 t] 3)
  have bt := Blk.new2 W5 (.cells #[.slice A len cap] 22) 3 #[.int .i64 t]
  have hB7 := (hB5.alloc hB5.size (.cells #[.slice A len cap] 22)).alloc (by have := hB5.size; simp; omega) (.cells #[.int .i64 t] 3)
  have hb57 := ((Below.refl W5.heap.size W5).alloc (Nat.le_refl _) (.cells #[.slice A len cap] 22)).alloc (by simp) (.cells #[.int .i64 t] 3)
  have hsA7 := Lib.hid (hsA.out.step hb57)
  have hsW7 := Lib.hid (hsW.out.step hb57)
  have hAn : ∀ b o, 0 < len → A = some ⟨b, o, none⟩ → b ≠ w2.heap.size + 1 + 1 ∧ b ≠ w2.heap.size + 1 := fun b o hp e => by
    obtain ⟨b', o', e', hlt, _⟩ := HS.out hp
    rw [e] at e'
    injection e' with e'
    injection e' with e1 _
    omega
  have hWn : ∀ b o, 0 < r → Aw = some ⟨b, o, none⟩ → b ≠ w2.heap.size + 1 + 1 ∧ b ≠ w2.heap.size + 1 := fun b o hp e => by
    obtain ⟨b', o', e', hlt, _⟩ := HSW.out hp
    rw [e] at e'
    injection e' with e'
    injection e' with e1 _
    omega
  have HRL : (evs E t len).length = r := by have := HR.out; unfold posL at this; rwa [List.length_map] at this
  have cO := of1c_any (w2.heap.size + 1 + 1) (w2.heap.size + 1) w2.heap.size w.heap.size (w.heap.size + 1) s' W5.heap.size (W5.heap.size + 1) Aw r cw A len cap E t hl hs' _ HRL
    ⟨bg', bn', bw', b3', b5', by omega, by omega, by omega, by omega, by omega, by omega, by omega⟩ bs bt (by omega) (by omega) (by omega) (by omega) hsA7.out hAn hsW7.out hWn
  clear hAn hWn HRL bg' bn' bw' b3' b5' bs bt bg bn bw b3 b5 c3 hb57 hb25 hB5
  go_wp2_with fail
  refine cO.mono ?_
  rintro e w8 ⟨⟨ve, rfl⟩, hC8, hK8⟩
  have hB8 := Kp2.below hB7 hK8 (by omega) (by omega) (Nat.le_refl _)
  clear cO
  have cg := hC8.hg.cell 0
  have cn := hC8.hn.cell 0
  have cw8 := hC8.hw.cell 0
  have cs8 := hC8.hs.cell 0
  simp only [List.getElem?_toArray, List.getElem?_cons_zero] at cg cn cw8 cs8
  clear hC8 hK8 hB7 hsA7 hsW7
  go_wp2_with fail
  all_goals
    go_ret
    refine ⟨?_, hB8⟩
    clear HR HSW hB2 hsW hsA HW5 hB8 cg cn cw8 cs8 HS b3' b5'
    simp only [Array.getD_eq_getD_getElem?, List.getElem?_toArray, List.getElem?_cons_zero, List.getElem?_cons_succ, Option.getD_some]
    rw [show ∀ a b : Int, (a == b) = decide (a = b) from fun a b => rfl]
    refine congrArg (fun b => Ending.returned (Value.bool b)) (decide_eq_true ?_)
    split at * <;> omega

set_option maxRecDepth 100000 in
theorem traceOf_lifted (os : Os) (started : os.Started) (H : Type) (enc : TypeId × Value → H) :
    ReturnsInHanded {} Try.checked os 3 .any (Rows.traceOfSpec.pre6 enc Try.prog Try.f3 Rows.traceOfRow.domain false) (Rows.traceOfSpec.post enc Try.prog Try.f3 false true false false) := by
  refine law_lifted started (by kernel_rfl) Try.func3
    (ChangeSpec.witness6 (enc := enc) (C := Try.checked) false ⟨#[], #[.slice none 0 0, .int .i64 0, .int .u8 0], []⟩ 8 (by kernel_rfl) (by kernel_rfl) (by kernel_rfl) (by kernel_rfl))
    4 rfl (by kernel_rfl) Try.underlying4 (fun ds h => ?_) (by kernel_rfl) ?_
  · rw [show Try.f3.params.size = 3 from by kernel_rfl] at h
    match ds, h with
    | [_, _, _], _ => rfl
  intro W base args ds p hval hA hlt hsz
  rw [Try.params3] at hA hval hsz
  obtain ⟨v0, v1, v2, d0, d1, d2, p0, p1, p2, rfl, rfl, rfl, h0, h1, h2⟩ := trodAll_three hA
  obtain ⟨A, len, cap, E, rfl, hlc, hcm, hsl⟩ := open_evs (hval 0 22 v0 rfl rfl) h0 (fun x hx => hlt x (by simp [hx]))
  obtain ⟨t, rfl, rfl, rfl, ts⟩ := open_int Try.underlying3 (hval 1 3 v1 rfl rfl) h1
  obtain ⟨s, rfl, rfl, rfl, ss⟩ := open_int Try.underlying5 (hval 2 5 v2 rfl rfl) h2
  have hsb := bounds_u8 ss
  by_cases h : len ≤ 400
  · obtain ⟨s', rfl⟩ : ∃ s' : Nat, s = (s' : Int) := ⟨s.toNat, by omega⟩
    exact traceOf_true A len cap E t s' h (by omega) W hsl
  · exact traceOf_long A len cap _ _ W (by omega) (by omega)

theorem traceOf_holds : Rows.TraceOfSaid :=
  OpenClaim.holds_of_wide 3 Try.f3 rfl rfl rfl rfl rfl rfl rfl ⟨rfl, rfl, rfl, rfl, rfl⟩ rfl rfl rfl rfl rfl (by kernel_rfl) Try.func3 (by kernel_rfl)
    (of_decide_eq_true (by kernel_rfl)) (by unfold Func.isWrapper; first | (rw [if_pos (by decide +kernel)]; kernel_rfl) | (rw [if_neg (by decide +kernel)]; exact ⟨rfl, rfl⟩))
    (fun os started H enc _ => traceOf_lifted os started H enc)
end Go.Proofs.Ytidedjjpaoagjaa
