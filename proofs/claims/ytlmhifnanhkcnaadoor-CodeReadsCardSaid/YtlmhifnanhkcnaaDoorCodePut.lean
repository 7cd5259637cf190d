/- The contracts of code.word, code.Put and the reference's Put: an instruction's bytes. -/
import Derived.Test.YtlmhifnanhkcnaaDoorMem
import Derived.Deep.RegionHeld3
import Derived.Deep.AppendLies
namespace Go.Proofs.YtlmhifnanhkcnaaDoor
open Go.RowKit
set_option linter.unusedVariables false

/-- A byte of a word: the number divided, modulo 256. -/
theorem word_any (n : Int) (h0 : 0 ≤ n) (h1 : n ≤ 4294967295) (w : World) :
    Calls Tryd.prog 35 #[.int .u32 n] w fun e w' => e = .returned (.slice (some ⟨w.heap.size, 0, none⟩) 4 4) ∧
      w.alloc (.cells #[.int .u8 (n % 256), .int .u8 (n / 256 % 256), .int .u8 (n / 65536 % 256), .int .u8 (n / 16777216)] 5) = w' := by
  go_enter Tryd.func35, Tryd.ntmps35
  go_wp2
  go_ret
  exact ⟨rfl, rfl⟩

/-- The bytes of an instruction. -/
def instrBytes (o a b c k : Int) : List Int := [o, a, b, c, k % 256, k / 256 % 256, k / 65536 % 256, k / 16777216]
def inByte (x : Int) : Prop := 0 ≤ x ∧ x ≤ 255

theorem refPut_any (o a b c k : Int) (ho : inByte o) (ha : inByte a) (hb : inByte b) (hc : inByte c) (h0 : 0 ≤ k) (h1 : k ≤ 4294967295) (w : World) :
    Calls Tryd.prog 36 #[.agg #[.int .i64 o, .int .i64 a, .int .i64 b, .int .i64 c, .int .u32 k]] w fun e w' => e = .returned (.slice (some ⟨w.heap.size + 1, 0, none⟩) 8 8) ∧
      (w.alloc (.cells #[.int .i64 o, .int .i64 a, .int .i64 b, .int .i64 c, .int .u32 k] 24)).alloc (.cells ((instrBytes o a b c k).map (Value.int .u8)).toArray 5) = w' := by
  unfold inByte at ho ha hb hc
  go_enter Tryd.func36, Tryd.ntmps36
  go_wp2
  go_ret
  exact ⟨rfl, rfl⟩

theorem put_no (o a b c k : Int) (hno : ¬ (inByte o ∧ inByte a ∧ inByte b ∧ inByte c)) (w : World) :
    Calls Tryd.prog 33 #[.agg #[.int .i64 o, .int .i64 a, .int .i64 b, .int .i64 c, .int .u32 k]] w fun e w' => e = .returned (.tuple #[.slice none 0 0, .int .i64 1]) ∧ Below w.heap.size w w' := by
  unfold inByte at hno
  go_enter Tryd.func33, Tryd.ntmps33
  go_wp2
  go_loop [16] (fun v => ∃ j : Nat, v = .int .i64 j ∧ j ≤ 4 ∧ (0 < j → 0 ≤ o ∧ o ≤ 255) ∧ (1 < j → 0 ≤ a ∧ a ≤ 255) ∧ (2 < j → 0 ≤ b ∧ b ≤ 255) ∧ (3 < j → 0 ≤ c ∧ c ≤ 255)) (fun v => 4 - (intOf v).toNat)
  case atStart => exact ⟨0, rfl, by omega, by omega, by omega, by omega, by omega⟩
  case round =>
    obtain ⟨j, rfl, hj, q0, q1, q2, q3⟩ := hrel
    rcases (by omega : j = 0 ∨ j = 1 ∨ j = 2 ∨ j = 3 ∨ j = 4) with rfl | rfl | rfl | rfl | rfl
    case inr.inr.inr.inr => exact absurd ⟨q0 (by omega), q1 (by omega), q2 (by omega), q3 (by omega)⟩ hno
    all_goals
      clear hno
      go_wp2
      all_goals first
        | (refine ⟨⟨1, rfl, ?_, ?_, ?_, ?_, ?_⟩, ?_⟩ <;> first | omega | (simp [intOf]; done))
        | (refine ⟨⟨2, rfl, ?_, ?_, ?_, ?_, ?_⟩, ?_⟩ <;> first | omega | (simp [intOf]; done))
        | (refine ⟨⟨3, rfl, ?_, ?_, ?_, ?_, ?_⟩, ?_⟩ <;> first | omega | (simp [intOf]; done))
        | (refine ⟨⟨4, rfl, ?_, ?_, ?_, ?_, ?_⟩, ?_⟩ <;> first | omega | (simp [intOf]; done))
        | (go_ret2
           exact ⟨rfl, ((Below.refl _ _).alloc (Nat.le_refl _) _).alloc (by simp) _⟩)

theorem byte_info : (Tryd.prog.info? 5).map (fun i => (i.zero, i.size, i.bytes)) = some (some (.int .u8 0), 1, 1) := by kernel_rfl

/-- Block g begins with the numbers xs, as bytes, and is not frozen. -/
def BytesAt (w : World) (g : Nat) (xs : List Int) : Prop := ∃ cur : Array Value, Blk w g 5 cur ∧ cur.toList.take xs.length = xs.map (Value.int .u8)

theorem cell_alloc {W : World} {p : Addr} {v : Value} {o : Obj} (h : W.cell? p = some v) : (W.alloc o).cell? p = some v := by
  rw [World.cell?_alloc_some _ _ _ (by rw [h]; rfl), h]
theorem cell_alloc3 {W : World} {p : Addr} {v : Value} {o1 o2 o3 : Obj} (h : W.cell? p = some v) : (((W.alloc o1).alloc o2).alloc o3).drew.drew.cell? p = some v := cell_alloc (cell_alloc (cell_alloc h))
theorem own_lit {w : World} {g : Nat} {cs : Array Value} {n : Nat} {base : Nat} (h : Blk w g 5 cs) (hn : cs.size = n) (hb : base ≤ g) (hm : n ≤ maxLen) : w.ownsRow base 5 1 (.slice (some ⟨g, 0, none⟩) n n) n cs.toList :=
  ⟨by simp [hn], .inr ⟨g, n, cs, rfl, hb, h, Nat.le_refl _, hm, by omega, by rw [List.take_of_length_le (by simp [hn])]⟩⟩

theorem cap_le (n k : Nat) (t : Nat → Question → Nat) (d : Nat) (hn : n ≤ 1000000) (e : TypeId) : n ≤ (Question.appendCap n k e).cut (t d (Question.appendCap n k e)) ∧ (Question.appendCap n k e).cut (t d (Question.appendCap n k e)) ≤ maxLen := by
  unfold Question.cut maxLen
  simp only
  have h := Nat.mod_lt (t d (Question.appendCap n k e)) (show 0 < 2 ^ 63 - n by omega)
  omega
theorem own_two {W : World} {A B : Obj} {xs ys : Array Value} {cap base n : Nat} (hn : xs.size + ys.size = n) (h1 : n ≤ cap) (h2 : cap ≤ maxLen) (hb : base ≤ W.heap.size) :
    (((W.alloc A).alloc B).alloc (.cells (xs ++ (ys ++ Builtin.zeroCells #[.int .u8 0] (cap - n))) 5)).drew.drew.ownsRow base 5 1 (.slice (some ⟨W.heap.size + 1 + 1, 0, none⟩) n cap) n (xs ++ ys).toList := by
  refine ⟨by simp [hn], .inr ⟨W.heap.size + 1 + 1, cap, xs ++ (ys ++ Builtin.zeroCells #[.int .u8 0] (cap - n)), rfl, by omega, ?_, h1, h2, ?_, ?_⟩⟩
  · have := heap_alloc_new ((W.alloc A).alloc B) (.cells (xs ++ (ys ++ Builtin.zeroCells #[.int .u8 0] (cap - n))) 5)
    rw [show ((W.alloc A).alloc B).heap.size = W.heap.size + 1 + 1 from by simp] at this
    exact this
  · simp [Builtin.zeroCells]; omega
  · rw [Nat.mul_one, ← Array.append_assoc, Array.toList_append, List.take_append_of_le_length (by simp [hn]), List.take_of_length_le (by simp [hn])]

set_option maxHeartbeats 1000000 in
theorem put_yes (o a b c k : Int) (ho : inByte o) (ha : inByte a) (hb : inByte b) (hc : inByte c) (h0 : 0 ≤ k) (h1 : k ≤ 4294967295) (w : World) :
    Calls Tryd.prog 33 #[.agg #[.int .i64 o, .int .i64 a, .int .i64 b, .int .i64 c, .int .u32 k]] w fun e w' => ∃ g cap, e = .returned (.tuple #[.slice (some ⟨g, 0, none⟩) 8 cap, .int .i64 0]) ∧
      w'.ownsRow w.heap.size 5 1 (.slice (some ⟨g, 0, none⟩) 8 cap) 8 ((instrBytes o a b c k).map (Value.int .u8)) ∧ Below w.heap.size w w' := by
  unfold inByte at ho ha hb hc
  obtain ⟨i0, hi, hz0, hz1, hz2⟩ := info_parts byte_info
  go_enter Tryd.func33, Tryd.ntmps33
  go_wp2
  go_loop [16] (fun v => ∃ j : Nat, v = .int .i64 j ∧ j ≤ 4) (fun v => 4 - (intOf v).toNat)
  case atStart => exact ⟨0, rfl, by omega⟩
  case round =>
    obtain ⟨j, rfl, hj⟩ := hrel
    rcases (by omega : j = 0 ∨ j = 1 ∨ j = 2 ∨ j = 3 ∨ j = 4) with rfl | rfl | rfl | rfl | rfl
    case inr.inr.inr.inr =>
      go_wp2
      have c0 : ((w.alloc (.cells #[.int .i64 o, .int .i64 a, .int .i64 b, .int .i64 c, .int .u32 k] 24)).alloc (.cells #[.int .i64 o, .int .i64 a, .int .i64 b, .int .i64 c] 3)).cell? ⟨w.heap.size, 0, none⟩ = some (.int .i64 o) := by go_simp
      have c1 : ((w.alloc (.cells #[.int .i64 o, .int .i64 a, .int .i64 b, .int .i64 c, .int .u32 k] 24)).alloc (.cells #[.int .i64 o, .int .i64 a, .int .i64 b, .int .i64 c] 3)).cell? ⟨w.heap.size, 1, none⟩ = some (.int .i64 a) := by go_simp
      have c2 : ((w.alloc (.cells #[.int .i64 o, .int .i64 a, .int .i64 b, .int .i64 c, .int .u32 k] 24)).alloc (.cells #[.int .i64 o, .int .i64 a, .int .i64 b, .int .i64 c] 3)).cell? ⟨w.heap.size, 2, none⟩ = some (.int .i64 b) := by go_simp
      have c3 : ((w.alloc (.cells #[.int .i64 o, .int .i64 a, .int .i64 b, .int .i64 c, .int .u32 k] 24)).alloc (.cells #[.int .i64 o, .int .i64 a, .int .i64 b, .int .i64 c] 3)).cell? ⟨w.heap.size, 3, none⟩ = some (.int .i64 c) := by go_simp
      have c4 : ((w.alloc (.cells #[.int .i64 o, .int .i64 a, .int .i64 b, .int .i64 c, .int .u32 k] 24)).alloc (.cells #[.int .i64 o, .int .i64 a, .int .i64 b, .int .i64 c] 3)).cell? ⟨w.heap.size, 4, none⟩ = some (.int .u32 k) := by go_simp
      have hB : Below w.heap.size w ((w.alloc (.cells #[.int .i64 o, .int .i64 a, .int .i64 b, .int .i64 c, .int .u32 k] 24)).alloc (.cells #[.int .i64 o, .int .i64 a, .int .i64 b, .int .i64 c] 3)) := ((Below.refl _ _).alloc (Nat.le_refl _) _).alloc (by simp) _
      generalize ((w.alloc (.cells #[.int .i64 o, .int .i64 a, .int .i64 b, .int .i64 c, .int .u32 k] 24)).alloc (.cells #[.int .i64 o, .int .i64 a, .int .i64 b, .int .i64 c] 3)) = W at c0 c1 c2 c3 c4 hB ⊢
      have hg : w.heap.size < W.heap.size := World.block_lt_of_cell? W _ c0
      go_region_held3 (fun w' => (w'.cell? ⟨w.heap.size, 0, none⟩ = some (.int .i64 o) ∧ w'.cell? ⟨w.heap.size, 1, none⟩ = some (.int .i64 a) ∧ w'.cell? ⟨w.heap.size, 2, none⟩ = some (.int .i64 b) ∧ w'.cell? ⟨w.heap.size, 3, none⟩ = some (.int .i64 c) ∧ w'.cell? ⟨w.heap.size, 4, none⟩ = some (.int .u32 k)))
        (first | (go_keep; done) | (refine ⟨?_, ?_, ?_, ?_, ?_⟩ <;> exact cell_alloc3 (by assumption)))
        (first
          | (go_at_call 35; refine (word_any _ h0 h1 _).mono ?_; rintro e w' ⟨rfl, rfl⟩))
      all_goals
        obtain ⟨hcap1, hcap2⟩ := cap_le 8 4 W.tape (W.drawn + 1) (by omega) 5
        go_wp2
        go_ret2
        refine ⟨_, _, rfl, own_two (xs := #[.int .u8 o, .int .u8 a, .int .u8 b, .int .u8 c]) rfl hcap1 hcap2 hB.size, ?_⟩
        exact ((((hB.alloc hB.size _).alloc (by have := hB.size; simp; omega) _).alloc (by have := hB.size; simp; omega) _).drew).drew
    all_goals
      go_wp2
      first
        | (refine ⟨⟨1, rfl, ?_⟩, ?_⟩ <;> first | omega | (simp [intOf]; done))
        | (refine ⟨⟨2, rfl, ?_⟩, ?_⟩ <;> first | omega | (simp [intOf]; done))
        | (refine ⟨⟨3, rfl, ?_⟩, ?_⟩ <;> first | omega | (simp [intOf]; done))
        | (refine ⟨⟨4, rfl, ?_⟩, ?_⟩ <;> first | omega | (simp [intOf]; done))
end Go.Proofs.YtlmhifnanhkcnaaDoor
