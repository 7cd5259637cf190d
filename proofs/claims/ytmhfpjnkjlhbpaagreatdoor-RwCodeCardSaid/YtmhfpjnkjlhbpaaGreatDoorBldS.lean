/- RwCode. -/
import Derived.Test.YtmhfpjnkjlhbpaaGreatDoorBldA
namespace Go.Proofs.YtmhfpjnkjlhbpaaGreatDoor
open Go.ChangeShapes Go.WideShapes Go.ChangeAt Go.RowKit Go.Deep
set_option linter.unusedVariables false
set_option maxRecDepth 100000
set_option linter.unusedSimpArgs false
def BB.ins (b : BB) (x : Ins) : BB := { b with code := b.code ++ [x] }
def BB.at (b : BB) (s : List UInt8) : BB := { b with places := (s, b.code.length) :: b.places }
def BB.go (b : BB) (op a : Int) (s : List UInt8) : BB := { b with code := b.code ++ [⟨op, a, 0, 0, 0⟩], links := b.links ++ [(b.code.length, s)] }
def BB.Room (b : BB) (n : Nat) : Prop := b.code.length + n ≤ 1000 ∧ b.links.length + n ≤ 1000 ∧ b.places.length + n ≤ 1000
theorem BB.Room.mono {b : BB} {n m : Nat} (h : b.Room n) (hm : m ≤ n) : b.Room m := ⟨by have := h.1; omega, by have := h.2.1; omega, by have := h.2.2; omega⟩
theorem BB.Room.ins {b : BB} {n : Nat} (h : b.Room (n + 1)) (x : Ins) : (b.ins x).Room n := ⟨by have := h.1; simp [BB.ins]; omega, by have := h.2.1; simp [BB.ins]; omega, by have := h.2.2; simp [BB.ins]; omega⟩
theorem BB.Room.at {b : BB} {n : Nat} (h : b.Room (n + 1)) (s : List UInt8) : (b.at s).Room n := ⟨by have := h.1; simp [BB.at]; omega, by have := h.2.1; simp [BB.at]; omega, by have := h.2.2; simp [BB.at]; omega⟩
theorem BB.Room.go {b : BB} {n : Nat} (h : b.Room (n + 1)) (op a : Int) (s : List UInt8) : (b.go op a s).Room n := ⟨by have := h.1; simp [BB.go]; omega, by have := h.2.1; simp [BB.go]; omega, by have := h.2.2; simp [BB.go]; omega⟩
def Bls (f : FuncId) (args : Array Value) (N0 bb : Nat) (b b' : BB) (W : World) : Prop := Calls Tryz.prog f args W fun e W' => (∃ u, e = .returned u) ∧ BI N0 W' bb b' ∧ BelF N0 W W'
theorem BI.rins {N0 bb n : Nat} {b : BB} {x : Ins} {W : World} (h : BI N0 W bb (b.ins x)) (hr : b.Room (n + 1)) : (b.ins x).Room n := hr.ins x
theorem BI.rat {N0 bb n : Nat} {b : BB} {s : List UInt8} {W : World} (h : BI N0 W bb (b.at s)) (hr : b.Room (n + 1)) : (b.at s).Room n := hr.at s
theorem BI.rgo {N0 bb n : Nat} {b : BB} {op a : Int} {s : List UInt8} {W : World} (h : BI N0 W bb (b.go op a s)) (hr : b.Room (n + 1)) : (b.go op a s).Room n := hr.go op a s
theorem Bls.step {f : FuncId} {args : Array Value} {N0 bb : Nat} {b b' : BB} {W : World} {R : Ending → World → Prop} (h : Bls f args N0 bb b b' W) (k : ∀ e W', ((∃ u, e = .returned u) ∧ BI N0 W' bb b' ∧ BelF N0 W W') → R e W') : Calls Tryz.prog f args W R := Calls.mono h fun e W' => k e W'
theorem b_at {N0 bb : Nat} {b : BB} {n : Nat} (s : List UInt8) (hs : Nm s = true) {W : World} (h : BI N0 W bb b) (hr : b.Room (n + 1)) (hf : b.places.lookup s = none) : Bls 99 #[.pointer (some ⟨bb, 0, none⟩), str s] N0 bb b (b.at s) W := bat_any N0 bb b s hs hf (by have := hr.2.2; omega) (by have := hr.1; omega) W h
theorem b_go {N0 bb : Nat} {b : BB} {n : Nat} (op a : Int) (s : List UInt8) {W : World} (h : BI N0 W bb b) (hr : b.Room (n + 1)) : Bls 97 #[.pointer (some ⟨bb, 0, none⟩), .int .i64 op, .int .i64 a, str s] N0 bb b (b.go op a s) W := bgo_any N0 bb b op a s W h (by have := hr.1; omega) (by have := hr.2.1; omega)
theorem b_do {N0 bb : Nat} {b : BB} {n : Nat} (op a x c k : Int) {W : World} (h : BI N0 W bb b) (hr : b.Room (n + 1)) : Bls 102 #[.pointer (some ⟨bb, 0, none⟩), .agg #[.int .i64 op, .int .i64 a, .int .i64 x, .int .i64 c, .int .u32 k]] N0 bb b (b.ins ⟨op, a, x, c, k⟩) W := bdo_any N0 bb b ⟨op, a, x, c, k⟩ W h (by have := hr.1; omega)
set_option maxHeartbeats 1000000 in
theorem b_set {N0 bb : Nat} {b : BB} {n : Nat} (a k : Int) {W : World} (h : BI N0 W bb b) (hr : b.Room (n + 1)) : Bls 94 #[.pointer (some ⟨bb, 0, none⟩), .int .i64 a, .int .u32 k] N0 bb b (b.ins ⟨1, a, 0, 0, k⟩) W := by
  have hc := b_do (n := n) 1 a 0 0 k h hr
  unfold Bls at hc ⊢
  go_enter Tryz.func94, Tryz.ntmps94
  go_wp2_with fail
  with_reducible refine hc.mono ?_
  rintro e W1 ⟨⟨u, rfl⟩, h1, b1⟩
  clear hc
  go_wp2
  go_end0
  exact ⟨⟨_, rfl⟩, h1, b1⟩
set_option maxHeartbeats 1000000 in
theorem b_alu {N0 bb : Nat} {b : BB} {n : Nat} (op a x y : Int) {W : World} (h : BI N0 W bb b) (hr : b.Room (n + 1)) : Bls 101 #[.pointer (some ⟨bb, 0, none⟩), .int .i64 op, .int .i64 a, .int .i64 x, .int .i64 y] N0 bb b (b.ins ⟨op, a, x, y, 0⟩) W := by
  have hc := b_do (n := n) op a x y 0 h hr
  unfold Bls at hc ⊢
  go_enter Tryz.func101, Tryz.ntmps101
  go_wp2_with fail
  with_reducible refine hc.mono ?_
  rintro e W1 ⟨⟨u, rfl⟩, h1, b1⟩
  clear hc
  go_wp2
  go_end0
  exact ⟨⟨_, rfl⟩, h1, b1⟩
set_option maxHeartbeats 1000000 in
theorem b_ask {N0 bb : Nat} {b : BB} {n : Nat} (op a k : Int) {W : World} (h : BI N0 W bb b) (hr : b.Room (n + 1)) : Bls 87 #[.pointer (some ⟨bb, 0, none⟩), .int .i64 op, .int .i64 a, .int .u32 k] N0 bb b (b.ins ⟨op, a, 8, 0, k⟩) W := by
  have hc := b_do (n := n) op a 8 0 k h hr
  unfold Bls at hc ⊢
  go_enter Tryz.func87, Tryz.ntmps87
  go_wp2_with fail
  with_reducible refine hc.mono ?_
  rintro e W1 ⟨⟨u, rfl⟩, h1, b1⟩
  clear hc
  go_wp2
  go_end0
  exact ⟨⟨_, rfl⟩, h1, b1⟩
set_option maxHeartbeats 1000000 in
theorem b_cas {N0 bb : Nat} {b : BB} {n : Nat} (a c k : Int) {W : World} (h : BI N0 W bb b) (hr : b.Room (n + 1)) : Bls 96 #[.pointer (some ⟨bb, 0, none⟩), .int .i64 a, .int .i64 c, .int .u32 k] N0 bb b (b.ins ⟨21, a, 8, c, k⟩) W := by
  have hc := b_do (n := n) 21 a 8 c k h hr
  unfold Bls at hc ⊢
  go_enter Tryz.func96, Tryz.ntmps96
  go_wp2_with fail
  with_reducible refine hc.mono ?_
  rintro e W1 ⟨⟨u, rfl⟩, h1, b1⟩
  clear hc
  go_wp2
  go_end0
  exact ⟨⟨_, rfl⟩, h1, b1⟩
def n_free : List UInt8 := [102, 114, 101, 101]
def n_end : List UInt8 := [101, 110, 100]
def n_mine : List UInt8 := [109, 105, 110, 101]
def n_spin : List UInt8 := [115, 112, 105, 110]
def n_again : List UInt8 := [97, 103, 97, 105, 110]
def n_look : List UInt8 := [108, 111, 111, 107]
def n_done : List UInt8 := [100, 111, 110, 101]
def n_yours : List UInt8 := [121, 111, 117, 114, 115]
def n_wake : List UInt8 := [119, 97, 107, 101]
def n_reader : List UInt8 := [114, 101, 97, 100, 101, 114]
def n_sleep : List UInt8 := [115, 108, 101, 101, 112]
def n_got : List UInt8 := [103, 111, 116]
theorem str_free : Value.string ⟨#[102, 114, 101, 101]⟩ = str n_free := rfl
theorem str_end : Value.string ⟨#[101, 110, 100]⟩ = str n_end := rfl
theorem str_mine : Value.string ⟨#[109, 105, 110, 101]⟩ = str n_mine := rfl
theorem str_again : Value.string ⟨#[97, 103, 97, 105, 110]⟩ = str n_again := rfl
theorem str_done : Value.string ⟨#[100, 111, 110, 101]⟩ = str n_done := rfl
theorem str_wake : Value.string ⟨#[119, 97, 107, 101]⟩ = str n_wake := rfl
theorem str_reader : Value.string ⟨#[114, 101, 97, 100, 101, 114]⟩ = str n_reader := rfl
theorem str_sleep : Value.string ⟨#[115, 108, 101, 101, 112]⟩ = str n_sleep := rfl
theorem str_got : Value.string ⟨#[103, 111, 116]⟩ = str n_got := rfl
theorem nm_free : Nm n_free = true := by decide
theorem nm_end : Nm n_end = true := by decide
theorem nm_mine : Nm n_mine = true := by decide
theorem nm_again : Nm n_again = true := by decide
theorem nm_done : Nm n_done = true := by decide
theorem nm_wake : Nm n_wake = true := by decide
theorem nm_reader : Nm n_reader = true := by decide
theorem nm_sleep : Nm n_sleep = true := by decide
theorem nm_got : Nm n_got = true := by decide
def BB.e : BB := ⟨[], [], []⟩
def BB.mine (b : BB) (own t : Int) : BB := ((b.ins ⟨16, 4, 8, 0, own⟩).ins ⟨1, 5, 0, 0, t + 1⟩).ins ⟨12, 6, 4, 5, 0⟩
def BB.claim (b : BB) (own t : Int) : BB := (((((b.mine own t).go 14 6 n_free).ins ⟨1, 7, 0, 0, 1⟩).go 13 0 n_end).at n_free)
def BB.prove (b : BB) (own t : Int) : BB := (((((b.mine own t).go 15 6 n_mine).ins ⟨1, 7, 0, 0, 2⟩).go 13 0 n_end).at n_mine)
def BB.close (b : BB) : BB := (b.ins ⟨1, 7, 0, 0, 0⟩).at n_end
def BB.zero (b : BB) (a : Int) : BB := (b.ins ⟨1, 4, 0, 0, 0⟩).ins ⟨17, 4, 8, 0, a⟩
theorem BB.Room.mine {b : BB} {n : Nat} (h : b.Room (n + 3)) (own t : Int) : (b.mine own t).Room n := BB.Room.ins (BB.Room.ins (BB.Room.ins (n := n + 2) h _) _) _
theorem BB.Room.claim {b : BB} {n : Nat} (h : b.Room (n + 7)) (own t : Int) : (b.claim own t).Room n := BB.Room.at (BB.Room.go (BB.Room.ins (BB.Room.go (BB.Room.mine (n := n + 4) h _ _) _ _ _) _) _ _ _) _
theorem BB.Room.prove {b : BB} {n : Nat} (h : b.Room (n + 7)) (own t : Int) : (b.prove own t).Room n := BB.Room.at (BB.Room.go (BB.Room.ins (BB.Room.go (BB.Room.mine (n := n + 4) h _ _) _ _ _) _) _ _ _) _
theorem BB.Room.close {b : BB} {n : Nat} (h : b.Room (n + 2)) : b.close.Room n := BB.Room.at (BB.Room.ins h _) _
theorem BB.Room.zero {b : BB} {n : Nat} (h : b.Room (n + 2)) (a : Int) : (b.zero a).Room n := BB.Room.ins (BB.Room.ins h _) _
set_option maxHeartbeats 2000000 in
theorem b_close {N0 bb : Nat} {b : BB} {n : Nat}  {W : World} (h : BI N0 W bb b) (hr : b.Room (n + 2)) (hf : b.places.lookup n_end = none) : Bls 89 #[.pointer (some ⟨bb, 0, none⟩)] N0 bb b b.close W := by
  unfold Bls
  go_enter Tryz.func89, Tryz.ntmps89
  go_wp2_with fail
  refine Bls.step (b_set (n := n + 1) _ _ h hr) ?_
  rintro _ W1 ⟨⟨u0, rfl⟩, h1, b1⟩
  have r1 := BI.rins (n := n + 1) h1 hr
  go_wp2_with fail
  try rw [str_end]
  refine Bls.step (b_at (n := n + 0) n_end nm_end h1 r1 hf) ?_
  rintro _ W2 ⟨⟨u1, rfl⟩, h2, b2⟩
  have r2 := BI.rat (n := n + 0) h2 r1
  go_wp2
  go_end0
  exact ⟨⟨_, rfl⟩, h2, b1.trans (b2)⟩
end Go.Proofs.YtmhfpjnkjlhbpaaGreatDoor
