/- seq (plain): the codes of law19's programs, as they are put together. -/
import Derived.Test.YtmhfpjnkjlhbpaaGreatDoorQb34
import Derived.Test.YtmhfpjnkjlhbpaaGreatDoorQb36
namespace Go.Proofs.YtmhfpjnkjlhbpaaGreatDoor
open Go.ChangeShapes Go.WideShapes Go.ChangeAt Go.RowKit Go.Deep
set_option linter.unusedVariables false
set_option maxRecDepth 100000
set_option linter.unusedSimpArgs false

def acqO (t : Nat) : List Ins := (((BB.e.claim (16 + 1) (t : Int)).sbegin 16).close).out
def relO (t : Nat) : List Ins := ((((BB.e.prove (16 + 1) (t : Int)).smore 16).zero (16 + 1)).close).out
def putO (t i : Nat) : List Ins := ((((BB.e.prove (16 + 1) (t : Int)).ins ⟨17, 0, 8, 0, 16 + 2 + (i : Int)⟩)).close).out
def readO (N : Nat) : List Ins := ((BB.e.sread 16 N).close).out
theorem acq_out (t : Nat) : acqO t = [⟨16, 4, 8, 0, 17⟩, ⟨1, 5, 0, 0, (t : Int) + 1⟩, ⟨12, 6, 4, 5, 0⟩, ⟨14, 6, 0, 0, 6⟩, ⟨1, 7, 0, 0, 1⟩, ⟨13, 0, 0, 0, 12⟩, ⟨1, 4, 0, 0, 0⟩, ⟨21, 4, 8, 5, 17⟩, ⟨15, 4, 0, 0, 6⟩, ⟨1, 4, 0, 0, 1⟩, ⟨20, 4, 8, 0, 16⟩, ⟨1, 7, 0, 0, 0⟩] := by kernel_rfl
theorem rel_out (t : Nat) : relO t = [⟨16, 4, 8, 0, 17⟩, ⟨1, 5, 0, 0, (t : Int) + 1⟩, ⟨12, 6, 4, 5, 0⟩, ⟨15, 6, 0, 0, 6⟩, ⟨1, 7, 0, 0, 2⟩, ⟨13, 0, 0, 0, 11⟩, ⟨1, 4, 0, 0, 1⟩, ⟨20, 4, 8, 0, 16⟩, ⟨1, 4, 0, 0, 0⟩, ⟨17, 4, 8, 0, 17⟩, ⟨1, 7, 0, 0, 0⟩] := by kernel_rfl
theorem put_out (t i : Nat) : putO t i = [⟨16, 4, 8, 0, 17⟩, ⟨1, 5, 0, 0, (t : Int) + 1⟩, ⟨12, 6, 4, 5, 0⟩, ⟨15, 6, 0, 0, 6⟩, ⟨1, 7, 0, 0, 2⟩, ⟨13, 0, 0, 0, 8⟩, ⟨17, 0, 8, 0, 16 + 2 + (i : Int)⟩, ⟨1, 7, 0, 0, 0⟩] := by kernel_rfl
theorem read_out1 : readO 1 = [⟨16, 4, 8, 0, 16⟩, ⟨1, 5, 0, 0, 1⟩, ⟨6, 6, 4, 5, 0⟩, ⟨15, 6, 0, 0, 0⟩, ⟨16, 0, 8, 0, 18⟩, ⟨16, 5, 8, 0, 16⟩, ⟨12, 6, 4, 5, 0⟩, ⟨14, 6, 0, 0, 0⟩, ⟨1, 7, 0, 0, 0⟩] := by kernel_rfl
theorem read_out2 : readO 2 = [⟨16, 4, 8, 0, 16⟩, ⟨1, 5, 0, 0, 1⟩, ⟨6, 6, 4, 5, 0⟩, ⟨15, 6, 0, 0, 0⟩, ⟨16, 0, 8, 0, 18⟩, ⟨16, 1, 8, 0, 19⟩, ⟨16, 5, 8, 0, 16⟩, ⟨12, 6, 4, 5, 0⟩, ⟨14, 6, 0, 0, 0⟩, ⟨1, 7, 0, 0, 0⟩] := by kernel_rfl
theorem read_out3 : readO 3 = [⟨16, 4, 8, 0, 16⟩, ⟨1, 5, 0, 0, 1⟩, ⟨6, 6, 4, 5, 0⟩, ⟨15, 6, 0, 0, 0⟩, ⟨16, 0, 8, 0, 18⟩, ⟨16, 1, 8, 0, 19⟩, ⟨16, 2, 8, 0, 20⟩, ⟨16, 5, 8, 0, 16⟩, ⟨12, 6, 4, 5, 0⟩, ⟨14, 6, 0, 0, 0⟩, ⟨1, 7, 0, 0, 0⟩] := by kernel_rfl
theorem acq_ok (t : Nat) (ht : t ≤ 8) : (acqO t).length = 12 ∧ ∀ x ∈ acqO t, x.Ok := by
  rw [acq_out]
  refine ⟨rfl, fun x hx => ?_⟩
  simp only [List.mem_cons, List.not_mem_nil, or_false] at hx
  rcases hx with rfl | rfl | rfl | rfl | rfl | rfl | rfl | rfl | rfl | rfl | rfl | rfl <;> exact insOk (by omega)
theorem rel_ok (t : Nat) (ht : t ≤ 8) : (relO t).length = 11 ∧ ∀ x ∈ relO t, x.Ok := by
  rw [rel_out]
  refine ⟨rfl, fun x hx => ?_⟩
  simp only [List.mem_cons, List.not_mem_nil, or_false] at hx
  rcases hx with rfl | rfl | rfl | rfl | rfl | rfl | rfl | rfl | rfl | rfl | rfl <;> exact insOk (by omega)
theorem put_ok (t i : Nat) (ht : t ≤ 8) (hi : i ≤ 3) : (putO t i).length = 8 ∧ ∀ x ∈ putO t i, x.Ok := by
  rw [put_out]
  refine ⟨rfl, fun x hx => ?_⟩
  simp only [List.mem_cons, List.not_mem_nil, or_false] at hx
  rcases hx with rfl | rfl | rfl | rfl | rfl | rfl | rfl | rfl <;> exact insOk (by omega)
theorem read_ok (N : Nat) (h : 1 ≤ N ∧ N ≤ 3) : (readO N).length = 8 + N ∧ ∀ x ∈ readO N, x.Ok := by
  obtain rfl | rfl | rfl : N = 1 ∨ N = 2 ∨ N = 3 := by omega
  · rw [read_out1]
    refine ⟨rfl, fun x hx => ?_⟩
    simp only [List.mem_cons, List.not_mem_nil, or_false] at hx
    rcases hx with rfl | rfl | rfl | rfl | rfl | rfl | rfl | rfl | rfl <;> exact insOk (by omega)
  · rw [read_out2]
    refine ⟨rfl, fun x hx => ?_⟩
    simp only [List.mem_cons, List.not_mem_nil, or_false] at hx
    rcases hx with rfl | rfl | rfl | rfl | rfl | rfl | rfl | rfl | rfl | rfl <;> exact insOk (by omega)
  · rw [read_out3]
    refine ⟨rfl, fun x hx => ?_⟩
    simp only [List.mem_cons, List.not_mem_nil, or_false] at hx
    rcases hx with rfl | rfl | rfl | rfl | rfl | rfl | rfl | rfl | rfl | rfl | rfl <;> exact insOk (by omega)
def callL (site L : Nat) (C : List Ins) : List Ins := ⟨27, 7, 0, 0, 2 * (site : Int)⟩ :: (C.map (movedI ((L : Int) + 1)) ++ [⟨27, 7, 0, 0, 2 * (site : Int) + 1⟩])
theorem wh_call (t L g : Nat) (hL : L ≤ 4000) : (sgL t L g .wh).map Op.ins = callL 0 L (acqO t) ++ [⟨16, 0, 8, 0, 18⟩, ⟨1, 1, 0, 0, 1⟩, ⟨3, 0, 0, 1, 0⟩] := by
  unfold callL
  rw [acq_out]
  simp [sgL, Op.ins, movedI, jmpB, aluF_add]
  omega
theorem wp_call (t L g i : Nat) (hL : L ≤ 4000) (hi : i ≤ 3) : (sgL t L g (.wp i)).map Op.ins = callL 3 L (putO t i) := by
  unfold callL
  rw [put_out]
  simp [sgL, Op.ins, movedI, jmpB, aluF_add]
  omega
theorem wt_call (t L g : Nat) (hL : L ≤ 4000) : (sgL t L g .wt).map Op.ins = callL 1 L (relO t) := by
  unfold callL
  rw [rel_out]
  simp [sgL, Op.ins, movedI, jmpB, aluF_add]
  omega
theorem rd_call (t L N : Nat) (hL : L ≤ 4000) (h : 1 ≤ N ∧ N ≤ 3) : (sgL t L (L + 1) .rh ++ ((List.range N).flatMap fun i => sgL t (L + 5 + i) (L + 1) (.rl i)) ++ sgL t (L + 5 + N) (L + 1) .rt).map Op.ins = callL 2 L (readO N) := by
  unfold callL
  obtain rfl | rfl | rfl : N = 1 ∨ N = 2 ∨ N = 3 := by omega
  · rw [read_out1]
    simp [sgL, Op.ins, movedI, jmpB, aluF_add, List.range_succ]
    omega
  · rw [read_out2]
    simp [sgL, Op.ins, movedI, jmpB, aluF_add, List.range_succ]
    omega
  · rw [read_out3]
    simp [sgL, Op.ins, movedI, jmpB, aluF_add, List.range_succ]
    omega
def sqL (N t : Nat) (isW : Bool) (n : Nat) : List Ins := (codeOf (sqPc N t isW) n).map Op.ins
theorem sqL_len (N t : Nat) (isW : Bool) (n : Nat) : (sqL N t isW n).length = bsQ (if isW = true then sgW N else sgR N) n := by
  unfold sqL
  rw [List.length_map]
  exact codeOf_len rfl (fun n _ => sqPc_len N t isW n)
theorem sqL_succ (N t : Nat) (isW : Bool) (n : Nat) : sqL N t isW (n + 1) = sqL N t isW n ++ (sqPc N t isW n).map Op.ins := by
  unfold sqL
  rw [codeOf_succ, List.map_append]
theorem sqL_small (N t : Nat) (isW : Bool) {n : Nat} (hn : n ≤ 24) : (sqL N t isW n).length ≤ 408 := by
  rw [sqL_len]
  have := bsQ_le (if isW = true then sgW N else sgR N) n
  omega
theorem mul_mod {M j r : Nat} (h : r < M) : (j * M + r) % M = r := by rw [Nat.mul_comm, Nat.mul_add_mod, Nat.mod_eq_of_lt h]
theorem sqW_acq {N t j : Nat} (hj : j * (N + 2) ≤ 24) : sqL N t true (j * (N + 2) + 1) = sqL N t true (j * (N + 2)) ++ (callL 0 (sqL N t true (j * (N + 2))).length (acqO t) ++ [⟨16, 0, 8, 0, 18⟩, ⟨1, 1, 0, 0, 1⟩, ⟨3, 0, 0, 1, 0⟩]) := by
  rw [sqL_succ]
  have hs := sqL_small N t true hj
  rw [sqL_len] at hs ⊢
  congr 1
  have e : sgW N (j * (N + 2)) = .wh := by unfold sgW; rw [show j * (N + 2) = j * (N + 2) + 0 from rfl, mul_mod (by omega), if_pos rfl]
  unfold sqPc
  rw [if_pos rfl] at hs ⊢
  rw [e]
  exact wh_call _ _ _ (by omega)
theorem sqW_put {N t j i : Nat} (h3 : N ≤ 3) (hj : j * (N + 2) + 1 + i ≤ 24) (hi : i < N) : sqL N t true (j * (N + 2) + 1 + i + 1) = sqL N t true (j * (N + 2) + 1 + i) ++ callL 3 (sqL N t true (j * (N + 2) + 1 + i)).length (putO t i) := by
  rw [sqL_succ]
  have hs := sqL_small N t true hj
  rw [sqL_len] at hs ⊢
  congr 1
  have e : sgW N (j * (N + 2) + 1 + i) = .wp i := by
    unfold sgW
    rw [Nat.add_assoc, mul_mod (by omega), if_neg (by omega), if_pos (by omega)]
    congr 1; omega
  unfold sqPc
  rw [if_pos rfl] at hs ⊢
  rw [e]
  exact wp_call _ _ _ _ (by omega) (by omega)
theorem sqW_rel {N t j : Nat} (h1 : 1 ≤ N) (hj : j * (N + 2) + 1 + N ≤ 24) : sqL N t true ((j + 1) * (N + 2)) = sqL N t true (j * (N + 2) + 1 + N) ++ callL 1 (sqL N t true (j * (N + 2) + 1 + N)).length (relO t) := by
  have e0 : (j + 1) * (N + 2) = j * (N + 2) + 1 + N + 1 := by rw [Nat.succ_mul]; omega
  rw [e0, sqL_succ]
  have hs := sqL_small N t true hj
  rw [sqL_len] at hs ⊢
  congr 1
  have e : sgW N (j * (N + 2) + 1 + N) = .wt := by
    unfold sgW
    rw [Nat.add_assoc, mul_mod (by omega), if_neg (by omega), if_neg (by omega)]
  unfold sqPc
  rw [if_pos rfl] at hs ⊢
  rw [e]
  exact wt_call _ _ _ (by omega)
theorem sgR_at {N j r : Nat} (h : r < 2 * N + 2) : sgR N (j * (2 * N + 2) + r) = if r = 0 then .rh else if r ≤ N then .rl (r - 1) else if r = N + 1 then .rt else .ro (r - (N + 2)) := by
  unfold sgR
  rw [mul_mod h]
theorem sqPc_at {N t j r : Nat} (h : r < 2 * N + 2) : sqPc N t false (j * (2 * N + 2) + r) = sgL t (bsQ (sgR N) (j * (2 * N + 2) + r)) (bsQ (sgR N) (j * (2 * N + 2) + r - (N + 1)) + 1) (if r = 0 then .rh else if r ≤ N then .rl (r - 1) else if r = N + 1 then .rt else .ro (r - (N + 2))) := by
  unfold sqPc
  rw [if_neg (by decide), sgR_at h]
theorem sqR_out {N t j i : Nat} (hi : i < N) : sqL N t false (j * (2 * N + 2) + (N + 2 + i) + 1) = sqL N t false (j * (2 * N + 2) + (N + 2 + i)) ++ [⟨22, i, 0, 0, 0⟩] := by
  rw [sqL_succ, sqPc_at (by omega), if_neg (by omega), if_neg (by omega), if_neg (by omega), show N + 2 + i - (N + 2) = i by omega]
  rfl
theorem bsQ_add (kd : Nat → Sg) (n : Nat) : bsQ kd (n + 1) = bsQ kd n + sgLen (kd n) := rfl
theorem sqR_read {N t j : Nat} (h : 1 ≤ N ∧ N ≤ 3) (hj : j * (2 * N + 2) ≤ 24) : sqL N t false (j * (2 * N + 2) + (N + 2)) = sqL N t false (j * (2 * N + 2)) ++ callL 2 (sqL N t false (j * (2 * N + 2))).length (readO N) := by
  have hs := sqL_small N t false hj
  rw [sqL_len] at hs ⊢
  rw [if_neg (by decide)] at hs ⊢
  have hrd := rd_call t (bsQ (sgR N) (j * (2 * N + 2))) N (by omega) h
  rw [← hrd]
  clear hrd
  obtain ⟨n, hn⟩ : ∃ n, j * (2 * N + 2) = n := ⟨_, rfl⟩
  have pc : ∀ r, r < 2 * N + 2 → sqPc N t false (n + r) = sgL t (bsQ (sgR N) (n + r)) (bsQ (sgR N) (n + r - (N + 1)) + 1) (if r = 0 then .rh else if r ≤ N then .rl (r - 1) else if r = N + 1 then .rt else .ro (r - (N + 2))) := fun r hr => by rw [← hn]; exact sqPc_at hr
  have kd : ∀ r, r < 2 * N + 2 → sgR N (n + r) = if r = 0 then .rh else if r ≤ N then .rl (r - 1) else if r = N + 1 then .rt else .ro (r - (N + 2)) := fun r hr => by rw [← hn]; exact sgR_at hr
  rw [hn] at hs ⊢
  have k0 : sgR N n = .rh := kd 0 (by omega)
  have b1 : bsQ (sgR N) (n + 1) = bsQ (sgR N) n + 5 := by rw [bsQ_add, k0]; rfl
  have p0 : sqPc N t false n = sgL t (bsQ (sgR N) n) (bsQ (sgR N) n + 1) .rh := by
    have := pc 0 (by omega)
    rw [if_pos rfl, Nat.add_zero] at this
    rw [this]; rfl
  have bl : ∀ i, i ≤ N → bsQ (sgR N) (n + 1 + i) = bsQ (sgR N) n + 5 + i := by
    intro i
    induction i with
    | zero => intro _; exact b1
    | succ i ih =>
      intro hi
      rw [← Nat.add_assoc, bsQ_add, ih (by omega), Nat.add_assoc n 1 i, kd (1 + i) (by omega), if_neg (by omega), if_pos (by omega)]
      rfl
  have hl : ∀ i, i ≤ N → sqL N t false (n + 1 + i) = sqL N t false n ++ (sgL t (bsQ (sgR N) n) (bsQ (sgR N) n + 1) .rh ++ (List.range i).flatMap fun i => sgL t (bsQ (sgR N) n + 5 + i) (bsQ (sgR N) n + 1) (.rl i)).map Op.ins := by
    intro i
    induction i with
    | zero => intro _; rw [Nat.add_zero, sqL_succ, p0]; simp
    | succ i ih =>
      intro hi
      have e := pc (1 + i) (by omega)
      rw [if_neg (by omega), if_pos (by omega), ← Nat.add_assoc, bl i (by omega), show 1 + i - 1 = i by omega] at e
      rw [← Nat.add_assoc, sqL_succ, ih (by omega), e, List.range_succ, List.flatMap_append, List.append_assoc, ← List.map_append]
      congr 2
  have e := pc (N + 1) (by omega)
  rw [if_neg (by omega), if_neg (by omega), if_pos rfl, show n + (N + 1) = n + 1 + N by omega, bl N (Nat.le_refl _), show n + 1 + N - (N + 1) = n by omega] at e
  rw [show n + (N + 2) = n + 1 + N + 1 by omega, sqL_succ, hl N (Nat.le_refl _), e, List.append_assoc, ← List.map_append]
end Go.Proofs.YtmhfpjnkjlhbpaaGreatDoor
