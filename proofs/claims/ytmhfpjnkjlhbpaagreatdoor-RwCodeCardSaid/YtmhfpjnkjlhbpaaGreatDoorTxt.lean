/- RwCode. -/
import Derived.Test.YtmhfpjnkjlhbpaaGreatDoorIsaRef
import Derived.Test.YtmhfpjnkjlhbpaaGreatDoorGrow
namespace Go.Proofs.YtmhfpjnkjlhbpaaGreatDoor
open Go.ChangeShapes Go.WideShapes Go.ChangeAt Go.RowKit
set_option linter.unusedVariables false
set_option maxRecDepth 100000
set_option linter.unusedSimpArgs false
def dig (d : Nat) : UInt8 := UInt8.ofNat (48 + d)
theorem dig_nat {d : Nat} (h : d < 10) : (dig d).toNat = 48 + d := by
  show (48 + d) % 256 = 48 + d
  omega
def numL (n : Nat) : List UInt8 := if h : n < 10 then [dig n] else numL (n / 10) ++ [dig (n % 10)]
termination_by n
decreasing_by omega
theorem numL_lt {n : Nat} (h : n < 10) : numL n = [dig n] := by rw [numL, dif_pos h]
theorem numL_ge {n : Nat} (h : ¬ n < 10) : numL n = numL (n / 10) ++ [dig (n % 10)] := by rw [numL, dif_neg h]
def valS (a : Nat) (c : UInt8) : Nat := 10 * a + (c.toNat - 48)
def valL (l : List UInt8) : Nat := l.foldl valS 0
theorem valL_snoc (l : List UInt8) (c : UInt8) : valL (l ++ [c]) = 10 * valL l + (c.toNat - 48) := by unfold valL; rw [List.foldl_append]; rfl
theorem valL_num (n : Nat) : valL (numL n) = n := by
  induction n using Nat.strongRecOn with
  | ind n ih =>
    by_cases h : n < 10
    · rw [numL_lt h]
      show 10 * 0 + ((dig n).toNat - 48) = n
      rw [dig_nat h]; omega
    · rw [numL_ge h, valL_snoc, ih (n / 10) (by omega), dig_nat (by omega)]
      omega
def isDig (c : UInt8) : Bool := decide (48 ≤ c.toNat ∧ c.toNat ≤ 57)
theorem dig_is {d : Nat} (h : d < 10) : isDig (dig d) = true := decide_eq_true (by rw [dig_nat h]; omega)
theorem numL_dig (n : Nat) : ∀ c ∈ numL n, isDig c = true := by
  induction n using Nat.strongRecOn with
  | ind n ih =>
    intro c hc
    by_cases h : n < 10
    · rw [numL_lt h] at hc
      rw [List.mem_singleton.1 hc]
      exact dig_is h
    · rw [numL_ge h] at hc
      rcases List.mem_append.1 hc with hc | hc
      · exact ih (n / 10) (by omega) c hc
      · rw [List.mem_singleton.1 hc]
        exact dig_is (by omega)
theorem numL_pos (n : Nat) : 0 < (numL n).length := by
  by_cases h : n < 10
  · rw [numL_lt h]; simp
  · rw [numL_ge h, List.length_append]; simp
theorem numL_len (k : Nat) : ∀ n, n < 10 ^ (k + 1) → (numL n).length ≤ k + 1 := by
  induction k with
  | zero =>
    intro n h
    rw [numL_lt (by simpa using h)]
    exact Nat.le_refl _
  | succ k ih =>
    intro n h
    by_cases c : n < 10
    · rw [numL_lt c]; simp
    · rw [numL_ge c, List.length_append]
      have := ih (n / 10) (by rw [Nat.pow_succ] at h; omega)
      simp
      omega
theorem numL_ten {n : Nat} (h : n ≤ 4294967295) : (numL n).length ≤ 10 := numL_len 9 n (by omega)
theorem numL_head (n : Nat) : 1 < (numL n).length → (numL n).headD 0 ≠ 48 := by
  induction n using Nat.strongRecOn with
  | ind n ih =>
    intro hl
    by_cases h : n < 10
    · rw [numL_lt h] at hl
      simp at hl
    · rw [numL_ge h]
      have hp := numL_pos (n / 10)
      have e : (numL (n / 10) ++ [dig (n % 10)]).headD 0 = (numL (n / 10)).headD 0 := by
        cases q : numL (n / 10) with
        | nil => rw [q] at hp; simp at hp
        | cons a l => rfl
      rw [e]
      by_cases c : n / 10 < 10
      · rw [numL_lt c]
        show dig (n / 10) ≠ 48
        intro q
        have := congrArg UInt8.toNat q
        rw [dig_nat c] at this
        have h48 : (48 : UInt8).toNat = 48 := rfl
        omega
      · refine ih (n / 10) (by omega) ?_
        rw [numL_ge c, List.length_append]
        have := numL_pos (n / 10 / 10)
        simp
        omega
def splitL (by_ : UInt8) : List UInt8 → List (List UInt8)
  | [] => [[]]
  | c :: s => if c = by_ then [] :: splitL by_ s else (splitL by_ s).modifyHead (c :: ·)
def joinL (by_ : UInt8) : List (List UInt8) → List UInt8
  | [] => []
  | [w] => w
  | w :: ws => w ++ by_ :: joinL by_ ws
theorem splitL_ne (by_ : UInt8) (s : List UInt8) : splitL by_ s ≠ [] := by
  induction s with
  | nil => simp [splitL]
  | cons c s ih =>
    unfold splitL
    split
    · simp
    · cases h : splitL by_ s with
      | nil => exact absurd h ih
      | cons a l => simp [List.modifyHead]
theorem splitL_word {by_ : UInt8} {w : List UInt8} (h : by_ ∉ w) (s : List UInt8) : splitL by_ (w ++ s) = (splitL by_ s).modifyHead (w ++ ·) := by
  induction w with
  | nil =>
    cases q : splitL by_ s with
    | nil => exact absurd q (splitL_ne _ _)
    | cons a l => simp [q, List.modifyHead]
  | cons c w ih =>
    have hc : c ≠ by_ := fun e => h (by rw [e]; exact List.mem_cons_self)
    have hw : by_ ∉ w := fun e => h (List.mem_cons_of_mem _ e)
    show (if c = by_ then [] :: splitL by_ (w ++ s) else (splitL by_ (w ++ s)).modifyHead (c :: ·)) = _
    rw [if_neg hc, ih hw]
    cases q : splitL by_ s with
    | nil => exact absurd q (splitL_ne _ _)
    | cons a l => simp [List.modifyHead]
theorem splitL_join {by_ : UInt8} : ∀ {ws : List (List UInt8)}, ws ≠ [] → (∀ w ∈ ws, by_ ∉ w) → splitL by_ (joinL by_ ws) = ws
  | [], h, _ => absurd rfl h
  | [w], _, h => by
    have := splitL_word (h w (by simp)) []
    rw [List.append_nil] at this
    show splitL by_ w = [w]
    rw [this]
    simp [splitL, List.modifyHead]
  | w :: v :: ws, _, h => by
    show splitL by_ (w ++ by_ :: joinL by_ (v :: ws)) = _
    rw [splitL_word (h w (by simp))]
    show (if by_ = by_ then [] :: splitL by_ (joinL by_ (v :: ws)) else _).modifyHead (w ++ ·) = _
    rw [if_pos rfl, splitL_join (by simp) (fun x hx => h x (List.mem_cons_of_mem _ hx))]
    simp [List.modifyHead]
def isLet (c : UInt8) : Bool := decide (97 ≤ c.toNat ∧ c.toNat ≤ 122)
def NmL (s : List UInt8) : Bool := decide (1 ≤ s.length) && decide (s.length ≤ 20) && isLet (s.headD 0) && s.all fun c => isLet c || isDig c
inductive Tk
  | reg (r : Nat)
  | num (n : Nat)
  | lab (s : List UInt8)
  | mem (n : Nat)
def Tk.txt : Tk → List UInt8
  | .reg r => [114, dig r]
  | .num n => numL n
  | .lab s => 64 :: s
  | .mem n => 91 :: (numL n ++ [93])
inductive Fits : List UInt8 → List Tk → Prop
  | nil : Fits [] []
  | a (r : Nat) (fs : List UInt8) (ws : List Tk) : r < 8 → Fits fs ws → Fits (65 :: fs) (.reg r :: ws)
  | b (r : Nat) (fs : List UInt8) (ws : List Tk) : r < 8 → Fits fs ws → Fits (66 :: fs) (.reg r :: ws)
  | c (r : Nat) (fs : List UInt8) (ws : List Tk) : r < 8 → Fits fs ws → Fits (67 :: fs) (.reg r :: ws)
  | k (n : Nat) : n ≤ 4294967295 → Fits [75] [.num n]
  | t (s : List UInt8) : NmL s = true → Fits [84] [.lab s]
  | m (n : Nat) : n ≤ 4294967295 → Fits [77, 75] [.mem n]
def setF (i : Ins) (f : UInt8) : Tk → Ins
  | .reg r => if f = 65 then { i with a := (r : Int) } else if f = 66 then { i with b := (r : Int) } else { i with c := (r : Int) }
  | .num n => { i with k := (n : Int) }
  | .lab _ => i
  | .mem n => { i with b := 8, k := (n : Int) }
def accF (i : Ins) : List UInt8 → List Tk → Ins
  | f :: fs, w :: ws => accF (setF i f w) fs ws
  | _, _ => i
def labA (l : List UInt8) : List Tk → List UInt8
  | [] => l
  | .lab s :: ws => labA s ws
  | _ :: ws => labA l ws
inductive Ln
  | ins (op : Nat) (ws : List Tk)
  | lab (s : List UInt8)
def nmB (op : Nat) : List UInt8 := (nmS op).data.toList
def flB (op : Nat) : List UInt8 := (flS op).data.toList
def Ln.txt : Ln → List UInt8
  | .ins op ws => joinL 32 (nmB op :: ws.map Tk.txt)
  | .lab s => s ++ [58]
def Ln.Ok : Ln → Prop
  | .ins op ws => op < 28 ∧ Fits (flB op) ws
  | .lab s => NmL s = true
def Ln.ins? : Ln → Option Ins
  | .ins op ws => some (accF ⟨(op : Int), 0, 0, 0, 0⟩ (flB op) ws)
  | .lab _ => none
def Ln.to : Ln → List UInt8
  | .ins _ ws => labA [] ws
  | .lab _ => []
def txtL (l : List Ln) : List UInt8 := l.flatMap fun x => x.txt ++ [10]
theorem txtL_join (l : List Ln) : txtL l = joinL 10 (l.map Ln.txt ++ [[]]) := by
  induction l with
  | nil => rfl
  | cons x l ih =>
    show x.txt ++ [10] ++ txtL l = _
    rw [ih]
    cases q : l.map Ln.txt ++ [[]] with
    | nil => simp at q
    | cons a m =>
      show _ = joinL 10 (x.txt :: (l.map Ln.txt ++ [[]]))
      rw [q]
      show _ = x.txt ++ 10 :: joinL 10 (a :: m)
      simp
def plainB (c : UInt8) : Bool := isLet c || isDig c || c == 91 || c == 93 || c == 64
theorem plain_nl {c : UInt8} (h : plainB c = true) : c ≠ 10 ∧ c ≠ 32 := by
  constructor <;> rintro rfl <;> revert h <;> decide
theorem let_plain {c : UInt8} (h : isLet c = true) : plainB c = true := by unfold plainB; rw [h]; rfl
theorem dig_plain {c : UInt8} (h : isDig c = true) : plainB c = true := by unfold plainB; rw [h]; simp
theorem nm_plain {s : List UInt8} (h : NmL s = true) : ∀ c ∈ s, plainB c = true := fun c hc => by
  unfold NmL at h
  simp only [Bool.and_eq_true, List.all_eq_true] at h
  have := h.2 c hc
  rcases Bool.or_eq_true _ _ |>.mp this with q | q
  · exact let_plain q
  · exact dig_plain q
theorem nmB_plain (op : Nat) (h : op < 28) : (nmB op).all plainB = true := by
  have := List.all_eq_true.1 (show (List.range 28).all (fun op => (nmB op).all plainB) = true by decide +kernel) op (List.mem_range.2 h)
  exact this
theorem Tk.plain {w : Tk} (h : match w with | .reg r => r < 8 | .lab s => NmL s = true | _ => True) : ∀ c ∈ w.txt, plainB c = true := fun c hc => by
  cases w with
  | reg r =>
    simp only [Tk.txt, List.mem_cons, List.not_mem_nil, or_false] at hc
    rcases hc with rfl | rfl
    · decide
    · exact dig_plain (dig_is (by have : r < 8 := h; omega))
  | num n => exact dig_plain (numL_dig n c hc)
  | lab s =>
    simp only [Tk.txt, List.mem_cons] at hc
    rcases hc with rfl | hc
    · decide
    · exact nm_plain h c hc
  | mem n =>
    simp only [Tk.txt, List.mem_cons, List.mem_append, List.not_mem_nil, or_false] at hc
    rcases hc with rfl | hc | rfl
    · decide
    · exact dig_plain (numL_dig n c hc)
    · decide
theorem Fits.plain {fs : List UInt8} {ws : List Tk} (h : Fits fs ws) : ∀ w ∈ ws, ∀ c ∈ w.txt, plainB c = true := by
  induction h with
  | nil => intro w hw; cases hw
  | a r fs ws hr _ ih | b r fs ws hr _ ih | c r fs ws hr _ ih =>
    intro w hw
    rcases List.mem_cons.1 hw with rfl | hw
    · exact Tk.plain hr
    · exact ih w hw
  | k n _ => intro w hw; rw [List.mem_singleton.1 hw]; exact Tk.plain trivial
  | t s hs => intro w hw; rw [List.mem_singleton.1 hw]; exact Tk.plain hs
  | m n _ => intro w hw; rw [List.mem_singleton.1 hw]; exact Tk.plain trivial
theorem words_split {op : Nat} {ws : List Tk} (h : (Ln.ins op ws).Ok) : splitL 32 (Ln.ins op ws).txt = nmB op :: ws.map Tk.txt := by
  refine splitL_join (by simp) fun w hw => ?_
  rcases List.mem_cons.1 hw with rfl | hw
  · intro q
    exact (plain_nl (List.all_eq_true.1 (nmB_plain op h.1) _ q)).2 rfl
  · obtain ⟨t, ht, rfl⟩ := List.mem_map.1 hw
    intro q
    exact (plain_nl (h.2.plain t ht _ q)).2 rfl
theorem joinL_no {by_ x : UInt8} (hx : x ≠ by_) : ∀ (ws : List (List UInt8)), (∀ w ∈ ws, x ∉ w) → x ∉ joinL by_ ws
  | [], _ => by simp [joinL]
  | [w], h => h w (by simp)
  | w :: v :: ws, h => by
    show x ∉ w ++ by_ :: joinL by_ (v :: ws)
    intro q
    rcases List.mem_append.1 q with q | q
    · exact h w (by simp) q
    · rcases List.mem_cons.1 q with q | q
      · exact hx q
      · exact joinL_no hx (v :: ws) (fun y hy => h y (List.mem_cons_of_mem _ hy)) q
theorem Ln.noNl {x : Ln} (h : x.Ok) : (10 : UInt8) ∉ x.txt := by
  cases x with
  | ins op ws =>
    refine joinL_no (by decide) _ fun w hw => ?_
    rcases List.mem_cons.1 hw with rfl | hw
    · intro q
      exact (plain_nl (List.all_eq_true.1 (nmB_plain op h.1) _ q)).1 rfl
    · obtain ⟨t, ht, rfl⟩ := List.mem_map.1 hw
      intro q
      exact (plain_nl (h.2.plain t ht _ q)).1 rfl
  | lab s =>
    intro q
    rcases List.mem_append.1 q with q | q
    · exact (plain_nl (nm_plain h _ q)).1 rfl
    · exact absurd (List.mem_singleton.1 q) (by decide)
theorem lines_split {l : List Ln} (h : ∀ x ∈ l, x.Ok) : splitL 10 (txtL l) = l.map Ln.txt ++ [[]] := by
  rw [txtL_join]
  refine splitL_join (by simp) fun w hw => ?_
  rcases List.mem_append.1 hw with hw | hw
  · obtain ⟨x, hx, rfl⟩ := List.mem_map.1 hw
    exact Ln.noNl (h x hx)
  · rw [List.mem_singleton.1 hw]; simp
end Go.Proofs.YtmhfpjnkjlhbpaaGreatDoor
