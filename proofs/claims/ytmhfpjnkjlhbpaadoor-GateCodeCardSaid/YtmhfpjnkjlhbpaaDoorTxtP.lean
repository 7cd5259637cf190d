/- Code as text (plain): lines' ends, places of names, what a text comes to. -/
import Derived.Test.YtmhfpjnkjlhbpaaDoorRefT6
namespace Go.Proofs.YtmhfpjnkjlhbpaaDoor
open Go.ChangeShapes Go.WideShapes Go.ChangeAt Go.RowKit Go.Deep
set_option linter.unusedVariables false
set_option maxRecDepth 100000
set_option linter.unusedSimpArgs false

theorem plain_colon {c : UInt8} (h : plainB c = true) : c ≠ 58 := by rintro rfl; revert h; decide
theorem ins_colon {op : Nat} {ws : List Tk} (h : (Ln.ins op ws).Ok) : (58 : UInt8) ∉ (Ln.ins op ws).txt := by
  refine joinL_no (by decide) _ fun w hw => ?_
  rcases List.mem_cons.1 hw with rfl | hw
  · intro q
    exact plain_colon (List.all_eq_true.1 (nmB_plain op h.1) _ q) rfl
  · obtain ⟨t, ht, rfl⟩ := List.mem_map.1 hw
    intro q
    exact plain_colon (h.2.plain t ht _ q) rfl
theorem nmB_pos (op : Nat) (h : op < 28) : 0 < (nmB op).length := by
  have := List.all_eq_true.1 (show (List.range 28).all (fun op => decide (0 < (nmB op).length)) = true by decide +kernel) op (List.mem_range.2 h)
  exact of_decide_eq_true this
theorem ins_pos {op : Nat} {ws : List Tk} (h : (Ln.ins op ws).Ok) : 0 < (Ln.ins op ws).txt.length := by
  have := nmB_pos op h.1
  show 0 < (joinL 32 (nmB op :: ws.map Tk.txt)).length
  cases ws.map Tk.txt with
  | nil => exact this
  | cons a l => show 0 < (nmB op ++ 32 :: joinL 32 (a :: l)).length; rw [List.length_append]; omega
theorem Ln.pos {x : Ln} (h : x.Ok) : 0 < x.txt.length := by
  cases x with
  | ins op ws => exact ins_pos h
  | lab s => show 0 < (s ++ [58]).length; simp
/-- A line's last byte tells what it is. -/
theorem ins_last {op : Nat} {ws : List Tk} (h : (Ln.ins op ws).Ok) : (Ln.ins op ws).txt.getD ((Ln.ins op ws).txt.length - 1) 0 ≠ 58 := by
  intro e
  have hp := ins_pos h
  refine ins_colon h ?_
  rw [← e]
  exact getD_memB (by omega)
/-! ### places -/
def placeN (name : List UInt8) : List Ln → Nat → Int
  | [], _ => -1
  | .lab s :: l, n => if s = name then (n : Int) else placeN name l n
  | .ins _ _ :: l, n => placeN name l (n + 1)
theorem place_eq (name : List UInt8) (tail : List (List UInt8)) (ht : tail = [] ∨ tail = [[]]) : ∀ (l : List Ln) (n : Nat), (∀ x ∈ l, x.Ok) → placeL name (l.map Ln.txt ++ tail) n = placeN name l n
  | [], n, _ => by
    rcases ht with rfl | rfl
    · rfl
    · show (if ([] : List UInt8) = [] then placeL name [] n else _) = _
      rw [if_pos rfl]; rfl
  | .lab s :: l, n, h => by
    have ih := place_eq name tail ht l
    show (if s ++ [58] = [] then _ else if s ++ [58] = name ++ [58] then (n : Int) else if (s ++ [58]).getLastD 0 = 58 then placeL name (l.map Ln.txt ++ tail) n else _) = if s = name then (n : Int) else placeN name l n
    rw [if_neg (by simp)]
    by_cases c : s = name
    · rw [if_pos (by rw [c]), if_pos c]
    · rw [if_neg (fun q => c (List.append_cancel_right q)), if_neg c, if_pos (by simp), ih n (fun x hx => h x (List.mem_cons_of_mem _ hx))]
  | .ins op ws :: l, n, h => by
    have ih := place_eq name tail ht l
    have hx := h _ List.mem_cons_self
    show (if (Ln.ins op ws).txt = [] then _ else if (Ln.ins op ws).txt = name ++ [58] then (n : Int) else if (Ln.ins op ws).txt.getLastD 0 = 58 then _ else placeL name (l.map Ln.txt ++ tail) (n + 1)) = placeN name l (n + 1)
    have hp := ins_pos hx
    rw [if_neg (fun q => by rw [q] at hp; exact absurd hp (by simp)), if_neg (fun q => ins_colon hx (by rw [q]; simp)), if_neg (fun q => ins_last hx (by
      rw [List.getLastD_eq_getLast?, List.getLast?_eq_getElem?] at q
      rw [List.getD_eq_getElem?_getD]
      exact q)), ih (n + 1) (fun x hx => h x (List.mem_cons_of_mem _ hx))]
/-! ### what it comes to -/
def rawL (l : List Ln) : List Ins := l.filterMap Ln.ins?
def fixI (L : List Ln) (op : Nat) (i : Ins) (nm : List UInt8) : Ins := if hasF op 84 = true then { i with k := placeN nm L 0 } else i
def Ln.fix? (L : List Ln) : Ln → Option Ins
  | .ins op ws => some (fixI L op (accF ⟨(op : Int), 0, 0, 0, 0⟩ (flB op) ws) (labA [] ws))
  | .lab _ => none
def fixL (L : List Ln) (l : List Ln) : List Ins := l.filterMap (Ln.fix? L)
theorem raw_fix_len (L l : List Ln) : (fixL L l).length = (rawL l).length := by
  induction l with
  | nil => rfl
  | cons x l ih => cases x <;> simp [fixL, rawL, List.filterMap_cons, Ln.fix?, Ln.ins?] at ih ⊢ <;> exact ih
theorem placeN_le (name : List UInt8) : ∀ (l : List Ln) (n : Nat), placeN name l n ≤ (n : Int) + ((rawL l).length : Int)
  | [], n => by show (-1 : Int) ≤ _; omega
  | .lab s :: l, n => by
    have ih := placeN_le name l n
    show (if s = name then (n : Int) else placeN name l n) ≤ _
    have e : rawL (.lab s :: l) = rawL l := rfl
    rw [e]
    split <;> omega
  | .ins op ws :: l, n => by
    have ih := placeN_le name l (n + 1)
    have e : (rawL (.ins op ws :: l)).length = (rawL l).length + 1 := rfl
    show placeN name l (n + 1) ≤ _
    rw [e]; omega
/-- A good text. -/
structure GoodT (L : List Ln) : Prop where
  ok : ∀ x ∈ L, x.Ok
  once : ∀ k s, L[k]? = some (.lab s) → placeN s (L.take k) 0 = -1
  there : ∀ op ws, Ln.ins op ws ∈ L → hasF op 84 = true → 0 ≤ placeN (labA [] ws) L 0
  len : L.length ≤ 1000
  txt : (txtL L).length ≤ 20000
theorem labA_nm {fs : List UInt8} {ws : List Tk} (h : Fits fs ws) : ∀ l, (84 : UInt8) ∈ fs → NmL (labA l ws) = true := by
  induction h with
  | nil => intro l q; cases q
  | a r fs ws hr _ ih | b r fs ws hr _ ih | c r fs ws hr _ ih => intro l q; exact ih l ((List.mem_cons.1 q).resolve_left (by decide))
  | k n _ => intro l q; exact absurd (List.mem_singleton.1 q) (by decide)
  | t s hs => intro l _; exact hs
  | m n _ => intro l q; simp at q
theorem hasT_mem (op : Nat) (h : hasF op 84 = true) : (84 : UInt8) ∈ flB op := by
  unfold hasF at h
  obtain ⟨b, hb, e⟩ := List.any_eq_true.1 h
  have e := of_decide_eq_true e
  have : b = 84 := UInt8.toNat_inj.1 (by have h84 : (84 : UInt8).toNat = 84 := rfl; omega)
  rw [← this]; exact hb
theorem line_len {L : List Ln} (h : GoodT L) {x : Ln} (hx : x ∈ L) : x.txt.length ≤ 20000 := by
  have h2 := h.txt
  have h3 : x.txt.length ≤ (txtL L).length := by
    obtain ⟨a, b, rfl⟩ := List.append_of_mem hx
    unfold txtL
    rw [List.flatMap_append, List.flatMap_cons, List.length_append, List.length_append, List.length_append]
    omega
  omega
end Go.Proofs.YtmhfpjnkjlhbpaaDoor
