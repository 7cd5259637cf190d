/- Texts with gaps (plain): letters for addresses, $ for who asks; filled in they are lines; what these come to. -/
import Derived.Test.YtmhfpjnkjlhbpaaDoorTxtP
import Derived.Test.YtmhfpjnkjlhbpaaDoorRefT5
namespace Go.Proofs.YtmhfpjnkjlhbpaaDoor
open Go.ChangeShapes Go.WideShapes Go.ChangeAt Go.RowKit Go.Deep
set_option linter.unusedVariables false
set_option maxRecDepth 100000
set_option linter.unusedSimpArgs false

inductive Tp
  | tk (w : Tk)
  | who
  | adr (j : Nat)
def Tp.txt : Tp → List UInt8
  | .tk w => w.txt
  | .who => [36]
  | .adr j => [91, UInt8.ofNat (97 + j), 93]
def Tp.inst (base t : Nat) : Tp → Tk
  | .tk w => w
  | .who => .num (t + 1)
  | .adr j => .mem (base + j)
inductive TLn
  | ins (op : Nat) (ws : List Tp)
  | lab (s : List UInt8)
def TLn.txt : TLn → List UInt8
  | .ins op ws => nmB op ++ ws.flatMap fun x => 32 :: x.txt
  | .lab s => s ++ [58]
def TLn.inst (base t : Nat) : TLn → Ln
  | .ins op ws => .ins op (ws.map (Tp.inst base t))
  | .lab s => .lab s
def tplT (l : List TLn) : List UInt8 := l.flatMap fun x => x.txt ++ [10]
theorem join_flat (w : List UInt8) : ∀ (ws : List (List UInt8)), joinL 32 (w :: ws) = w ++ ws.flatMap (fun x => 32 :: x)
  | [] => by simp [joinL]
  | v :: ws => by
    show w ++ 32 :: joinL 32 (v :: ws) = _
    rw [join_flat v ws]
    simp
/-- A byte that fills nothing. -/
def dull (c : UInt8) : Bool := c != 36 && c != 91
theorem fill_dull (base t : Nat) (s : List UInt8) : ∀ (a : List UInt8), (a.all dull) = true → fillL base t (a ++ s) = a ++ fillL base t s
  | [], _ => rfl
  | c :: a, h => by
    simp only [List.all_cons, Bool.and_eq_true] at h
    have hc := h.1
    unfold dull at hc
    simp only [Bool.and_eq_true, bne_iff_ne, ne_eq] at hc
    show fillL base t (c :: (a ++ s)) = c :: (a ++ fillL base t s)
    rw [fillL_one base t c _ hc.1 (fun q => hc.2 q.2.1), fill_dull base t s a h.2]
theorem dig_dull {c : UInt8} (h : isDig c = true) : dull c = true := by
  have h := of_decide_eq_true h
  unfold dull
  simp only [Bool.and_eq_true, bne_iff_ne, ne_eq]
  exact ⟨fun e => by rw [e] at h; exact absurd h.1 (by decide), fun e => by rw [e] at h; exact absurd h.2 (by decide)⟩
theorem let_dull {c : UInt8} (h : isLet c = true) : dull c = true := by
  have h := of_decide_eq_true h
  unfold dull
  simp only [Bool.and_eq_true, bne_iff_ne, ne_eq]
  exact ⟨fun e => by rw [e] at h; exact absurd h.1 (by decide), fun e => by rw [e] at h; exact absurd h.1 (by decide)⟩
theorem nm_dull {s : List UInt8} (h : NmL s = true) : s.all dull = true := List.all_eq_true.2 fun c hc => by
  unfold NmL at h
  simp only [Bool.and_eq_true, List.all_eq_true] at h
  rcases Bool.or_eq_true _ _ |>.mp (h.2 c hc) with q | q
  · exact let_dull q
  · exact dig_dull q
theorem nmB_dull (op : Nat) (h : op < 28) : (nmB op).all dull = true := by
  have := List.all_eq_true.1 (show (List.range 28).all (fun op => (nmB op).all dull) = true by decide +kernel) op (List.mem_range.2 h)
  exact this
/-- A gap that may stand there. -/
def Tp.okB : Tp → Bool
  | .tk (.reg r) => decide (r < 8)
  | .tk (.num n) => decide (n ≤ 4294967295)
  | .tk (.lab s) => NmL s
  | .tk (.mem n) => decide (n ≤ 4294967295)
  | .who => true
  | .adr j => decide (j ≤ 16)
theorem fill_tp (base t : Nat) (s : List UInt8) (x : Tp) (h : x.okB = true) : fillL base t (x.txt ++ s) = (x.inst base t).txt ++ fillL base t s := by
  match x, h with
  | .tk (.reg r), h =>
    refine fill_dull base t s _ ?_
    have hr : r < 8 := of_decide_eq_true h
    show ([114, dig r].all dull) = true
    simp only [List.all_cons, List.all_nil, Bool.and_true, Bool.and_eq_true]
    exact ⟨by decide, dig_dull (dig_is (by omega))⟩
  | .tk (.num n), _ => exact fill_dull base t s _ (List.all_eq_true.2 fun c hc => dig_dull (numL_dig n c hc))
  | .tk (.lab l), h =>
    refine fill_dull base t s _ ?_
    show ((64 :: l).all dull) = true
    simp only [List.all_cons, Bool.and_eq_true]
    exact ⟨by decide, nm_dull h⟩
  | .tk (.mem n), _ =>
    show fillL base t (91 :: (numL n ++ [93]) ++ s) = 91 :: (numL n ++ [93]) ++ fillL base t s
    have e : 91 :: (numL n ++ [93]) ++ s = 91 :: (numL n ++ (93 :: s)) := by simp
    rw [e, fillL_one base t 91 _ (by decide) (fun q => by
      have hp := numL_pos n
      have hd := numL_dig n ((numL n ++ 93 :: s).getD 0 0) (by
        cases w : numL n with
        | nil => rw [w] at hp; simp at hp
        | cons a l => simp)
      have hd := of_decide_eq_true hd
      have := q.2.2.1
      omega), fill_dull base t (93 :: s) (numL n) (List.all_eq_true.2 fun c hc => dig_dull (numL_dig n c hc))]
    have e2 : fillL base t (93 :: s) = 93 :: fillL base t s := fill_dull base t s [93] (by decide)
    rw [e2]; simp
  | .who, _ =>
    show fillL base t (36 :: s) = _
    rw [fillL_who]; rfl
  | .adr j, h =>
    have hj : j ≤ 16 := of_decide_eq_true h
    have hn : (UInt8.ofNat (97 + j)).toNat = 97 + j := by
      show (97 + j) % 256 = 97 + j
      omega
    show fillL base t (91 :: UInt8.ofNat (97 + j) :: 93 :: s) = _
    rw [fillL_at base t _ s (by omega) (by omega), hn, show 97 + j - 97 = j by omega]
    show _ = (91 :: (numL (base + j) ++ [93])) ++ fillL base t s
    simp
def TLn.okB : TLn → Bool
  | .ins op ws => decide (op < 28) && ws.all Tp.okB
  | .lab s => NmL s
theorem fill_words (base t : Nat) (s : List UInt8) : ∀ (ws : List Tp), ws.all Tp.okB = true → fillL base t ((ws.flatMap fun x => 32 :: x.txt) ++ s) = ((ws.map (Tp.inst base t)).flatMap fun x => 32 :: x.txt) ++ fillL base t s
  | [], _ => rfl
  | x :: ws, h => by
    simp only [List.all_cons, Bool.and_eq_true] at h
    rw [List.flatMap_cons, List.map_cons, List.flatMap_cons]
    have e : 32 :: x.txt ++ (ws.flatMap fun x => 32 :: x.txt) ++ s = [32] ++ (x.txt ++ ((ws.flatMap fun x => 32 :: x.txt) ++ s)) := by simp
    rw [e, fill_dull base t _ [32] (by decide), fill_tp base t _ x h.1, fill_words base t s ws h.2]
    simp
theorem line_inst (base t : Nat) (op : Nat) (ws : List Tp) : (TLn.inst base t (.ins op ws)).txt = nmB op ++ (ws.map (Tp.inst base t)).flatMap fun x => 32 :: x.txt := by
  show joinL 32 (nmB op :: (ws.map (Tp.inst base t)).map Tk.txt) = _
  rw [join_flat, List.flatMap_map]
theorem fill_txt (base t : Nat) : ∀ (l : List TLn), l.all TLn.okB = true → fillL base t (tplT l) = txtL (l.map (TLn.inst base t))
  | [], _ => rfl
  | x :: l, h => by
    simp only [List.all_cons, Bool.and_eq_true] at h
    have ih := fill_txt base t l h.2
    show fillL base t (x.txt ++ [10] ++ tplT l) = (x.inst base t).txt ++ [10] ++ txtL (l.map (TLn.inst base t))
    match x, h.1 with
    | .ins op ws, hx =>
      unfold TLn.okB at hx
      simp only [Bool.and_eq_true, decide_eq_true_eq] at hx
      rw [line_inst]
      have e : (TLn.ins op ws).txt ++ [10] ++ tplT l = nmB op ++ ((ws.flatMap fun x => 32 :: x.txt) ++ ([10] ++ tplT l)) := by
        show nmB op ++ (ws.flatMap fun x => 32 :: x.txt) ++ [10] ++ tplT l = _
        simp
      rw [e, fill_dull base t _ (nmB op) (nmB_dull op hx.1), fill_words base t _ ws hx.2, fill_dull base t _ [10] (by decide), ih]
      simp
    | .lab s, hx =>
      have e : (TLn.lab s).txt ++ [10] ++ tplT l = s ++ ([58, 10] ++ tplT l) := by
        show s ++ [58] ++ [10] ++ tplT l = _
        simp
      rw [e, fill_dull base t _ s (nm_dull hx), fill_dull base t _ [58, 10] (by decide), ih]
      show _ = s ++ [58] ++ [10] ++ _
      simp
/-! ### good texts -/
/-- Fields, and gaps that fit. -/
def fitB : List UInt8 → List Tp → Bool
  | [], [] => true
  | f :: fs, .tk (.reg r) :: ws => (f == 65 || f == 66 || f == 67) && decide (r < 8) && fitB fs ws
  | [f], [.tk (.num n)] => f == 75 && decide (n ≤ 4294967295)
  | [f], [.who] => f == 75
  | [f], [.tk (.lab s)] => f == 84 && NmL s
  | [f, g], [.tk (.mem n)] => f == 77 && g == 75 && decide (n ≤ 4294967295)
  | [f, g], [.adr j] => f == 77 && g == 75 && decide (j ≤ 16)
  | _, _ => false
theorem fit_ok (base t : Nat) (hb : base ≤ 4294967000) (ht : t ≤ 1000) : ∀ (fs : List UInt8) (ws : List Tp), fitB fs ws = true → Fits fs (ws.map (Tp.inst base t)) := by
  intro fs ws
  fun_induction fitB fs ws with
  | case1 => intro _; exact .nil
  | case2 f fs r ws ih =>
    intro h
    simp only [Bool.and_eq_true, Bool.or_eq_true, beq_iff_eq, decide_eq_true_eq] at h
    obtain ⟨⟨h1, h2⟩, h3⟩ := h
    rcases h1 with (rfl | rfl) | rfl
    · exact .a r _ _ h2 (ih h3)
    · exact .b r _ _ h2 (ih h3)
    · exact .c r _ _ h2 (ih h3)
  | case3 f n =>
    intro h
    simp only [Bool.and_eq_true, beq_iff_eq, decide_eq_true_eq] at h
    obtain ⟨rfl, h2⟩ := h
    exact .k n h2
  | case4 f =>
    intro h
    have : f = 75 := by simpa using h
    subst this
    exact .k (t + 1) (by omega)
  | case5 f s =>
    intro h
    simp only [Bool.and_eq_true, beq_iff_eq] at h
    obtain ⟨rfl, h2⟩ := h
    exact .t s h2
  | case6 f g n =>
    intro h
    simp only [Bool.and_eq_true, beq_iff_eq, decide_eq_true_eq] at h
    obtain ⟨⟨rfl, rfl⟩, h2⟩ := h
    exact .m n h2
  | case7 f g j =>
    intro h
    simp only [Bool.and_eq_true, beq_iff_eq, decide_eq_true_eq] at h
    obtain ⟨⟨rfl, rfl⟩, h2⟩ := h
    exact .m (base + j) (by omega)
  | case8 => intro h; simp at h
def goodB (l : List TLn) : Bool := l.all (fun x => match x with | .ins op ws => decide (op < 28) && fitB (flB op) ws | .lab s => NmL s) && decide (l.length ≤ 100)
def onceB (L : List Ln) : Bool := (List.range L.length).all fun k => match L[k]? with | some (.lab s) => placeN s (L.take k) 0 == -1 | _ => true
def thereB (L : List Ln) : Bool := L.all fun x => match x with | .ins op ws => !hasF op 84 || decide (0 ≤ placeN (labA [] ws) L 0) | .lab _ => true
theorem tk_len {fs : List UInt8} {ws : List Tk} (h : Fits fs ws) : (ws.flatMap fun x => 32 :: x.txt).length ≤ 25 * fs.length := by
  induction h with
  | nil => simp
  | a r fs ws hr _ ih | b r fs ws hr _ ih | c r fs ws hr _ ih =>
    rw [List.flatMap_cons, List.length_append, List.length_cons]
    have : (Tk.reg r).txt.length = 2 := rfl
    rw [List.length_cons, this]
    omega
  | k n hn =>
    have := numL_ten hn
    simp only [List.flatMap_cons, List.flatMap_nil, List.append_nil, List.length_cons, Tk.txt]
    simp; omega
  | t s hs =>
    unfold NmL at hs
    simp only [Bool.and_eq_true, decide_eq_true_eq] at hs
    have := hs.1.1.2
    simp only [List.flatMap_cons, List.flatMap_nil, List.append_nil, List.length_cons, Tk.txt]
    simp; omega
  | m n hn =>
    have := numL_ten hn
    simp only [List.flatMap_cons, List.flatMap_nil, List.append_nil, List.length_cons, Tk.txt]
    simp; omega
theorem ln_len {x : Ln} (h : x.Ok) : x.txt.length ≤ 150 := by
  cases x with
  | ins op ws =>
    have h1 := tk_len h.2
    have h2 := fl_len op h.1
    have h3 : (nmB op).length ≤ 11 := by
      have := List.all_eq_true.1 (show (List.range 28).all (fun op => decide ((nmB op).length ≤ 11)) = true by decide +kernel) op (List.mem_range.2 h.1)
      exact of_decide_eq_true this
    show (joinL 32 (nmB op :: ws.map Tk.txt)).length ≤ 150
    rw [join_flat, List.flatMap_map, List.length_append]
    omega
  | lab s =>
    have hs : NmL s = true := h
    unfold NmL at hs
    simp only [Bool.and_eq_true, decide_eq_true_eq] at hs
    have := hs.1.1.2
    show (s ++ [58]).length ≤ 150
    simp; omega
theorem txt_len : ∀ (L : List Ln), (∀ x ∈ L, x.Ok) → (txtL L).length ≤ 151 * L.length
  | [], _ => by simp [txtL]
  | x :: L, h => by
    have ih := txt_len L (fun y hy => h y (List.mem_cons_of_mem _ hy))
    have hx := ln_len (h x List.mem_cons_self)
    show (x.txt ++ [10] ++ txtL L).length ≤ _
    rw [List.length_append, List.length_append, List.length_cons]
    simp
    omega
theorem good_tpl (base t : Nat) (hb : base ≤ 4294967000) (ht : t ≤ 1000) (l : List TLn) (hg : goodB l = true) (ho : onceB (l.map (TLn.inst base t)) = true) (hth : thereB (l.map (TLn.inst base t)) = true) : GoodT (l.map (TLn.inst base t)) := by
  unfold goodB at hg
  simp only [Bool.and_eq_true, decide_eq_true_eq, List.all_eq_true] at hg
  have hok : ∀ x ∈ l.map (TLn.inst base t), x.Ok := fun x hx => by
    obtain ⟨y, hy, rfl⟩ := List.mem_map.1 hx
    have := hg.1 y hy
    match y, this with
    | .ins op ws, h =>
      simp only [Bool.and_eq_true, decide_eq_true_eq] at h
      exact ⟨h.1, fit_ok base t hb ht _ _ h.2⟩
    | .lab s, h => exact h
  have hlen : (l.map (TLn.inst base t)).length ≤ 100 := by rw [List.length_map]; exact hg.2
  refine ⟨hok, fun k s e => ?_, fun op ws hm hT => ?_, by omega, ?_⟩
  · have hk : k < (l.map (TLn.inst base t)).length := (List.getElem?_eq_some_iff.1 e).1
    have := List.all_eq_true.1 ho k (List.mem_range.2 hk)
    rw [e] at this
    simpa using this
  · have := List.all_eq_true.1 hth _ hm
    dsimp only at this
    rw [hT] at this
    simpa using this
  · have := txt_len _ hok
    omega
end Go.Proofs.YtmhfpjnkjlhbpaaDoor
