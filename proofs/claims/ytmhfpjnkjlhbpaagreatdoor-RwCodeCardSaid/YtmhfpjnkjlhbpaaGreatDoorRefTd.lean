/- RwCode. -/
import Derived.Test.YtmhfpjnkjlhbpaaGreatDoorRefTc
import Derived.Test.YtmhfpjnkjlhbpaaGreatDoorRefTf
import Derived.Laws.StructEq
namespace Go.Proofs.YtmhfpjnkjlhbpaaGreatDoor
open Go.ChangeShapes Go.WideShapes Go.ChangeAt Go.RowKit Go.Deep
set_option linter.unusedVariables false
set_option maxRecDepth 100000
set_option linter.unusedSimpArgs false
inductive Tp
  | tk (w : Tk)
  | who
  | adr (j : Nat)
def Tp.txt : Tp → List UInt8
  | .tk w => w.txt
  | .who => [36]
  | .adr j => [91, UInt8.ofNat (97 + j), 93]
def Tp.inst (base t : Nat) : Tp → Tk
  | .tk w => w
  | .who => .num (t + 1)
  | .adr j => .mem (base + j)
inductive TLn
  | ins (op : Nat) (ws : List Tp)
  | lab (s : List UInt8)
def TLn.txt : TLn → List UInt8
  | .ins op ws => nmB op ++ ws.flatMap fun x => 32 :: x.txt
  | .lab s => s ++ [58]
def TLn.inst (base t : Nat) : TLn → Ln
  | .ins op ws => .ins op (ws.map (Tp.inst base t))
  | .lab s => .lab s
def tplT (l : List TLn) : List UInt8 := l.flatMap fun x => x.txt ++ [10]
theorem join_flat (w : List UInt8) : ∀ (ws : List (List UInt8)), joinL 32 (w :: ws) = w ++ ws.flatMap (fun x => 32 :: x)
  | [] => by simp [joinL]
  | v :: ws => by
    show w ++ 32 :: joinL 32 (v :: ws) = _
    rw [join_flat v ws]
    simp
def dull (c : UInt8) : Bool := c != 36 && c != 91
theorem fill_dull (base t : Nat) (s : List UInt8) : ∀ (a : List UInt8), (a.all dull) = true → fillL base t (a ++ s) = a ++ fillL base t s
  | [], _ => rfl
  | c :: a, h => by
    simp only [List.all_cons, Bool.and_eq_true] at h
    have hc := h.1
    unfold dull at hc
    simp only [Bool.and_eq_true, bne_iff_ne, ne_eq] at hc
    show fillL base t (c :: (a ++ s)) = c :: (a ++ fillL base t s)
    rw [fillL_one base t c _ hc.1 (fun q => hc.2 q.2.1), fill_dull base t s a h.2]
theorem dig_dull {c : UInt8} (h : isDig c = true) : dull c = true := by
  have h := of_decide_eq_true h
  unfold dull
  simp only [Bool.and_eq_true, bne_iff_ne, ne_eq]
  exact ⟨fun e => by rw [e] at h; exact absurd h.1 (by decide), fun e => by rw [e] at h; exact absurd h.2 (by decide)⟩
theorem let_dull {c : UInt8} (h : isLet c = true) : dull c = true := by
  have h := of_decide_eq_true h
  unfold dull
  simp only [Bool.and_eq_true, bne_iff_ne, ne_eq]
  exact ⟨fun e => by rw [e] at h; exact absurd h.1 (by decide), fun e => by rw [e] at h; exact absurd h.1 (by decide)⟩
theorem nm_dull {s : List UInt8} (h : NmL s = true) : s.all dull = true := List.all_eq_true.2 fun c hc => by
  unfold NmL at h
  simp only [Bool.and_eq_true, List.all_eq_true] at h
  rcases Bool.or_eq_true _ _ |>.mp (h.2 c hc) with q | q
  · exact let_dull q
  · exact dig_dull q
theorem nmB_dull (op : Nat) (h : op < 28) : (nmB op).all dull = true := by
  have := List.all_eq_true.1 (show (List.range 28).all (fun op => (nmB op).all dull) = true by decide +kernel) op (List.mem_range.2 h)
  exact this
def Tp.okB : Tp → Bool
  | .tk (.reg r) => decide (r < 8)
  | .tk (.num n) => decide (n ≤ 4294967295)
  | .tk (.lab s) => NmL s
  | .tk (.mem n) => decide (n ≤ 4294967295)
  | .who => true
  | .adr j => decide (j ≤ 16)
theorem fill_tp (base t : Nat) (s : List UInt8) (x : Tp) (h : x.okB = true) : fillL base t (x.txt ++ s) = (x.inst base t).txt ++ fillL base t s := by
  match x, h with
  | .tk (.reg r), h =>
    refine fill_dull base t s _ ?_
    have hr : r < 8 := of_decide_eq_true h
    show ([114, dig r].all dull) = true
    simp only [List.all_cons, List.all_nil, Bool.and_true, Bool.and_eq_true]
    exact ⟨by decide, dig_dull (dig_is (by omega))⟩
  | .tk (.num n), _ => exact fill_dull base t s _ (List.all_eq_true.2 fun c hc => dig_dull (numL_dig n c hc))
  | .tk (.lab l), h =>
    refine fill_dull base t s _ ?_
    show ((64 :: l).all dull) = true
    simp only [List.all_cons, Bool.and_eq_true]
    exact ⟨by decide, nm_dull h⟩
  | .tk (.mem n), _ =>
    show fillL base t (91 :: (numL n ++ [93]) ++ s) = 91 :: (numL n ++ [93]) ++ fillL base t s
    have e : 91 :: (numL n ++ [93]) ++ s = 91 :: (numL n ++ (93 :: s)) := by simp
    rw [e, fillL_one base t 91 _ (by decide) (fun q => by
      have hp := numL_pos n
      have hd := numL_dig n ((numL n ++ 93 :: s).getD 0 0) (by
        cases w : numL n with
        | nil => rw [w] at hp; simp at hp
        | cons a l => simp)
      have hd := of_decide_eq_true hd
      have := q.2.2.1
      omega), fill_dull base t (93 :: s) (numL n) (List.all_eq_true.2 fun c hc => dig_dull (numL_dig n c hc))]
    have e2 : fillL base t (93 :: s) = 93 :: fillL base t s := fill_dull base t s [93] (by decide)
    rw [e2]; simp
  | .who, _ =>
    show fillL base t (36 :: s) = _
    rw [fillL_who]; rfl
  | .adr j, h =>
    have hj : j ≤ 16 := of_decide_eq_true h
    have hn : (UInt8.ofNat (97 + j)).toNat = 97 + j := by
      show (97 + j) % 256 = 97 + j
      omega
    show fillL base t (91 :: UInt8.ofNat (97 + j) :: 93 :: s) = _
    rw [fillL_at base t _ s (by omega) (by omega), hn, show 97 + j - 97 = j by omega]
    show _ = (91 :: (numL (base + j) ++ [93])) ++ fillL base t s
    simp
def TLn.okB : TLn → Bool
  | .ins op ws => decide (op < 28) && ws.all Tp.okB
  | .lab s => NmL s
theorem fill_words (base t : Nat) (s : List UInt8) : ∀ (ws : List Tp), ws.all Tp.okB = true → fillL base t ((ws.flatMap fun x => 32 :: x.txt) ++ s) = ((ws.map (Tp.inst base t)).flatMap fun x => 32 :: x.txt) ++ fillL base t s
  | [], _ => rfl
  | x :: ws, h => by
    simp only [List.all_cons, Bool.and_eq_true] at h
    rw [List.flatMap_cons, List.map_cons, List.flatMap_cons]
    have e : 32 :: x.txt ++ (ws.flatMap fun x => 32 :: x.txt) ++ s = [32] ++ (x.txt ++ ((ws.flatMap fun x => 32 :: x.txt) ++ s)) := by simp
    rw [e, fill_dull base t _ [32] (by decide), fill_tp base t _ x h.1, fill_words base t s ws h.2]
    simp
theorem line_inst (base t : Nat) (op : Nat) (ws : List Tp) : (TLn.inst base t (.ins op ws)).txt = nmB op ++ (ws.map (Tp.inst base t)).flatMap fun x => 32 :: x.txt := by
  show joinL 32 (nmB op :: (ws.map (Tp.inst base t)).map Tk.txt) = _
  rw [join_flat, List.flatMap_map]
theorem fill_txt (base t : Nat) : ∀ (l : List TLn), l.all TLn.okB = true → fillL base t (tplT l) = txtL (l.map (TLn.inst base t))
  | [], _ => rfl
  | x :: l, h => by
    simp only [List.all_cons, Bool.and_eq_true] at h
    have ih := fill_txt base t l h.2
    show fillL base t (x.txt ++ [10] ++ tplT l) = (x.inst base t).txt ++ [10] ++ txtL (l.map (TLn.inst base t))
    match x, h.1 with
    | .ins op ws, hx =>
      unfold TLn.okB at hx
      simp only [Bool.and_eq_true, decide_eq_true_eq] at hx
      rw [line_inst]
      have e : (TLn.ins op ws).txt ++ [10] ++ tplT l = nmB op ++ ((ws.flatMap fun x => 32 :: x.txt) ++ ([10] ++ tplT l)) := by
        show nmB op ++ (ws.flatMap fun x => 32 :: x.txt) ++ [10] ++ tplT l = _
        simp
      rw [e, fill_dull base t _ (nmB op) (nmB_dull op hx.1), fill_words base t _ ws hx.2, fill_dull base t _ [10] (by decide), ih]
      simp
    | .lab s, hx =>
      have e : (TLn.lab s).txt ++ [10] ++ tplT l = s ++ ([58, 10] ++ tplT l) := by
        show s ++ [58] ++ [10] ++ tplT l = _
        simp
      rw [e, fill_dull base t _ s (nm_dull hx), fill_dull base t _ [58, 10] (by decide), ih]
      show _ = s ++ [58] ++ [10] ++ _
      simp
def fitB : List UInt8 → List Tp → Bool
  | [], [] => true
  | f :: fs, .tk (.reg r) :: ws => (f == 65 || f == 66 || f == 67) && decide (r < 8) && fitB fs ws
  | [f], [.tk (.num n)] => f == 75 && decide (n ≤ 4294967295)
  | [f], [.who] => f == 75
  | [f], [.tk (.lab s)] => f == 84 && NmL s
  | [f, g], [.tk (.mem n)] => f == 77 && g == 75 && decide (n ≤ 4294967295)
  | [f, g], [.adr j] => f == 77 && g == 75 && decide (j ≤ 16)
  | _, _ => false
theorem fit_ok (base t : Nat) (hb : base ≤ 4294967000) (ht : t ≤ 1000) : ∀ (fs : List UInt8) (ws : List Tp), fitB fs ws = true → Fits fs (ws.map (Tp.inst base t)) := by
  intro fs ws
  fun_induction fitB fs ws with
  | case1 => intro _; exact .nil
  | case2 f fs r ws ih =>
    intro h
    simp only [Bool.and_eq_true, Bool.or_eq_true, beq_iff_eq, decide_eq_true_eq] at h
    obtain ⟨⟨h1, h2⟩, h3⟩ := h
    rcases h1 with (rfl | rfl) | rfl
    · exact .a r _ _ h2 (ih h3)
    · exact .b r _ _ h2 (ih h3)
    · exact .c r _ _ h2 (ih h3)
  | case3 f n =>
    intro h
    simp only [Bool.and_eq_true, beq_iff_eq, decide_eq_true_eq] at h
    obtain ⟨rfl, h2⟩ := h
    exact .k n h2
  | case4 f =>
    intro h
    have : f = 75 := by simpa using h
    subst this
    exact .k (t + 1) (by omega)
  | case5 f s =>
    intro h
    simp only [Bool.and_eq_true, beq_iff_eq] at h
    obtain ⟨rfl, h2⟩ := h
    exact .t s h2
  | case6 f g n =>
    intro h
    simp only [Bool.and_eq_true, beq_iff_eq, decide_eq_true_eq] at h
    obtain ⟨⟨rfl, rfl⟩, h2⟩ := h
    exact .m n h2
  | case7 f g j =>
    intro h
    simp only [Bool.and_eq_true, beq_iff_eq, decide_eq_true_eq] at h
    obtain ⟨⟨rfl, rfl⟩, h2⟩ := h
    exact .m (base + j) (by omega)
  | case8 => intro h; simp at h
def goodB (l : List TLn) : Bool := l.all (fun x => match x with | .ins op ws => decide (op < 28) && fitB (flB op) ws | .lab s => NmL s) && decide (l.length ≤ 100)
def onceB (L : List Ln) : Bool := (List.range L.length).all fun k => match L[k]? with | some (.lab s) => placeN s (L.take k) 0 == -1 | _ => true
def thereB (L : List Ln) : Bool := L.all fun x => match x with | .ins op ws => !hasF op 84 || decide (0 ≤ placeN (labA [] ws) L 0) | .lab _ => true
theorem tk_len {fs : List UInt8} {ws : List Tk} (h : Fits fs ws) : (ws.flatMap fun x => 32 :: x.txt).length ≤ 25 * fs.length := by
  induction h with
  | nil => simp
  | a r fs ws hr _ ih | b r fs ws hr _ ih | c r fs ws hr _ ih =>
    rw [List.flatMap_cons, List.length_append, List.length_cons]
    have : (Tk.reg r).txt.length = 2 := rfl
    rw [List.length_cons, this]
    omega
  | k n hn =>
    have := numL_ten hn
    simp only [List.flatMap_cons, List.flatMap_nil, List.append_nil, List.length_cons, Tk.txt]
    simp; omega
  | t s hs =>
    unfold NmL at hs
    simp only [Bool.and_eq_true, decide_eq_true_eq] at hs
    have := hs.1.1.2
    simp only [List.flatMap_cons, List.flatMap_nil, List.append_nil, List.length_cons, Tk.txt]
    simp; omega
  | m n hn =>
    have := numL_ten hn
    simp only [List.flatMap_cons, List.flatMap_nil, List.append_nil, List.length_cons, Tk.txt]
    simp; omega
theorem ln_len {x : Ln} (h : x.Ok) : x.txt.length ≤ 150 := by
  cases x with
  | ins op ws =>
    have h1 := tk_len h.2
    have h2 := fl_len op h.1
    have h3 : (nmB op).length ≤ 11 := by
      have := List.all_eq_true.1 (show (List.range 28).all (fun op => decide ((nmB op).length ≤ 11)) = true by decide +kernel) op (List.mem_range.2 h.1)
      exact of_decide_eq_true this
    show (joinL 32 (nmB op :: ws.map Tk.txt)).length ≤ 150
    rw [join_flat, List.flatMap_map, List.length_append]
    omega
  | lab s =>
    have hs : NmL s = true := h
    unfold NmL at hs
    simp only [Bool.and_eq_true, decide_eq_true_eq] at hs
    have := hs.1.1.2
    show (s ++ [58]).length ≤ 150
    simp; omega
theorem txt_len : ∀ (L : List Ln), (∀ x ∈ L, x.Ok) → (txtL L).length ≤ 151 * L.length
  | [], _ => by simp [txtL]
  | x :: L, h => by
    have ih := txt_len L (fun y hy => h y (List.mem_cons_of_mem _ hy))
    have hx := ln_len (h x List.mem_cons_self)
    show (x.txt ++ [10] ++ txtL L).length ≤ _
    rw [List.length_append, List.length_append, List.length_cons]
    simp
    omega
theorem good_tpl (base t : Nat) (hb : base ≤ 4294967000) (ht : t ≤ 1000) (l : List TLn) (hg : goodB l = true) (ho : onceB (l.map (TLn.inst base t)) = true) (hth : thereB (l.map (TLn.inst base t)) = true) : GoodT (l.map (TLn.inst base t)) := by
  unfold goodB at hg
  simp only [Bool.and_eq_true, decide_eq_true_eq, List.all_eq_true] at hg
  have hok : ∀ x ∈ l.map (TLn.inst base t), x.Ok := fun x hx => by
    obtain ⟨y, hy, rfl⟩ := List.mem_map.1 hx
    have := hg.1 y hy
    match y, this with
    | .ins op ws, h =>
      simp only [Bool.and_eq_true, decide_eq_true_eq] at h
      exact ⟨h.1, fit_ok base t hb ht _ _ h.2⟩
    | .lab s, h => exact h
  have hlen : (l.map (TLn.inst base t)).length ≤ 100 := by rw [List.length_map]; exact hg.2
  refine ⟨hok, fun k s e => ?_, fun op ws hm hT => ?_, by omega, ?_⟩
  · have hk : k < (l.map (TLn.inst base t)).length := (List.getElem?_eq_some_iff.1 e).1
    have := List.all_eq_true.1 ho k (List.mem_range.2 hk)
    rw [e] at this
    simpa using this
  · have := List.all_eq_true.1 hth _ hm
    dsimp only at this
    rw [hT] at this
    simpa using this
  · have := txt_len _ hok
    omega
def endT : List UInt8 := [115, 101, 116, 32, 114, 55, 32, 48, 10, 101, 110, 100, 58, 10]
def claimT : List UInt8 := [108, 111, 97, 100, 32, 114, 52, 32, 91, 98, 93, 10, 115, 101, 116, 32, 114, 53, 32, 36, 10, 115, 97, 109, 101, 32, 114, 54, 32, 114, 52, 32, 114, 53, 10, 122, 101, 114, 111, 32, 114, 54, 32, 64, 102, 114, 101, 101, 10, 115, 101, 116, 32, 114, 55, 32, 49, 10, 106, 117, 109, 112, 32, 64, 101, 110, 100, 10, 102, 114, 101, 101, 58, 10]
def proveT : List UInt8 := [108, 111, 97, 100, 32, 114, 52, 32, 91, 98, 93, 10, 115, 101, 116, 32, 114, 53, 32, 36, 10, 115, 97, 109, 101, 32, 114, 54, 32, 114, 52, 32, 114, 53, 10, 115, 111, 109, 101, 32, 114, 54, 32, 64, 109, 105, 110, 101, 10, 115, 101, 116, 32, 114, 55, 32, 50, 10, 106, 117, 109, 112, 32, 64, 101, 110, 100, 10, 109, 105, 110, 101, 58, 10]
theorem r15_end (w : World) : Calls Tryz.prog 62 #[] w fun e w' => e = .returned (.string (ba endT)) ∧ w' = w := by
  go_enter Tryz.func62, Tryz.ntmps62
  go_wp2
  go_ret
  exact ⟨rfl, rfl⟩
def codeT (base t : Nat) (T : List TLn) : List Ins := fixL (T.map (TLn.inst base t)) (T.map (TLn.inst base t))
set_option maxHeartbeats 1000000 in
theorem r15_code (T : List TLn) (base t : Nat) (hb : base ≤ 4000000000) (ht : t ≤ 1000) (h0 : 0 < (tplT T).length) (hs : (tplT T).length ≤ 2000) (hk : T.all TLn.okB = true) (hg : goodB T = true) (ho : onceB (T.map (TLn.inst base t)) = true) (hth : thereB (T.map (TLn.inst base t)) = true) (w : World) :
    Calls Tryz.prog 26 #[.string (ba (tplT T)), .int .i64 (base : Int), .int .i64 (t : Int)] w fun e w' => (∃ v, e = .returned (.tuple #[v, .int .i64 1]) ∧ w'.ownsRow w.heap.size 75 5 v (codeT base t T).length ((codeT base t T).flatMap Ins.cells)) ∧ Below w.heap.size w w' := by
  have cF := r15_fill (tplT T) base t hs hb ht w
  rw [fill_txt base t T hk] at cF
  have cP := r4_parse _ (good_tpl base t (by omega) ht T hg ho hth)
  have f1 : (ba (tplT T)).toList.isEmpty = false := by
    rw [ba_toList]
    cases q : tplT T with
    | nil => rw [q] at h0; simp at h0
    | cons a l => rfl
  unfold codeT
  rw [str_ba] at cF
  go_enter Tryz.func26, Tryz.ntmps26
  go_wp2_with fail
  refine cF.mono ?_
  rintro e W1 ⟨rfl, hB1⟩
  go_wp2_with fail
  refine (cP W1).mono ?_
  rintro e W2 ⟨⟨v, rfl, hr⟩, hB2⟩
  have HF := Lib.hid (And.intro (own_monoT hr hB1.size) (step_below hB1 hB2))
  obtain ⟨A, cap, rfl, _, _⟩ := own_cap hr
  clear cF cP hr hB1 hB2
  go_wp2
  go_ret2
  exact ⟨⟨_, rfl, HF.out.1⟩, HF.out.2⟩
theorem partR_int {P : Program} (w : World) {e : TypeId} {k : IntKind} (he : P.underlying e = some (.int k)) {xs : Array Value} {off : Nat} {v : Value} (hx : xs[off]? = some v) : (part e xs off).run P w = .ok v w := by
  simp [part, isAgg, run_underlying he, hx]
theorem insR_eql (i : Ins) (w : World) : (binOp .eql 75 (.agg (insV i)) (.agg (insV i))).run Tryz.prog w = .ok (.bool true) w := by
  rw [run_eql_struct, show (10000 : Nat) = 9999 + 1 from rfl, run_equalIn_struct w 9999 75 _ _ (by kernel_rfl) (by kernel_rfl)]
  have hf : (Tryz.prog.fieldsOf 75) = (match Tryz.prog.underlying 75 with | some (.struct fs) => fs | _ => #[]) := rfl
  rw [hf, Tryz.underlying75]
  have p0 : (part 3 (insV i) 0).run Tryz.prog w = .ok (.int .i64 i.op) w := partR_int w Tryz.underlying3 rfl
  have p1 : (part 3 (insV i) 1).run Tryz.prog w = .ok (.int .i64 i.a) w := partR_int w Tryz.underlying3 rfl
  have p2 : (part 3 (insV i) 2).run Tryz.prog w = .ok (.int .i64 i.b) w := partR_int w Tryz.underlying3 rfl
  have p3 : (part 3 (insV i) 3).run Tryz.prog w = .ok (.int .i64 i.c) w := partR_int w Tryz.underlying3 rfl
  have p4 : (part 42 (insV i) 4).run Tryz.prog w = .ok (.int .u32 i.k) w := partR_int w Tryz.underlying42 rfl
  have q : ∀ z : Int, (Op.equalIn 9999 3 (.int .i64 z) (.int .i64 z)).run Tryz.prog w = .ok (z == z) w := fun z => run_equalIn_int w 9998 3 .i64 .i64 z z Tryz.underlying3
  have q4 : ∀ z : Int, (Op.equalIn 9999 42 (.int .u32 z) (.int .u32 z)).run Tryz.prog w = .ok (z == z) w := fun z => run_equalIn_int w 9998 42 .u32 .u32 z z Tryz.underlying42
  simp [Op.eqFields, Sem.run_bind, Sem.run_ite, p0, p1, p2, p3, p4, q, q4]
theorem insR_neq (i : Ins) (w : World) : (binOp .neq 75 (.agg (insV i)) (.agg (insV i))).run Tryz.prog w = .ok (.bool false) w := by
  have h := insR_eql i w
  rw [run_eql_struct] at h
  rw [run_neq_struct]
  revert h
  generalize (Op.equalIn 10000 75 (.agg (insV i)) (.agg (insV i))).run Tryz.prog w = r
  cases r <;> simp
set_option maxHeartbeats 2000000 in
theorem same15_any (l : List Ins) (hl : l.length ≤ 1000) (A A2 : Option Addr) (c c2 : Nat) (w : World) (h1 : SlE w A l.length 5 (fun i => (l.getD i default).cells)) (h2 : SlE w A2 l.length 5 (fun i => (l.getD i default).cells)) :
    Calls Tryz.prog 63 #[.slice A l.length c, .slice A2 l.length c2] w fun e w' => e = .returned (.bool true) ∧ Below w.heap.size w w' := by
  obtain ⟨n, hn⟩ : ∃ n, l.length = n := ⟨_, rfl⟩
  rw [hn] at h1 h2 hl ⊢
  have HS := Lib.hid (And.intro h1 h2)
  have hni : (n : Int) ≤ 1000 := by omega
  have hnn : ((n : Int) != (n : Int)) = false := by simp
  clear h1 h2 hn
  go_enter Tryz.func63, Tryz.ntmps63
  go_wp2_with fail
  go_loopw [5] (fun v5 wr => ∃ k : Nat, k ≤ n ∧ v5 = .int .i64 k ∧ Below w.heap.size w wr) (fun v5 _ => n - (intOf v5).toNat)
  case atStart => exact ⟨0, Nat.zero_le _, rfl, Below.refl _ _⟩
  case round =>
    obtain ⟨k, hk, rfl, hB⟩ := hrel
    have hk0 : (0 : Int) ≤ (k : Int) := by omega
    by_cases hkn : k < n
    · have hki : (k : Int) < (n : Int) := by omega
      obtain ⟨g, o, rfl, hg, hc⟩ := HS.out.1 (by omega)
      obtain ⟨g2, o2, rfl, hg2, hc2⟩ := HS.out.2 (by omega)
      obtain ⟨x, hx⟩ : ∃ x, l.getD k default = x := ⟨_, rfl⟩
      have r1 : w.rangeAt g (o + k * 5) x.cells := fun j u hu => by rw [← hx] at hu; exact hc k hkn j u hu
      have r2 : w.rangeAt g2 (o2 + k * 5) x.cells := fun j u hu => by rw [← hx] at hu; exact hc2 k hkn j u hu
      have hB1 := hB.trans ((show Below wr.heap.size wr wr.drew from ⟨rfl, rfl, rfl, Nat.le_refl _, fun _ _ => rfl⟩).mono hB.size)
      have HR := Lib.hid (And.intro r1 (And.intro r2 (And.intro hg (And.intro hg2 hB1))))
      have hq := insR_neq x
      clear hc hc2 hx r1 r2 hg hg2 hB hB1
      go_wp2_with fail
      refine startG (fun W' => Below wr.drew.heap.size wr.drew W') 8 (by kernel_rfl) ?_
      generalize wr.drew = W0 at HR ⊢
      have hS0 : Below W0.heap.size W0 W0 := Below.refl _ _
      refine takeG0 (i := 0) (v := .slice (some ⟨g, o, none⟩) n c) rfl (by kernel_rfl) (by kernel_rfl) (by kernel_rfl) (by kernel_rfl) (fun _ _ _ h => h) (Or.inl ⟨by rfl, fun W hW => by go_simp⟩) hS0 ?_
      simp only [Act.put, List.getElem_toArray, List.getElem_cons_zero, List.getElem_cons_succ, List.setIfInBounds_toArray, List.set_cons_zero, List.set_cons_succ]
      refine takeG0 (i := 1) (v := .int .i64 (k : Int)) rfl (by kernel_rfl) (by kernel_rfl) (by kernel_rfl) (by kernel_rfl) (fun _ _ _ h => h) (Or.inl ⟨by rfl, fun W hW => by go_simp⟩) hS0 ?_
      simp only [Act.put, List.getElem_toArray, List.getElem_cons_zero, List.getElem_cons_succ, List.setIfInBounds_toArray, List.set_cons_zero, List.set_cons_succ]
      refine takeG0 (i := 2) (v := .pointer (some ⟨g, o + k * 5, none⟩)) rfl (by kernel_rfl) (by kernel_rfl) (by kernel_rfl) (by kernel_rfl) (fun _ _ _ h => h) (Or.inl ⟨by rfl, fun W hW => by go_simp⟩) hS0 ?_
      simp only [Act.put, List.getElem_toArray, List.getElem_cons_zero, List.getElem_cons_succ, List.setIfInBounds_toArray, List.set_cons_zero, List.set_cons_succ]
      refine takeG (i := 3) (v := .agg x.cells.toArray) rfl (by kernel_rfl) (by kernel_rfl) (by kernel_rfl) (by kernel_rfl) (fun _ _ _ h => h) (yieldsIf_load_mid (by rfl) 75 (.tmp 19) rfl g (o + k * 5) rfl x.cells _ (fun W hW => fun j u hu => keepAt hW (Nat.lt_of_lt_of_le HR.out.2.2.1 HR.out.2.2.2.2.size) (keepAt HR.out.2.2.2.2 HR.out.2.2.1 (HR.out.1 j u hu))) Tryz.underlying75 rfl insR_info) hS0 ?_
      simp only [Act.put, List.getElem_toArray, List.getElem_cons_zero, List.getElem_cons_succ, List.setIfInBounds_toArray, List.set_cons_zero, List.set_cons_succ]
      refine takeG0 (i := 4) (v := .slice (some ⟨g2, o2, none⟩) n c2) rfl (by kernel_rfl) (by kernel_rfl) (by kernel_rfl) (by kernel_rfl) (fun _ _ _ h => h) (Or.inl ⟨by rfl, fun W hW => by go_simp⟩) hS0 ?_
      simp only [Act.put, List.getElem_toArray, List.getElem_cons_zero, List.getElem_cons_succ, List.setIfInBounds_toArray, List.set_cons_zero, List.set_cons_succ]
      refine takeG0 (i := 5) (v := .int .i64 (k : Int)) rfl (by kernel_rfl) (by kernel_rfl) (by kernel_rfl) (by kernel_rfl) (fun _ _ _ h => h) (Or.inl ⟨by rfl, fun W hW => by go_simp⟩) hS0 ?_
      simp only [Act.put, List.getElem_toArray, List.getElem_cons_zero, List.getElem_cons_succ, List.setIfInBounds_toArray, List.set_cons_zero, List.set_cons_succ]
      refine takeG0 (i := 6) (v := .pointer (some ⟨g2, o2 + k * 5, none⟩)) rfl (by kernel_rfl) (by kernel_rfl) (by kernel_rfl) (by kernel_rfl) (fun _ _ _ h => h) (Or.inl ⟨by rfl, fun W hW => by go_simp⟩) hS0 ?_
      simp only [Act.put, List.getElem_toArray, List.getElem_cons_zero, List.getElem_cons_succ, List.setIfInBounds_toArray, List.set_cons_zero, List.set_cons_succ]
      refine takeG (i := 7) (v := .agg x.cells.toArray) rfl (by kernel_rfl) (by kernel_rfl) (by kernel_rfl) (by kernel_rfl) (fun _ _ _ h => h) (yieldsIf_load_mid (by rfl) 75 (.tmp 23) rfl g2 (o2 + k * 5) rfl x.cells _ (fun W hW => fun j u hu => keepAt hW (Nat.lt_of_lt_of_le HR.out.2.2.2.1 HR.out.2.2.2.2.size) (keepAt HR.out.2.2.2.2 HR.out.2.2.2.1 (HR.out.2.1 j u hu))) Tryz.underlying75 rfl insR_info) hS0 ?_
      simp only [Act.put, List.getElem_toArray, List.getElem_cons_zero, List.getElem_cons_succ, List.setIfInBounds_toArray, List.set_cons_zero, List.set_cons_succ]
      refine lastG (by kernel_rfl) rfl (by kernel_rfl) (fun K hK => ?_)
      replace hq : ∀ w, (binOp .neq 75 (.agg x.cells.toArray) (.agg x.cells.toArray)).run Tryz.prog w = .ok (.bool false) w := hq
      go_simp
      refine hK.out _ _ ?_
      clear hK K
      go_wp2
      go_roundw
      case rel => exact ⟨k + 1, by omega, by go_num, HR.out.2.2.2.2⟩
      case measure => simp [intOf]; omega
    · obtain rfl : k = n := by omega
      have hki : ¬ (k : Int) < (k : Int) := by omega
      have HF := Lib.hid hB
      clear hB
      go_wp2
      go_ret
      exact ⟨rfl, HF.out⟩
theorem truth15 (w : World) : Calls Tryz.prog 47 #[.bool true] w fun e w' => e = .returned (.int .i64 1) ∧ Below w.heap.size w w' := by
  have hB := Below.refl w.heap.size w
  go_enter Tryz.func47, Tryz.ntmps47
  go_wp2
  go_ret
  exact ⟨rfl, hB⟩
theorem same15 (l : List Ins) (hl : l.length ≤ 1000) (A A2 : Option Addr) (c c2 : Nat) (w : World) (h1 : SlE w A l.length 5 (fun i => (l.getD i default).cells)) (h2 : SlE w A2 l.length 5 (fun i => (l.getD i default).cells)) :
    Calls Tryz.prog 28 #[.slice A l.length c, .slice A2 l.length c2] w fun e w' => e = .returned (.int .i64 1) ∧ Below w.heap.size w w' := by
  have cS := same15_any l hl A A2 c c2 w h1 h2
  go_enter Tryz.func28, Tryz.ntmps28
  go_wp2_with fail
  refine cS.mono ?_
  rintro e W1 ⟨rfl, hB1⟩
  go_wp2_with fail
  refine (truth15 W1).mono ?_
  rintro e W2 ⟨rfl, hB2⟩
  have HF := Lib.hid (step_below hB1 hB2)
  clear cS hB1 hB2
  go_wp2
  go_ret
  exact ⟨rfl, HF.out⟩
end Go.Proofs.YtmhfpjnkjlhbpaaGreatDoor
