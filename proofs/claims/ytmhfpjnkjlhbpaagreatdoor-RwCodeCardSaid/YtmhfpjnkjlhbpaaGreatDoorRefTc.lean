/- RwCode. -/
import Derived.Test.YtmhfpjnkjlhbpaaGreatDoorRefTf
import Derived.Test.YtmhfpjnkjlhbpaaGreatDoorIsaMvd
import Derived.Test.YtmhfpjnkjlhbpaaGreatDoorMPlain
import Derived.Laws.OwnMore
namespace Go.Proofs.YtmhfpjnkjlhbpaaGreatDoor
open Go.ChangeShapes Go.WideShapes Go.ChangeAt Go.RowKit Go.Deep
set_option linter.unusedVariables false
set_option maxRecDepth 100000
set_option linter.unusedSimpArgs false
theorem plain_colon {c : UInt8} (h : plainB c = true) : c ≠ 58 := by rintro rfl; revert h; decide
theorem ins_colon {op : Nat} {ws : List Tk} (h : (Ln.ins op ws).Ok) : (58 : UInt8) ∉ (Ln.ins op ws).txt := by
  refine joinL_no (by decide) _ fun w hw => ?_
  rcases List.mem_cons.1 hw with rfl | hw
  · intro q
    exact plain_colon (List.all_eq_true.1 (nmB_plain op h.1) _ q) rfl
  · obtain ⟨t, ht, rfl⟩ := List.mem_map.1 hw
    intro q
    exact plain_colon (h.2.plain t ht _ q) rfl
theorem nmB_pos (op : Nat) (h : op < 28) : 0 < (nmB op).length := by
  have := List.all_eq_true.1 (show (List.range 28).all (fun op => decide (0 < (nmB op).length)) = true by decide +kernel) op (List.mem_range.2 h)
  exact of_decide_eq_true this
theorem ins_pos {op : Nat} {ws : List Tk} (h : (Ln.ins op ws).Ok) : 0 < (Ln.ins op ws).txt.length := by
  have := nmB_pos op h.1
  show 0 < (joinL 32 (nmB op :: ws.map Tk.txt)).length
  cases ws.map Tk.txt with
  | nil => exact this
  | cons a l => show 0 < (nmB op ++ 32 :: joinL 32 (a :: l)).length; rw [List.length_append]; omega
theorem Ln.pos {x : Ln} (h : x.Ok) : 0 < x.txt.length := by
  cases x with
  | ins op ws => exact ins_pos h
  | lab s => show 0 < (s ++ [58]).length; simp
theorem ins_last {op : Nat} {ws : List Tk} (h : (Ln.ins op ws).Ok) : (Ln.ins op ws).txt.getD ((Ln.ins op ws).txt.length - 1) 0 ≠ 58 := by
  intro e
  have hp := ins_pos h
  refine ins_colon h ?_
  rw [← e]
  exact getD_memB (by omega)
def placeN (name : List UInt8) : List Ln → Nat → Int
  | [], _ => -1
  | .lab s :: l, n => if s = name then (n : Int) else placeN name l n
  | .ins _ _ :: l, n => placeN name l (n + 1)
theorem place_eq (name : List UInt8) (tail : List (List UInt8)) (ht : tail = [] ∨ tail = [[]]) : ∀ (l : List Ln) (n : Nat), (∀ x ∈ l, x.Ok) → placeL name (l.map Ln.txt ++ tail) n = placeN name l n
  | [], n, _ => by
    rcases ht with rfl | rfl
    · rfl
    · show (if ([] : List UInt8) = [] then placeL name [] n else _) = _
      rw [if_pos rfl]; rfl
  | .lab s :: l, n, h => by
    have ih := place_eq name tail ht l
    show (if s ++ [58] = [] then _ else if s ++ [58] = name ++ [58] then (n : Int) else if (s ++ [58]).getLastD 0 = 58 then placeL name (l.map Ln.txt ++ tail) n else _) = if s = name then (n : Int) else placeN name l n
    rw [if_neg (by simp)]
    by_cases c : s = name
    · rw [if_pos (by rw [c]), if_pos c]
    · rw [if_neg (fun q => c (List.append_cancel_right q)), if_neg c, if_pos (by simp), ih n (fun x hx => h x (List.mem_cons_of_mem _ hx))]
  | .ins op ws :: l, n, h => by
    have ih := place_eq name tail ht l
    have hx := h _ List.mem_cons_self
    show (if (Ln.ins op ws).txt = [] then _ else if (Ln.ins op ws).txt = name ++ [58] then (n : Int) else if (Ln.ins op ws).txt.getLastD 0 = 58 then _ else placeL name (l.map Ln.txt ++ tail) (n + 1)) = placeN name l (n + 1)
    have hp := ins_pos hx
    rw [if_neg (fun q => by rw [q] at hp; exact absurd hp (by simp)), if_neg (fun q => ins_colon hx (by rw [q]; simp)), if_neg (fun q => ins_last hx (by
      rw [List.getLastD_eq_getLast?, List.getLast?_eq_getElem?] at q
      rw [List.getD_eq_getElem?_getD]
      exact q)), ih (n + 1) (fun x hx => h x (List.mem_cons_of_mem _ hx))]
def rawL (l : List Ln) : List Ins := l.filterMap Ln.ins?
def fixI (L : List Ln) (op : Nat) (i : Ins) (nm : List UInt8) : Ins := if hasF op 84 = true then { i with k := placeN nm L 0 } else i
def Ln.fix? (L : List Ln) : Ln → Option Ins
  | .ins op ws => some (fixI L op (accF ⟨(op : Int), 0, 0, 0, 0⟩ (flB op) ws) (labA [] ws))
  | .lab _ => none
def fixL (L : List Ln) (l : List Ln) : List Ins := l.filterMap (Ln.fix? L)
theorem raw_fix_len (L l : List Ln) : (fixL L l).length = (rawL l).length := by
  induction l with
  | nil => rfl
  | cons x l ih => cases x <;> simp [fixL, rawL, List.filterMap_cons, Ln.fix?, Ln.ins?] at ih ⊢ <;> exact ih
theorem placeN_le (name : List UInt8) : ∀ (l : List Ln) (n : Nat), placeN name l n ≤ (n : Int) + ((rawL l).length : Int)
  | [], n => by show (-1 : Int) ≤ _; omega
  | .lab s :: l, n => by
    have ih := placeN_le name l n
    show (if s = name then (n : Int) else placeN name l n) ≤ _
    have e : rawL (.lab s :: l) = rawL l := rfl
    rw [e]
    split <;> omega
  | .ins op ws :: l, n => by
    have ih := placeN_le name l (n + 1)
    have e : (rawL (.ins op ws :: l)).length = (rawL l).length + 1 := rfl
    show placeN name l (n + 1) ≤ _
    rw [e]; omega
structure GoodT (L : List Ln) : Prop where
  ok : ∀ x ∈ L, x.Ok
  once : ∀ k s, L[k]? = some (.lab s) → placeN s (L.take k) 0 = -1
  there : ∀ op ws, Ln.ins op ws ∈ L → hasF op 84 = true → 0 ≤ placeN (labA [] ws) L 0
  len : L.length ≤ 1000
  txt : (txtL L).length ≤ 20000
theorem labA_nm {fs : List UInt8} {ws : List Tk} (h : Fits fs ws) : ∀ l, (84 : UInt8) ∈ fs → NmL (labA l ws) = true := by
  induction h with
  | nil => intro l q; cases q
  | a r fs ws hr _ ih | b r fs ws hr _ ih | c r fs ws hr _ ih => intro l q; exact ih l ((List.mem_cons.1 q).resolve_left (by decide))
  | k n _ => intro l q; exact absurd (List.mem_singleton.1 q) (by decide)
  | t s hs => intro l _; exact hs
  | m n _ => intro l q; simp at q
theorem hasT_mem (op : Nat) (h : hasF op 84 = true) : (84 : UInt8) ∈ flB op := by
  unfold hasF at h
  obtain ⟨b, hb, e⟩ := List.any_eq_true.1 h
  have e := of_decide_eq_true e
  have : b = 84 := UInt8.toNat_inj.1 (by have h84 : (84 : UInt8).toNat = 84 := rfl; omega)
  rw [← this]; exact hb
theorem line_len {L : List Ln} (h : GoodT L) {x : Ln} (hx : x ∈ L) : x.txt.length ≤ 20000 := by
  have h2 := h.txt
  have h3 : x.txt.length ≤ (txtL L).length := by
    obtain ⟨a, b, rfl⟩ := List.append_of_mem hx
    unfold txtL
    rw [List.flatMap_append, List.flatMap_cons, List.length_append, List.length_append, List.length_append]
    omega
  omega
theorem sl_insT {W : World} {g cap : Nat} {cs : Array Value} {l : List Ins} (hb : Blk W g 75 cs) (h : ∀ i, i < l.length → InsAt cs i (l.getD i default)) : Sl W (some ⟨g, 0, none⟩) (l.length * 5) (fun k => (l.flatMap Ins.cells).getD k undef) := fun hpos => by
  refine ⟨g, 0, rfl, hb.lt, fun k hk => ?_⟩
  have hi : k / 5 < l.length := by omega
  have hj : k % 5 < 5 := by omega
  have e := flat_get Ins.cells 5 (fun _ => rfl) default l (k / 5) hi (k % 5) hj
  rw [show k / 5 * 5 + k % 5 = k by omega] at e
  have hlt : k % 5 < ((l.getD (k / 5) default).cells).length := hj
  rw [List.getElem?_eq_getElem hlt] at e
  have := h (k / 5) hi (k % 5) _ (List.getElem?_eq_getElem hlt)
  rw [show k / 5 * 5 + k % 5 = k by omega] at this
  rw [Nat.zero_add, hb.cell, this]
  have e2 : (l.flatMap Ins.cells).getD k undef = ((l.getD (k / 5) default).cells)[k % 5] := by rw [List.getD_eq_getElem?_getD, e]; rfl
  exact congrArg some e2.symm
theorem insT_cells_one (l : List Ins) : ∀ k, k < l.length * 5 → ((l.flatMap Ins.cells).getD k undef).oneCell' = true := fun k hk => by
  have hj : k % 5 < 5 := by omega
  have e := flat_get Ins.cells 5 (fun _ => rfl) default l (k / 5) (by omega) (k % 5) hj
  rw [show k / 5 * 5 + k % 5 = k by omega] at e
  rw [List.getD_eq_getElem?_getD, e]
  have : k % 5 = 0 ∨ k % 5 = 1 ∨ k % 5 = 2 ∨ k % 5 = 3 ∨ k % 5 = 4 := by omega
  rcases this with h | h | h | h | h <;> rw [h] <;> rfl
theorem wpList_append_insT {w : World} {ops : Array Oper} {rest : List Oper} {o : Oper} {a : Act} {Q : Exit → Act → World → Prop} (hgd : o.guard = none) (s x : Operand)
    (ho : o.op = .call { callee := .builtin .append, args := #[s, x], argTypes := #[50, 50] }) (base : Nat) (v : Value) (l l2 : List Ins) (hs : a.eval s = v) (hown : w.ownsRow base 75 5 v l.length (l.flatMap Ins.cells))
    (A : Option Addr) (c : Nat) (hx : a.eval x = .slice A l2.length c) (hr : Sl w A (l2.length * 5) (fun k => (l2.flatMap Ins.cells).getD k undef)) (hb : l.length + l2.length ≤ 1000000) (hbase : base ≤ w.heap.size)
    (h : ∀ A' c' w', w'.ownsRow base 75 5 (.slice A' (l ++ l2).length c') (l ++ l2).length ((l ++ l2).flatMap Ins.cells) → w.grownBy w' v.ownBlock → Below base w w' → wpList Tryz.prog ops Q rest (a.put o.dst (.slice A' (l ++ l2).length c')) w') : wpList Tryz.prog ops Q (o :: rest) a w := by
  obtain ⟨i0, hi, hy0, hy1, hy2⟩ := info_parts insB_info5
  refine wpList_append_sl w hgd s x 50 ho base 75 i0 _ 5 40 Tryz.underlying50 hi hy0 hy1 hy2 rfl (by omega) v l.length _ hs hown A l2.length c (fun k => (l2.flatMap Ins.cells).getD k undef) hx hr (insT_cells_one l2) (by unfold maxLen; omega) (by omega) hbase ?_
  intro v' w' h1 h2 _
  have hl2 : (l2.flatMap Ins.cells).length = l2.length * 5 := by
    clear hr hb hx h h1 h2
    induction l2 with
    | nil => rfl
    | cons y l2 ih => rw [List.flatMap_cons, List.length_append, ih]; show 5 + _ = _; rw [List.length_cons]; omega
  rw [range_getD _ _ hl2, ← List.flatMap_append] at h1
  have hw := below_of_grown hbase h2 fun g e => (own_in hown g e).1
  rw [show l.length + l2.length = (l ++ l2).length from by simp] at h1
  obtain ⟨A', c', rfl, _, _⟩ := own_cap h1
  exact h A' c' w' h1 h2 hw
theorem sl_oneT (W : World) (x : Ins) : Sl (W.alloc (.cells x.cells.toArray 75)) (some ⟨W.heap.size, 0, none⟩) ([x].length * 5) (fun k => ([x].flatMap Ins.cells).getD k undef) :=
  sl_insT (cap := 0) (Blk.new _ _ _) fun i hi j u hu => by
    obtain rfl : i = 0 := by simp at hi; omega
    rw [Nat.zero_mul, Nat.zero_add]
    simpa using hu
def linesL (L : List Ln) : List (List UInt8) := L.map Ln.txt ++ [[]]
theorem lines_len (L : List Ln) : (linesL L).length = L.length + 1 := by unfold linesL; simp
theorem lines_get {L : List Ln} {n : Nat} (h : n < L.length) : (linesL L).getD n [] = (L.getD n (.lab [])).txt := by
  unfold linesL
  rw [List.getD_eq_getElem?_getD, List.getElem?_append_left (by simpa using h), List.getElem?_map, List.getD_eq_getElem?_getD, List.getElem?_eq_getElem h]; rfl
theorem lines_end (L : List Ln) : (linesL L).getD L.length [] = [] := by unfold linesL; simp [List.getD_eq_getElem?_getD]
theorem lines_take {L : List Ln} {n : Nat} (h : n ≤ L.length) : (linesL L).take n = (L.take n).map Ln.txt ++ [] := by
  unfold linesL
  rw [List.take_append_of_le_length (by simpa using h), List.map_take, List.append_nil]
theorem raw_snoc {L : List Ln} {n : Nat} (h : n < L.length) : rawL (L.take (n + 1)) = rawL (L.take n) ++ (Ln.ins? (L.getD n (.lab []))).toList := by
  unfold rawL
  rw [List.take_add_one, List.filterMap_append, List.getElem?_eq_getElem h, List.getD_eq_getElem?_getD, List.getElem?_eq_getElem h]
  cases h2 : Ln.ins? L[n] <;> simp [List.filterMap_cons, h2]
theorem fix_snoc {L : List Ln} {n : Nat} (h : n < L.length) {P : List Ln} : fixL P (L.take (n + 1)) = fixL P (L.take n) ++ (Ln.fix? P (L.getD n (.lab []))).toList := by
  unfold fixL
  rw [List.take_add_one, List.filterMap_append, List.getElem?_eq_getElem h, List.getD_eq_getElem?_getD, List.getElem?_eq_getElem h]
  cases h2 : Ln.fix? P L[n] <;> simp [List.filterMap_cons, h2]
theorem acc_op : ∀ (fs : List UInt8) (ws : List Tk) (i : Ins), (accF i fs ws).op = i.op
  | [], [], i => rfl
  | [], _ :: _, i => rfl
  | _ :: _, [], i => rfl
  | f :: fs, w :: ws, i => by
    show (accF (setF i f w) fs ws).op = i.op
    rw [acc_op fs ws]
    cases w with
    | reg r =>
      simp only [setF]
      split
      · rfl
      · split <;> rfl
    | num n => rfl
    | lab s => rfl
    | mem n => rfl
theorem own_monoT {W : World} {b b' s n : Nat} {e : TypeId} {v : Value} {xs : List Value} (h : W.ownsRow b e s v n xs) (hb : b' ≤ b) : W.ownsRow b' e s v n xs := by
  refine ⟨h.1, ?_⟩
  rcases h.2 with hn | ⟨g, cap, cur, rfl, hbg, rest⟩
  · exact .inl hn
  · exact .inr ⟨g, cap, cur, rfl, Nat.le_trans hb hbg, rest⟩
theorem raw_le (L : List Ln) : (rawL L).length ≤ L.length := List.length_filterMap_le _ _
set_option maxHeartbeats 8000000 in
theorem r4_parse (L : List Ln) (hG : GoodT L) (w : World) :
    Calls Tryz.prog 59 #[str (txtL L)] w fun e w' => (∃ v, e = .returned (.tuple #[v, .int .i64 0, .int .i64 0]) ∧ w'.ownsRow w.heap.size 75 5 v (fixL L L).length ((fixL L L).flatMap Ins.cells)) ∧ Below w.heap.size w w' := by
  have cS := r4_split 10 (txtL L) (by have := hG.txt; omega)
  rw [lines_split hG.ok] at cS
  have cS := fun w => cS w
  have hL := hG.len
  obtain ⟨bt, q, hbt⟩ : ∃ bt q, Bs bt (txtL L) q := ⟨_, _, Bs.of _⟩
  rw [str_ba] at cS ⊢
  rw [← hbt.eq] at cS ⊢
  have hq := hbt.size
  have hq2 : q ≤ 20000 := by have := hG.txt; rw [hbt.len] at this; exact this
  have hq3 : (q : Int) ≤ 20000 := by omega
  obtain ⟨N, hN⟩ : ∃ N, L.length = N := ⟨_, rfl⟩
  rw [hN] at hL
  have HG := Lib.hid (And.intro hG hN)
  clear hG hN hbt hq2
  go_enter Tryz.func59, Tryz.ntmps59
  go_wp2_with fail
  refine (cS _).mono ?_
  rintro e W1 ⟨⟨v5, rfl, hown⟩, hB1⟩
  clear cS hq
  change W1.ownsRow w.heap.size 9 1 v5 (linesL L).length ((linesL L).map str) at hown
  obtain ⟨A5, c5, e5, hle5, hs5⟩ := own_sl hown
  subst e5
  rw [lines_len, HG.out.2] at hs5
  rw [lines_len, HG.out.2]
  rw [lines_len, HG.out.2] at hle5
  obtain ⟨_, c5', e5', _, hc5m⟩ := own_cap hown
  injection e5' with e5a e5n e5c
  subst e5c
  obtain ⟨g, o, rfl, hg, hcell⟩ := hs5 (by omega)
  have HW := Lib.hid (And.intro hg (And.intro hcell hB1))
  clear hown hs5 hg hcell hB1 e5a e5n
  go_wp2_with fail
  have hNi : (N : Int) ≤ 1000 := by omega
  go_loopw [6, 7] (fun v6 v7 wr => ∃ n : Nat, n ≤ N + 1 ∧ v7 = .int .i64 n ∧ wr.ownsRow W1.heap.size 75 5 v6 (rawL (L.take n)).length ((rawL (L.take n)).flatMap Ins.cells) ∧ Below W1.heap.size W1 wr) (fun _ v7 _ => N + 1 - (intOf v7).toNat)
  case atStart => exact ⟨0, Nat.zero_le _, rfl, ⟨rfl, .inl ⟨rfl, rfl⟩⟩, Below.refl _ _⟩
  case round =>
    obtain ⟨n, hn, rfl, hr, hB⟩ := hrel
    have hn0 : (0 : Int) ≤ (n : Int) := by omega
    have hnm : (n : Int) ≤ 1001 := by omega
    by_cases hnN : n < N + 1
    · have hni : (n : Int) < (N : Int) + 1 := by omega
      have c5n : wr.cell? ⟨g, o + n, none⟩ = some (str ((linesL L).getD n [])) := by
        refine (keepAt hB HW.out.1 (HW.out.2.1 n (by omega))).trans ?_
        have : n < (linesL L).length := by rw [lines_len, HG.out.2]; exact hnN
        exact congrArg some (by simp [List.getD_eq_getElem?_getD, List.getElem?_eq_getElem this])
      by_cases hnl : n = N
      · subst hnl
        have e0 : (linesL L).getD n [] = [] := by rw [← HG.out.2]; exact lines_end L
        rw [e0] at c5n
        replace c5n : wr.cell? ⟨g, o + n, none⟩ = some (.string ⟨#[]⟩) := c5n
        have e1 : L.take (n + 1) = L.take n := by rw [List.take_of_length_le (by rw [HG.out.2]; omega), List.take_of_length_le (by rw [HG.out.2]; exact Nat.le_refl _)]
        have HP := Lib.hid (And.intro hr (And.intro hB e1))
        clear hr hB e0 e1
        go_wp2
        go_roundw
        case rel => exact ⟨n + 1, Nat.le_refl _, by go_num, by rw [HP.out.2.2]; exact HP.out.1, HP.out.2.1⟩
        case measure => simp [intOf]
      · have hnlt : n < L.length := by rw [HG.out.2]; omega
        have hx : (linesL L).getD n [] = (L.getD n (.lab [])).txt := lines_get hnlt
        rw [hx] at c5n
        obtain ⟨x, hxe⟩ : ∃ x, L.getD n (.lab []) = x := ⟨_, rfl⟩
        rw [hxe] at c5n
        have hxm : x ∈ L := by rw [← hxe, List.getD_eq_getElem?_getD, List.getElem?_eq_getElem hnlt]; exact List.getElem_mem hnlt
        have hxo := HG.out.1.ok x hxm
        have hxp := Ln.pos hxo
        have hxl := line_len HG.out.1 hxm
        rw [str_ba] at c5n
        obtain ⟨p, hp⟩ : ∃ p, x.txt.length = p := ⟨_, rfl⟩
        obtain ⟨bx, hbx⟩ : ∃ bx, Bs bx x.txt p := ⟨_, rfl, hp⟩
        rw [← hbx.eq] at c5n
        have hbs := hbx.size
        rw [hp] at hxp hxl
        have hp1 : (1 : Int) ≤ (p : Int) := by omega
        have hp2 : (p : Int) ≤ 20000 := by omega
        obtain ⟨p', hpp⟩ : ∃ p', p = p' + 1 := ⟨p - 1, by omega⟩
        have hpi : (p : Int) - 1 = (p' : Int) := by omega
        have hpb : p' < bx.size := by omega
        have hlast := hbx.at p' hpb
        have f1 : bx.toList.isEmpty = false := by
          rw [hbx.eq, ba_toList]
          cases q : x.txt with
          | nil => rw [q] at hp; simp at hp; omega
          | cons a t => rfl
        cases x with
        | lab s =>
          have hps : s.length = p' := by
            have : (s ++ [58]).length = p := hp
            simp at this; omega
          have e58 : (Ln.lab s).txt.getD p' 0 = 58 := by
            show (s ++ [58]).getD p' 0 = 58
            rw [← hps]; simp [List.getD_eq_getElem?_getD]
          rw [e58] at hlast
          have hex : bx.extract 0 p' = ba s := by
            rw [hbx.eq, ba_ext_]; congr 1
            show ((s ++ [58]).take p').drop 0 = s
            rw [← hps]; simp
          have hpl : placeL s ((linesL L).take n) 0 = -1 := by
            rw [lines_take (by omega), place_eq s [] (.inl rfl) _ _ (fun y hy => HG.out.1.ok y (List.mem_of_mem_take hy))]
            exact HG.out.1.once n s (by rw [List.getElem?_eq_getElem hnlt, ← hxe, List.getD_eq_getElem?_getD, List.getElem?_eq_getElem hnlt]; rfl)
          have hnlen : ((linesL L).take n).length = n := by rw [List.length_take, lines_len]; omega
          have cP := fun (W : World) (hb : Below W1.heap.size W1 W) => r4_place ((linesL L).take n) s (by rw [hnlen]; omega) (fun y hy => by
            have hy := List.mem_of_mem_take hy
            unfold linesL at hy
            rcases List.mem_append.1 hy with hy | hy
            · obtain ⟨z, hz, rfl⟩ := List.mem_map.1 hy
              have := line_len HG.out.1 hz; omega
            · rw [List.mem_singleton.1 hy]; simp) (by
            have : NmL s = true := hxo
            unfold NmL at this
            simp only [Bool.and_eq_true, decide_eq_true_eq] at this
            have := this.1.1.2; omega) (some ⟨g, o, none⟩) c5 W (by
            rw [hnlen]
            intro hpos
            refine ⟨g, o, rfl, Nat.lt_of_lt_of_le HW.out.1 hb.size, fun i hi => ?_⟩
            refine (keepAt hb HW.out.1 (HW.out.2.1 i (by omega))).trans ?_
            have hil : i < (linesL L).length := by rw [lines_len, HG.out.2]; omega
            exact congrArg some (by simp [List.getD_eq_getElem?_getD, List.getElem?_eq_getElem hil, List.getElem?_take, hi]))
          rw [hnlen, hpl] at cP
          have cN := r4_name s hxo
          rw [str_ba] at cN cP
          have e1 : rawL (L.take (n + 1)) = rawL (L.take n) := by rw [raw_snoc hnlt, hxe]; exact List.append_nil _
          have hnc : (n : Int) ≤ (c5 : Int) := by omega
          have wpw : IntKind.i64.wrap (p' : Int) = (p' : Int) := IntWalk.i64_in _ (by omega)
          have hple : ¬ p < p' := by omega
          have HP := Lib.hid (And.intro hr (And.intro hB (And.intro e1 (And.intro cP cN))))
          have hlast : (((bx[p']'hpb).toNat : Nat) : Int) = 58 := hlast
          clear hr hB e1 cP cN hxo hxm hxe hx hxl hbx hps e58 hpl hnlen hnlt hpp hp
          go_wp2_with fail
          try rw [hex]
          refine (HP.out.2.2.2.2 _).mono ?_
          rintro e W2 ⟨rfl, hB2⟩
          have HQ := Lib.hid (HP.out.2.1.trans (hB2.mono HP.out.2.1.size))
          have HB2 := Lib.hid hB2
          clear hB2
          go_wp2_with fail
          refine startG (fun W' => Below W2.drew.heap.size W2.drew W') 9 (by kernel_rfl) ?_
          have hW0 : Below W2.heap.size W2 W2.drew := ⟨rfl, rfl, rfl, Nat.le_refl _, fun _ _ => rfl⟩
          generalize W2.drew = W0 at hW0 ⊢
          have hS0 : Below W0.heap.size W0 W0 := Below.refl _ _
          refine takeG0 (i := 0) (v := .slice (some ⟨g, o, none⟩) (N + 1) c5) rfl (by kernel_rfl) (by kernel_rfl) (by kernel_rfl) (by kernel_rfl) (fun _ _ _ h => h) (Or.inl ⟨by rfl, fun W hW => by go_simp⟩) hS0 ?_
          simp only [Act.put, List.getElem_toArray, List.getElem_cons_zero, List.getElem_cons_succ, List.setIfInBounds_toArray, List.set_cons_zero, List.set_cons_succ]
          refine takeG0 (i := 1) (v := .int .i64 (n : Int)) rfl (by kernel_rfl) (by kernel_rfl) (by kernel_rfl) (by kernel_rfl) (fun _ _ _ h => h) (Or.inl ⟨by rfl, fun W hW => by go_simp⟩) hS0 ?_
          simp only [Act.put, List.getElem_toArray, List.getElem_cons_zero, List.getElem_cons_succ, List.setIfInBounds_toArray, List.set_cons_zero, List.set_cons_succ]
          refine takeG0 (i := 2) (v := .slice (some ⟨g, o, none⟩) n c5) rfl (by kernel_rfl) (by kernel_rfl) (by kernel_rfl) (by kernel_rfl) (fun _ _ _ h => h) (Or.inl ⟨by rfl, fun W hW => by go_simp⟩) hS0 ?_
          simp only [Act.put, List.getElem_toArray, List.getElem_cons_zero, List.getElem_cons_succ, List.setIfInBounds_toArray, List.set_cons_zero, List.set_cons_succ]
          refine takeG0 (i := 3) (v := .string bx) rfl (by kernel_rfl) (by kernel_rfl) (by kernel_rfl) (by kernel_rfl) (fun _ _ _ h => h) (Or.inl ⟨by rfl, fun W hW => by go_simp⟩) hS0 ?_
          simp only [Act.put, List.getElem_toArray, List.getElem_cons_zero, List.getElem_cons_succ, List.setIfInBounds_toArray, List.set_cons_zero, List.set_cons_succ]
          refine takeG0 (i := 4) (v := .string bx) rfl (by kernel_rfl) (by kernel_rfl) (by kernel_rfl) (by kernel_rfl) (fun _ _ _ h => h) (Or.inl ⟨by rfl, fun W hW => by go_simp⟩) hS0 ?_
          simp only [Act.put, List.getElem_toArray, List.getElem_cons_zero, List.getElem_cons_succ, List.setIfInBounds_toArray, List.set_cons_zero, List.set_cons_succ]
          refine takeG0 (i := 5) (v := .int .i64 (p : Int)) rfl (by kernel_rfl) (by kernel_rfl) (by kernel_rfl) (by kernel_rfl) (fun _ _ _ h => h) (Or.inl ⟨by rfl, fun W hW => by go_simp⟩) hS0 ?_
          simp only [Act.put, List.getElem_toArray, List.getElem_cons_zero, List.getElem_cons_succ, List.setIfInBounds_toArray, List.set_cons_zero, List.set_cons_succ]
          refine takeG0 (i := 6) (v := .int .i64 (p' : Int)) rfl (by kernel_rfl) (by kernel_rfl) (by kernel_rfl) (by kernel_rfl) (fun _ _ _ h => h) (Or.inl ⟨by rfl, fun W hW => by go_simp⟩) hS0 ?_
          simp only [Act.put, List.getElem_toArray, List.getElem_cons_zero, List.getElem_cons_succ, List.setIfInBounds_toArray, List.set_cons_zero, List.set_cons_succ]
          refine takeG0 (i := 7) (v := .string (ba s)) rfl (by kernel_rfl) (by kernel_rfl) (by kernel_rfl) (by kernel_rfl) (fun _ _ _ h => h) (Or.inl ⟨by rfl, fun W hW => by go_simp⟩) hS0 ?_
          simp only [Act.put, List.getElem_toArray, List.getElem_cons_zero, List.getElem_cons_succ, List.setIfInBounds_toArray, List.set_cons_zero, List.set_cons_succ]
          refine onlyG (i := 8) (by kernel_rfl) rfl (fun K hK => ?_)
          go_simp
          have hQ0 := HQ.out.trans (hW0.mono HQ.out.size)
          refine (HP.out.2.2.2.1 W0 hQ0).mono ?_
          rintro e W3 ⟨rfl, hB3⟩
          refine hK.out _ _ hB3 (fun _ => ?_)
          clear hK K hS0
          refine lastG (by kernel_rfl) rfl (by kernel_rfl) (fun K hK => ?_)
          go_simp
          refine hK.out _ _ ?_
          clear hK K
          have HR := Lib.hid (And.intro (own_below HP.out.1 (Nat.le_refl _) (HB2.out.trans ((hW0.trans (hB3.mono hW0.size)).mono HB2.out.size))) (hQ0.trans (hB3.mono hQ0.size)))
          clear hW0 hB3 hQ0
          go_wp2
          go_roundw
          case rel => exact ⟨n + 1, by omega, by go_num, by rw [HP.out.2.2.1]; exact HR.out.1, HR.out.2⟩
          case measure => simp [intOf]; omega
        | ins op ws =>
          have hnlast := ins_last hxo
          rw [hp] at hnlast
          have hpp2 : p - 1 = p' := by omega
          rw [hpp2] at hnlast
          obtain ⟨d, hd⟩ : ∃ d : Nat, ((Ln.ins op ws).txt.getD p' 0).toNat = d := ⟨_, rfl⟩
          rw [hd] at hlast
          have hd58 : ¬ (d : Int) = 58 := fun q => hnlast (UInt8.toNat_inj.1 (by have h58 : (58 : UInt8).toNat = 58 := rfl; omega))
          have cR := r4_read op ws hxo (by omega)
          rw [str_ba, ← hbx.eq] at cR
          obtain ⟨R, hR⟩ : ∃ R, accF ⟨(op : Int), 0, 0, 0, 0⟩ (flB op) ws = R := ⟨_, rfl⟩
          rw [hR] at cR
          have e1 : rawL (L.take (n + 1)) = rawL (L.take n) ++ [R] := by rw [raw_snoc hnlt, hxe, ← hR]; rfl
          have hcl : (rawL (L.take n)).length ≤ 1000 := by
            have := raw_le (L.take n)
            rw [List.length_take] at this; omega
          obtain ⟨LB, hLB⟩ : ∃ LB, labA [] ws = LB := ⟨_, rfl⟩
          rw [hLB] at cR
          obtain ⟨RW, hRW⟩ : ∃ RW, rawL (L.take n) = RW := ⟨_, rfl⟩
          rw [hRW] at hr e1 hcl
          obtain ⟨A6, c6, rfl, _, _⟩ := own_cap hr
          obtain ⟨cn, hcn⟩ : ∃ cn, RW.length = cn := ⟨_, rfl⟩
          have hcn4 : (cn : Int) ≤ 1000 := by omega
          have HP := Lib.hid (And.intro hr (And.intro hB (And.intro e1 (And.intro cR hcn))))
          have hcl2 : RW.length ≤ 1000 := hcl
          rw [hcn] at hcl ⊢
          clear hr hB e1 cR hxo hxm hxe hx hxl hbx hR hLB hRW hnlt hpp hp hnlast hd hpp2
          go_wp2_with fail
          refine (HP.out.2.2.2.1 _).mono ?_
          rintro e W3 ⟨rfl, hB3⟩
          unfold insV
          have hal4 := (Below.refl W3.heap.size W3).alloc (Nat.le_refl _) (.cells R.cells.toArray 75)
          have own4 := own_below (own_below HP.out.1 (Nat.le_refl _) hB3) (Nat.le_refl _) hal4
          have hI4 := Blk.new W3 75 R.cells.toArray
          obtain ⟨W4, hW4⟩ : ∃ W4, W3.alloc (.cells R.cells.toArray 75) = W4 := ⟨_, rfl⟩
          obtain ⟨ib, hib⟩ : ∃ ib, W3.heap.size = ib := ⟨_, rfl⟩
          rw [hW4, hib] at hI4
          rw [hW4] at own4 hal4
          have i0 : W4.cell? ⟨ib, 0, none⟩ = some (.int .i64 R.op) := (hI4.cell 0).trans rfl
          have i1 : W4.cell? ⟨ib, 1, none⟩ = some (.int .i64 R.a) := (hI4.cell 1).trans rfl
          have i2 : W4.cell? ⟨ib, 2, none⟩ = some (.int .i64 R.b) := (hI4.cell 2).trans rfl
          have i3 : W4.cell? ⟨ib, 3, none⟩ = some (.int .i64 R.c) := (hI4.cell 3).trans rfl
          have i4 : W4.cell? ⟨ib, 4, none⟩ = some (.int .u32 R.k) := (hI4.cell 4).trans rfl
          have hb4 : Below W1.heap.size W1 W4 := (HP.out.2.1.trans (hB3.mono HP.out.2.1.size)).trans (hal4.mono (Nat.le_trans HP.out.2.1.size hB3.size))
          have hal5 := (Below.refl W4.heap.size W4).alloc (Nat.le_refl _) (.cells R.cells.toArray 75)
          have own5 := own_below own4 (Nat.le_refl _) hal5
          have src5 := sl_oneT W4 R
          have hbs5 : W1.heap.size ≤ (W4.alloc (.cells R.cells.toArray 75)).heap.size := Nat.le_trans hb4.size hal5.size
          have HQ := Lib.hid (And.intro hb4 hal5)
          clear hB3 hal4 own4 hI4 hb4 hal5 i0 i1 i2 i3 i4
          subst hW4
          subst hib
          rw [show (W3.alloc (.cells R.cells.toArray 75)).heap.size = W3.heap.size + 1 from by simp] at src5
          have own5' := own5
          rw [hcn] at own5'
          go_wp2_with (at_builtin; go_must (refine wpList_append_insT rfl (.tmp 78) (.tmp 80) rfl W1.heap.size (.slice A6 cn c6) RW [R] rfl (by rw [HP.out.2.2.2.2]; exact own5') _ 1 rfl src5 (by simp; omega) hbs5 ?_; intro A8 c8 W8 own8 hg8 hb8))
          have hl8 : (RW ++ [R]).length = cn + 1 := by rw [List.length_append, HP.out.2.2.2.2]; rfl
          have HS := Lib.hid (And.intro own8 hb8)
          clear own8 hb8 hg8 own5 own5' src5 hbs5
          go_roundw
          case rel =>
            refine ⟨n + 1, by omega, by go_num, ?_, ?_⟩
            · rw [HP.out.2.2.1]
              have := HS.out.1
              rw [hl8] at this ⊢
              exact this
            · exact (HQ.out.1.trans (HQ.out.2.mono HQ.out.1.size)).trans HS.out.2
          case measure => simp [intOf]; omega
    · obtain rfl : n = N + 1 := by omega
      have hni : ¬ (((N + 1 : Nat) : Int) < (N : Int) + 1) := by omega
      have e1 : L.take (N + 1) = L := List.take_of_length_le (by rw [HG.out.2]; omega)
      rw [e1] at hr
      obtain ⟨M, hM⟩ : ∃ M, (rawL L).length = M := ⟨_, rfl⟩
      have hML : M ≤ N := by rw [← hM, ← HG.out.2]; exact raw_le L
      have hMi : (M : Int) ≤ 1000 := by omega
      rw [hM] at hr
      obtain ⟨A6, c6, e6, hc6, hc6m⟩ := own_cap hr
      subst e6
      have HM := Lib.hid (And.intro hr (And.intro hB hM))
      clear hr hB e1 hM hnm hn0
      go_wp2_with fail
      go_loopw [12, 13] (fun v12 v13 wq => ∃ n k : Nat, n ≤ N + 1 ∧ v13 = .int .i64 n ∧ v12 = .int .i64 k ∧ k = (rawL (L.take n)).length ∧ wq.ownsRow W1.heap.size 75 5 (.slice A6 M c6) M ((fixL L (L.take n) ++ rawL (L.drop n)).flatMap Ins.cells) ∧ Below W1.heap.size W1 wq) (fun _ v13 _ => N + 1 - (intOf v13).toNat)
      case atStart => exact ⟨0, 0, Nat.zero_le _, rfl, rfl, rfl, HM.out.1, HM.out.2.1⟩
      case round =>
        obtain ⟨n, k, hn, rfl, rfl, hk, hr, hB⟩ := hrel
        have hn0 : (0 : Int) ≤ (n : Int) := by omega
        have hnm : (n : Int) ≤ 1001 := by omega
        by_cases hnN : n < N + 1
        · have hni : (n : Int) < (N : Int) + 1 := by omega
          have c5n : wr.cell? ⟨g, o + n, none⟩ = some (str ((linesL L).getD n [])) := by
            refine (keepAt hB HW.out.1 (HW.out.2.1 n (by omega))).trans ?_
            have : n < (linesL L).length := by rw [lines_len, HG.out.2]; exact hnN
            exact congrArg some (by simp [List.getD_eq_getElem?_getD, List.getElem?_eq_getElem this])
          by_cases hnl : n = N
          · subst hnl
            have e0 : (linesL L).getD n [] = [] := by rw [← HG.out.2]; exact lines_end L
            rw [e0] at c5n
            replace c5n : wr.cell? ⟨g, o + n, none⟩ = some (.string ⟨#[]⟩) := c5n
            have e1 : L.take (n + 1) = L.take n := by rw [List.take_of_length_le (by rw [HG.out.2]; omega), List.take_of_length_le (by rw [HG.out.2]; exact Nat.le_refl _)]
            have e2 : L.drop (n + 1) = L.drop n := by rw [List.drop_eq_nil_of_le (by rw [HG.out.2]; omega), List.drop_eq_nil_of_le (by rw [HG.out.2]; exact Nat.le_refl _)]
            have HP := Lib.hid (And.intro hr (And.intro hB (And.intro e1 (And.intro e2 hk))))
            clear hr hB e0 e1 e2 hk
            go_wp2
            go_roundw
            case rel => exact ⟨n + 1, k, Nat.le_refl _, by go_num, rfl, by rw [HP.out.2.2.1]; exact HP.out.2.2.2.2, by rw [HP.out.2.2.1, HP.out.2.2.2.1]; exact HP.out.1, HP.out.2.1⟩
            case measure => simp [intOf]
          · have hnlt : n < L.length := by rw [HG.out.2]; omega
            have hx : (linesL L).getD n [] = (L.getD n (.lab [])).txt := lines_get hnlt
            rw [hx] at c5n
            obtain ⟨x, hxe⟩ : ∃ x, L.getD n (.lab []) = x := ⟨_, rfl⟩
            rw [hxe] at c5n
            have hxm : x ∈ L := by rw [← hxe, List.getD_eq_getElem?_getD, List.getElem?_eq_getElem hnlt]; exact List.getElem_mem hnlt
            have hdr : L.drop n = x :: L.drop (n + 1) := by
              rw [List.drop_eq_getElem_cons hnlt, ← hxe, List.getD_eq_getElem?_getD, List.getElem?_eq_getElem hnlt]; rfl
            have hxo := HG.out.1.ok x hxm
            have hxp := Ln.pos hxo
            have hxl := line_len HG.out.1 hxm
            rw [str_ba] at c5n
            obtain ⟨p, hp⟩ : ∃ p, x.txt.length = p := ⟨_, rfl⟩
            obtain ⟨bx, hbx⟩ : ∃ bx, Bs bx x.txt p := ⟨_, rfl, hp⟩
            rw [← hbx.eq] at c5n
            have hbs := hbx.size
            rw [hp] at hxp hxl
            have hp1 : (1 : Int) ≤ (p : Int) := by omega
            have hp2 : (p : Int) ≤ 20000 := by omega
            obtain ⟨p', hpp⟩ : ∃ p', p = p' + 1 := ⟨p - 1, by omega⟩
            have hpi : (p : Int) - 1 = (p' : Int) := by omega
            have hpb : p' < bx.size := by omega
            have hlast := hbx.at p' hpb
            have f1 : bx.toList.isEmpty = false := by
              rw [hbx.eq, ba_toList]
              cases q : x.txt with
              | nil => rw [q] at hp; simp at hp; omega
              | cons a t => rfl
            cases x with
            | lab s =>
              have hps : s.length = p' := by
                have : (s ++ [58]).length = p := hp
                simp at this; omega
              have e58 : (Ln.lab s).txt.getD p' 0 = 58 := by
                show (s ++ [58]).getD p' 0 = 58
                rw [← hps]; simp [List.getD_eq_getElem?_getD]
              rw [e58] at hlast
              have e1 : rawL (L.take (n + 1)) = rawL (L.take n) := by rw [raw_snoc hnlt, hxe]; exact List.append_nil _
              have e2 : fixL L (L.take (n + 1)) ++ rawL (L.drop (n + 1)) = fixL L (L.take n) ++ rawL (L.drop n) := by
                rw [fix_snoc hnlt, hxe, hdr]; simp [Ln.fix?, rawL, Ln.ins?, List.filterMap_cons]
              have HP := Lib.hid (And.intro hr (And.intro hB (And.intro e1 (And.intro e2 hk))))
              have hlast : (((bx[p']'hpb).toNat : Nat) : Int) = 58 := hlast
              clear hr hB e1 e2 hk hxo hxm hxe hx hxl hbx hps e58 hnlt hpp hp hdr
              go_wp2
              go_roundw
              case rel => exact ⟨n + 1, k, by omega, by go_num, rfl, by rw [HP.out.2.2.1]; exact HP.out.2.2.2.2, by rw [HP.out.2.2.2.1]; exact HP.out.1, HP.out.2.1⟩
              case measure => simp [intOf]; omega
            | ins op ws =>
              have hnlast := ins_last hxo
              rw [hp] at hnlast
              have hpp2 : p - 1 = p' := by omega
              rw [hpp2] at hnlast
              obtain ⟨d, hd⟩ : ∃ d : Nat, ((Ln.ins op ws).txt.getD p' 0).toNat = d := ⟨_, rfl⟩
              rw [hd] at hlast
              have hd58 : ((d : Int) == 58) = false := by
                simp
                exact fun q => hnlast (UInt8.toNat_inj.1 (by have h58 : (58 : UInt8).toNat = 58 := rfl; omega))
              have cR := r4_read op ws hxo (by omega)
              rw [str_ba, ← hbx.eq] at cR
              obtain ⟨R, hR⟩ : ∃ R, accF ⟨(op : Int), 0, 0, 0, 0⟩ (flB op) ws = R := ⟨_, rfl⟩
              rw [hR] at cR
              have e1 : rawL (L.take (n + 1)) = rawL (L.take n) ++ [R] := by rw [raw_snoc hnlt, hxe, ← hR]; rfl
              have e2 : fixL L (L.take (n + 1)) = fixL L (L.take n) ++ [fixI L op R (labA [] ws)] := by rw [fix_snoc hnlt, hxe, ← hR]; rfl
              have e3 : rawL (L.drop n) = R :: rawL (L.drop (n + 1)) := by rw [hdr, ← hR]; rfl
              have hRop : R.op = (op : Int) := by rw [← hR]; exact acc_op _ _ _
              have hop28 : op < 28 := hxo.1
              have hkM : k < M := by
                have h1 := congrArg List.length e3
                have h2 : (rawL (L.take n)).length + (rawL (L.drop n)).length = M := by
                  rw [← HM.out.2.2, ← List.length_append]
                  congr 1
                  unfold rawL
                  rw [← List.filterMap_append, List.take_append_drop]
                rw [List.length_cons] at h1
                omega
              have hkf : k = (fixL L (L.take n)).length := by rw [hk, raw_fix_len]
              have cH := has_in op 84 hop28
              rw [← hRop] at cH
              clear hRop
              obtain ⟨LB, hLB⟩ : ∃ LB, labA [] ws = LB := ⟨_, rfl⟩
              have hki : (k : Int) < (M : Int) := by omega
              have hk0 : (0 : Int) ≤ (k : Int) := by omega
              by_cases hT : hasF op 84 = true
              · have hnmL := labA_nm hxo.2 [] (hasT_mem op hT)
                have hth := HG.out.1.there op ws hxm hT
                have hfix : fixI L op R (labA [] ws) = { R with k := placeN (labA [] ws) L 0 } := if_pos hT
                rw [hfix] at e2
                rw [hLB] at cR hnmL hth e2
                obtain ⟨a, ha⟩ : ∃ a : Nat, placeN LB L 0 = (a : Int) := ⟨(placeN LB L 0).toNat, by omega⟩
                have haM : (a : Int) ≤ (M : Int) := by
                  have := placeN_le LB L 0
                  rw [HM.out.2.2, ha] at this
                  simpa using this
                rw [ha] at e2
                have hpl : placeL LB (linesL L) 0 = (a : Int) := by
                  unfold linesL
                  rw [place_eq LB [[]] (.inr rfl) _ _ HG.out.1.ok]; exact ha
                have cP := fun (W : World) (hb : Below W1.heap.size W1 W) => r4_place (linesL L) LB (by rw [lines_len, HG.out.2]; omega) (fun y hy => by
                  unfold linesL at hy
                  rcases List.mem_append.1 hy with hy | hy
                  · obtain ⟨z, hz, rfl⟩ := List.mem_map.1 hy
                    have := line_len HG.out.1 hz; omega
                  · rw [List.mem_singleton.1 hy]; simp) (by
                  have := hnmL
                  unfold NmL at this
                  simp only [Bool.and_eq_true, decide_eq_true_eq] at this
                  have := this.1.1.2; omega) (some ⟨g, o, none⟩) c5 W (by
                  rw [lines_len, HG.out.2]
                  intro hpos
                  refine ⟨g, o, rfl, Nat.lt_of_lt_of_le HW.out.1 hb.size, fun i hi => ?_⟩
                  refine (keepAt hb HW.out.1 (HW.out.2.1 i (by omega))).trans ?_
                  have hil : i < (linesL L).length := by rw [lines_len, HG.out.2]; omega
                  exact congrArg some (by simp [List.getD_eq_getElem?_getD, List.getElem?_eq_getElem hil]))
                rw [lines_len, HG.out.2, hpl] at cP
                rw [str_ba LB] at cR cP
                have f2 : (ba LB).toList.isEmpty = false := by
                  rw [ba_toList]
                  unfold NmL at hnmL
                  simp only [Bool.and_eq_true, decide_eq_true_eq] at hnmL
                  cases LB with
                  | nil => have := hnmL.1.1.1; simp at this
                  | cons a t => rfl
                rw [hT] at cH
                have hlk : k < (fixL L (L.take n) ++ rawL (L.drop n)).length := by rw [List.length_append, e3, List.length_cons]; omega
                have hget : (fixL L (L.take n) ++ rawL (L.drop n)).getD k default = R := by
                  rw [e3, List.getD_eq_getElem?_getD, List.getElem?_append_right (by omega), ← hkf]; simp
                have hlen : (fixL L (L.take n) ++ rawL (L.drop n)).length = M := by
                  rw [List.length_append, ← hkf, hk, ← List.length_append, ← HM.out.2.2]; unfold rawL; rw [← List.filterMap_append, List.take_append_drop]
                have hset' : (fixL L (L.take n) ++ rawL (L.drop n)).set k { R with k := (a : Int) } = fixL L (L.take (n + 1)) ++ rawL (L.drop (n + 1)) := by
                  rw [e2, e3, List.set_append_right _ _ (by omega), hkf, Nat.sub_self]; simp
                have hfs := flat_set1 Ins.cells 5 (fun _ => rfl) default (fixL L (L.take n) ++ rawL (L.drop n)) k hlk 4 (by decide) { R with k := (a : Int) } (.int .u32 (a : Int)) (by rw [hget]; rfl)
                rw [hset'] at hfs
                obtain ⟨MX, hMX⟩ : ∃ MX, fixL L (L.take n) ++ rawL (L.drop n) = MX := ⟨_, rfl⟩
                rw [hMX] at hr hfs hlk hget hlen
                obtain ⟨g6, cap6, e6, _, _, _⟩ := own_some hr (by omega)
                injection e6 with e6a e6n e6c
                subst e6a
                clear e6n e6c
                have hk1 : k + 1 = (rawL (L.take (n + 1))).length := by rw [e1, List.length_append, ← hk]; rfl
                have HP := Lib.hid (And.intro hr (And.intro hB (And.intro hk1 (And.intro cR (And.intro cP (And.intro hfs (And.intro hget hlen)))))))
                have ha0 : (0 : Int) ≤ (a : Int) := by omega
                have ha1 : (a : Int) ≤ 1000 := by omega
                have ha2 : ¬ (M : Int) < (a : Int) := by omega
                have hlkM : k < MX.length := hlk
                clear hr hB e1 e2 e3 hk hk1 hkf cR cP hfs hget hlen hset' hMX hpl ha haM hth hnmL hfix hT hLB hlk hkM hxo hxm hxe hx hxl hbx hR hnlt hpp hp hnlast hd hpp2 hdr
                go_wp2_with fail
                refine (HP.out.2.2.2.1 _).mono ?_
                rintro e W3 ⟨rfl, hB3⟩
                unfold insV
                have hal4 := (Below.refl W3.heap.size W3).alloc (Nat.le_refl _) (.cells R.cells.toArray 75)
                have own4 := own_below (own_below HP.out.1 (Nat.le_refl _) hB3) (Nat.le_refl _) hal4
                have hb4 : Below W1.heap.size W1 (W3.alloc (.cells R.cells.toArray 75)) := (HP.out.2.1.trans (hB3.mono HP.out.2.1.size)).trans (hal4.mono (Nat.le_trans HP.out.2.1.size hB3.size))
                have HQ := Lib.hid (And.intro own4 hb4)
                clear hB3 hal4 own4 hb4
                go_wp2_with fail
                refine (cH _).mono ?_
                rintro e W5 ⟨rfl, hB5⟩
                have HS := Lib.hid (And.intro (own_below HQ.out.1 (Nat.le_refl _) hB5) (HQ.out.2.trans (hB5.mono HQ.out.2.size)))
                clear hB5 cH
                go_wp2_with fail
                refine (HP.out.2.2.2.2.1 _ HS.out.2).mono ?_
                rintro e W7 ⟨rfl, hB7⟩
                have own7 := own_below HS.out.1 (Nat.le_refl _) hB7
                have hb7 := HS.out.2.trans (hB7.mono HS.out.2.size)
                obtain ⟨g7, cap7, e7, _, _, _, _, ⟨cur7, hB7k⟩, _⟩ := row_at Ins.cells (fun _ => rfl) default MX (by rw [HP.out.2.2.2.2.2.2.2]; exact own7) hlkM
                rw [HP.out.2.2.2.2.2.2.2] at e7
                injection e7 with e7a e7n e7c
                injection e7a with e7a
                injection e7a with e7a _ _
                subst e7a
                clear e7n e7c
                have fz := hB7k.frozen (k * 5 + 4)
                have hlen5 : (MX.flatMap Ins.cells).length = M * 5 := by rw [flat_len Ins.cells 5 (fun _ => rfl), HP.out.2.2.2.2.2.2.2]
                have z4 : W7.cell? ⟨g6, k * 5 + 4, none⟩ = some (.int .u32 R.k) := by
                  rw [own7.cellAt _ (by omega), flat_get Ins.cells 5 (fun _ => rfl) default MX k hlkM 4 (by decide), HP.out.2.2.2.2.2.2.1]; rfl
                obtain ⟨st1, st2⟩ := World.ownsRow.stored own7 (k * 5 + 4) (.int .u32 (a : Int))
                rw [HP.out.2.2.2.2.2.1] at st1
                have hg6 : W1.heap.size ≤ g6 := (own_in own7 g6 rfl).1
                have hb8 := below_of_grown (N := W1.heap.size) hb7.size st2 (fun g e => by cases e; exact hg6)
                have HU := Lib.hid (And.intro st1 (hb7.trans hb8))
                clear hB7 own7 hb7 hB7k hlen5 st1 st2 hg6 hb8
                go_wp2
                go_roundw
                case rel => exact ⟨n + 1, k + 1, by omega, by go_num, by go_num, HP.out.2.2.1, HU.out.1, HU.out.2⟩
                case measure => simp [intOf]; omega
              · have hT : hasF op 84 = false := by simpa using hT
                have hfix : fixI L op R (labA [] ws) = R := if_neg (by rw [hT]; decide)
                rw [hfix] at e2
                rw [hLB] at cR
                rw [hT] at cH
                have e4 : fixL L (L.take (n + 1)) ++ rawL (L.drop (n + 1)) = fixL L (L.take n) ++ rawL (L.drop n) := by rw [e2, e3]; simp
                have hk1 : k + 1 = (rawL (L.take (n + 1))).length := by rw [e1, List.length_append, ← hk]; rfl
                have HP := Lib.hid (And.intro hr (And.intro hB (And.intro hk1 (And.intro cR e4))))
                clear hr hB e1 e2 e3 e4 hk hk1 hkf cR hfix hT hLB hkM hxo hxm hxe hx hxl hbx hR hnlt hpp hp hnlast hd hpp2 hdr
                go_wp2_with fail
                refine (HP.out.2.2.2.1 _).mono ?_
                rintro e W3 ⟨rfl, hB3⟩
                unfold insV
                have hal4 := (Below.refl W3.heap.size W3).alloc (Nat.le_refl _) (.cells R.cells.toArray 75)
                have own4 := own_below (own_below HP.out.1 (Nat.le_refl _) hB3) (Nat.le_refl _) hal4
                have hb4 : Below W1.heap.size W1 (W3.alloc (.cells R.cells.toArray 75)) := (HP.out.2.1.trans (hB3.mono HP.out.2.1.size)).trans (hal4.mono (Nat.le_trans HP.out.2.1.size hB3.size))
                have HQ := Lib.hid (And.intro own4 hb4)
                clear hB3 hal4 own4 hb4
                go_wp2_with fail
                refine (cH _).mono ?_
                rintro e W5 ⟨rfl, hB5⟩
                have HS := Lib.hid (And.intro (own_below HQ.out.1 (Nat.le_refl _) hB5) (HQ.out.2.trans (hB5.mono HQ.out.2.size)))
                clear hB5 cH
                go_wp2
                go_roundw
                case rel => exact ⟨n + 1, k + 1, by omega, by go_num, by go_num, HP.out.2.2.1, by rw [HP.out.2.2.2.2]; exact HS.out.1, HS.out.2⟩
                case measure => simp [intOf]; omega
        · obtain rfl : n = N + 1 := by omega
          have hni : ¬ (((N + 1 : Nat) : Int) < (N : Int) + 1) := by omega
          have e1 : L.take (N + 1) = L := List.take_of_length_le (by rw [HG.out.2]; omega)
          have e2 : L.drop (N + 1) = [] := List.drop_eq_nil_of_le (by rw [HG.out.2]; omega)
          have hr' : wr.ownsRow W1.heap.size 75 5 (.slice A6 M c6) (fixL L L).length ((fixL L L).flatMap Ins.cells) := by
            rw [e1, e2] at hr
            rw [raw_fix_len, HM.out.2.2]
            simpa [rawL] using hr
          have HF := Lib.hid (And.intro hr' (And.intro HW.out.2.2 hB))
          clear hr hr' hB e1 e2 hk
          go_wp2
          go_ret3
          exact ⟨⟨_, rfl, own_monoT HF.out.1 HF.out.2.1.size⟩, HF.out.2.1.trans (HF.out.2.2.mono HF.out.2.1.size)⟩
end Go.Proofs.YtmhfpjnkjlhbpaaGreatDoor
