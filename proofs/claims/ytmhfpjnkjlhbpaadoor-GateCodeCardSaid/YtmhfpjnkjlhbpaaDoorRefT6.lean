/- The document's reader of code as text: Read, a line's instruction. -/
import Derived.Test.YtmhfpjnkjlhbpaaDoorRefT5
namespace Go.Proofs.YtmhfpjnkjlhbpaaDoor
open Go.ChangeShapes Go.WideShapes Go.ChangeAt Go.RowKit Go.Deep
set_option linter.unusedVariables false
set_option maxRecDepth 100000
set_option linter.unusedSimpArgs false

theorem r4_number_num (m : Nat) (hm : m ≤ 4294967295) (w : World) : Calls Tryd.prog 111 #[str (numL m)] w fun e w' => e = .returned (.int .i64 (m : Int)) ∧ Below w.heap.size w w' := by
  have := r4_number (numL m) (numL_pos m) (numL_ten hm) (numL_dig m) (numL_head m) (by rw [valL_num]; exact hm) w
  rw [valL_num] at this
  exact this
theorem Fits.len {fs : List UInt8} {ws : List Tk} (h : Fits fs ws) : fs.length = ws.length + ifM fs := by
  have e : ∀ (c : UInt8) (fs : List UInt8), c ≠ 77 → ifM (c :: fs) = ifM fs := fun c fs hc => by
    unfold ifM
    have : (c :: fs).contains 77 = fs.contains 77 := by
      rw [List.contains_cons, show ((77 : UInt8) == c) = false from by simpa using fun q => hc q.symm]; rfl
    rw [this]
  induction h with
  | nil => rfl
  | a r fs ws hr _ ih => rw [e _ _ (by decide), List.length_cons, List.length_cons, ih]; omega
  | b r fs ws hr _ ih => rw [e _ _ (by decide), List.length_cons, List.length_cons, ih]; omega
  | c r fs ws hr _ ih => rw [e _ _ (by decide), List.length_cons, List.length_cons, ih]; omega
  | k n _ => rfl
  | t s hs => rfl
  | m n _ => rfl
theorem fl_len (op : Nat) (h : op < 28) : (flB op).length ≤ 4 := by
  have := List.all_eq_true.1 (show (List.range 28).all (fun op => decide ((flB op).length ≤ 4)) = true by decide +kernel) op (List.mem_range.2 h)
  exact of_decide_eq_true this
theorem results_row_tmp_tmp {P : Program} {fn : Func} {p q r : Tmp} {ty : TypeId} (h : fn.results = #[.cell p ty, .tmp q, .tmp r]) (tmps : Array Value) (w : World) (g : Nat) (v : Value)
    (hp : tmps.getD p undef = .pointer (some ⟨g, 0, none⟩)) (hr : (loadVar ty ⟨g, 0, none⟩).run P w = .ok v w) :
    (results fn tmps).run P w = .ok (.tuple #[v, tmps.getD q undef, tmps.getD r undef]) w := by
  have hp' : tmps[p]?.getD undef = .pointer (some ⟨g, 0, none⟩) := by simpa using hp
  simp [results, h, hp', asAddr, hr]
theorem drop_inv {α : Type} {l : List α} {k : Nat} {a d : α} {t : List α} (h : l.drop k = a :: t) : k < l.length ∧ l.getD k d = a ∧ l.drop (k + 1) = t := by
  have hk : k < l.length := by
    rcases Nat.lt_or_ge k l.length with q | q
    · exact q
    · rw [List.drop_eq_nil_of_le q] at h; cases h
  rw [List.drop_eq_getElem_cons hk] at h
  injection h with h1 h2
  exact ⟨hk, by rw [List.getD_eq_getElem?_getD, List.getElem?_eq_getElem hk]; exact h1, h2⟩
theorem insR_info : (Tryd.prog.info? 41).map (·.size) = some 5 := by kernel_rfl
def insV (i : Ins) : Array Value := #[.int .i64 i.op, .int .i64 i.a, .int .i64 i.b, .int .i64 i.c, .int .u32 i.k]
theorem insV_one (i : Ins) : ((insV i).all fun x => x.oneCell') = true := by simp [insV, Value.oneCell']

set_option maxHeartbeats 8000000 in
theorem r4_read (op : Nat) (ws : List Tk) (h : (Ln.ins op ws).Ok) (hlen : (Ln.ins op ws).txt.length ≤ 1000000) (w : World) :
    Calls Tryd.prog 74 #[str (Ln.ins op ws).txt] w fun e w' => e = .returned (.tuple #[.agg (insV (accF ⟨(op : Int), 0, 0, 0, 0⟩ (flB op) ws)), str (labA [] ws), .int .i64 1]) ∧ Below w.heap.size w w' := by
  have hB0 := (Below.refl w.heap.size w).alloc (Nat.le_refl _) (.cells #[.int .i64 0, .int .i64 0, .int .i64 0, .int .i64 0, .int .u32 0] 41)
  have hR0 := Blk.new w 41 #[.int .i64 0, .int .i64 0, .int .i64 0, .int .i64 0, .int .u32 0]
  have cS := r4_split 32 (Ln.ins op ws).txt hlen (w.alloc (.cells #[.int .i64 0, .int .i64 0, .int .i64 0, .int .i64 0, .int .u32 0] 41))
  rw [words_split h] at cS
  have hop : (op : Int) < 28 := by have := h.1; omega
  have hfl := fl_len op h.1
  have hfit := h.2.len
  have cO := r4_op op h.1
  have cNm := refName_in op h.1
  rw [fl_ba] at cNm
  have cI := r4_ifmem (flB op) (by omega)
  obtain ⟨bf, nf, hbf⟩ : ∃ bf nf, Bs bf (flB op) nf := ⟨_, _, Bs.of _⟩
  rw [str_ba] at cI
  rw [← hbf.eq] at cI cNm
  have hbs := hbf.size
  rw [hbf.len] at hfl hfit
  obtain ⟨im, him⟩ : ∃ im, ifM (flB op) = im := ⟨_, rfl⟩
  rw [him] at hfit cI
  obtain ⟨L, hL⟩ : ∃ L, ws.length = L := ⟨_, rfl⟩
  rw [hL] at hfit
  have HL := Lib.hid (And.intro hbf (And.intro hL (And.intro him hfit)))
  have hnf4 : (nf : Int) ≤ 4 := by omega
  have hne : ((L : Int) + 1 != (nf : Int) + 1 - (im : Int)) = false := by simp; omega
  have hLi : (L : Int) ≤ 4 := by omega
  have hmi : (im : Int) ≤ 4 := by omega
  clear hbf him hfit hfl
  obtain ⟨rb, hrb⟩ : ∃ rb, w.heap.size = rb := ⟨_, rfl⟩
  have HC := Lib.hid (And.intro cO (And.intro cNm cI))
  have H0 := Lib.hid (And.intro hB0 (And.intro hR0 h))
  clear cO cNm cI hB0 hR0
  obtain ⟨tx, htx⟩ : ∃ tx, (Ln.ins op ws).txt = tx := ⟨_, rfl⟩
  rw [htx] at cS ⊢
  clear htx hlen h
  go_enter Tryd.func74, Tryd.ntmps74
  go_wp2_with fail
  refine cS.mono ?_
  rintro e W1 ⟨⟨v5, rfl, hown⟩, hB1⟩
  obtain ⟨A5, c5, e5, hle5, hs5⟩ := own_sl hown
  subst e5
  have hml : (nmB op :: ws.map Tk.txt).length = ws.length + 1 := by simp
  rw [hml, hL] at hs5
  rw [hml, hL]
  obtain ⟨g, o, rfl, hg, hcell⟩ := hs5 (by omega)
  have q0 : W1.cell? ⟨g, o, none⟩ = some (str (nmB op)) := (hcell 0 (by omega)).trans rfl
  have HW := Lib.hid (And.intro hg (And.intro hcell hB1))
  clear hown cS hs5 hg hcell hB1 hL hml hle5
  go_wp2_with fail
  refine (HC.out.1 _).mono ?_
  rintro e W2 ⟨rfl, hB2⟩
  have hI2 := Blk.new W2 41 #[.int .i64 (op : Int), .int .i64 0, .int .i64 0, .int .i64 0, .int .u32 0]
  have hal2 := (Below.refl W2.heap.size W2).alloc (Nat.le_refl _) (.cells #[.int .i64 (op : Int), .int .i64 0, .int .i64 0, .int .i64 0, .int .u32 0] 41)
  have i0 := (hI2.cell 0).trans rfl
  obtain ⟨ib, hib⟩ : ∃ ib, W2.heap.size = ib := ⟨_, rfl⟩
  rw [hib] at hI2 i0
  have HI2 := Lib.hid (And.intro hI2 (And.intro hB2 hal2))
  clear hI2 hB2 hal2 q0
  go_wp2_with fail
  try rw [hib]
  have hop0 : ¬ (op : Int) < 0 := by omega
  refine (HC.out.2.1 _).mono ?_
  rintro e W4 ⟨rfl, hB4⟩
  clear i0
  have HB4 := Lib.hid hB4
  clear hB4
  go_wp2_with fail
  refine (HC.out.2.2 _).mono ?_
  rintro e W5 ⟨rfl, hB5⟩
  have hI5 : Blk W5 ib 41 #[.int .i64 (op : Int), .int .i64 0, .int .i64 0, .int .i64 0, .int .u32 0] := (HI2.out.1.below HB4.out HI2.out.1.lt).below hB5 (HI2.out.1.below HB4.out HI2.out.1.lt).lt
  have hb15 : Below W1.heap.size W1 W5 := step_below (step_below (step_below HI2.out.2.1 HI2.out.2.2) HB4.out) hB5
  have HI5 := Lib.hid (And.intro hI5 hb15)
  clear hI5 hb15 hB5
  go_wp2_with fail
  -- LOOP
  obtain ⟨RR, hRR⟩ : ∃ RR, accF ⟨(op : Int), 0, 0, 0, 0⟩ (flB op) ws = RR := ⟨_, rfl⟩
  obtain ⟨LB, hLB⟩ : ∃ LB, labA [] ws = LB := ⟨_, rfl⟩
  have HRR := Lib.hid (And.intro hRR hLB)
  have hw1 : Below w.heap.size w W1 := step_below H0.out.1 HW.out.2.2
  have hr1 : Blk W1 rb 41 #[.int .i64 0, .int .i64 0, .int .i64 0, .int .i64 0, .int .u32 0] := by
    have := H0.out.2.1.below HW.out.2.2 H0.out.2.1.lt
    rw [hrb] at this
    exact this
  have hib1 : W1.heap.size ≤ ib := by rw [← hib]; exact HI2.out.2.1.size
  have HX := Lib.hid (And.intro hw1 (And.intro hr1 hib1))
  clear hRR hLB hw1 hr1 hib1
  go_loopw [9, 10, 11] (fun v9 v10 v11 wr => ∃ (k : Nat) (i : Ins) (lbl : List UInt8), k ≤ nf ∧ v11 = .int .i64 k ∧ v9 = .int .i64 ((k : Int) + 1) ∧ v10 = str lbl ∧ Fits ((flB op).drop k) (ws.drop k) ∧ accF i ((flB op).drop k) (ws.drop k) = RR ∧ labA lbl (ws.drop k) = LB ∧ (ws.drop k ≠ [] → lbl = []) ∧ Blk wr ib 41 (insV i) ∧ Below W1.heap.size W1 wr) (fun _ _ v11 _ => nf - (intOf v11).toNat)
  case atStart => exact ⟨0, ⟨(op : Int), 0, 0, 0, 0⟩, [], Nat.zero_le _, rfl, rfl, rfl, H0.out.2.2.2, HRR.out.1, HRR.out.2, fun _ => rfl, HI5.out.1, HI5.out.2⟩
  case round =>
    obtain ⟨k, i, lbl, hk, rfl, rfl, rfl, hft, hac, hla, hlb, hbi, hB⟩ := hrel
    have hk0 : (0 : Int) ≤ (k : Int) := by omega
    by_cases hkn : k < nf
    · have hki : (k : Int) < (nf : Int) := by omega
      have hkb : k < bf.size := by omega
      have hx := HL.out.1.at k hkb
      obtain ⟨F, hF⟩ : ∃ F, (flB op).drop k = F := ⟨_, rfl⟩
      obtain ⟨Ws, hWs⟩ : ∃ Ws, ws.drop k = Ws := ⟨_, rfl⟩
      rw [hF, hWs] at hft hac
      rw [hWs] at hla hlb
      have hFn : F ≠ [] := fun e => by
        have := congrArg List.length hF
        rw [List.length_drop, HL.out.1.len, e] at this
        simp at this; omega
      have word : ∀ (w0 : Tk) (t : List Tk), Ws = w0 :: t → wr.cell? ⟨g, o + (k + 1), none⟩ = some (str w0.txt) ∧ (k : Int) + 1 < (L : Int) + 1 ∧ ws.drop (k + 1) = t := fun w0 t e => by
        obtain ⟨q1, q2, q3⟩ := drop_inv (d := w0) (hWs.trans e)
        have q4 : k < L := by rw [← HL.out.2.1]; exact q1
        refine ⟨(keepAt hB HW.out.1 (HW.out.2.1 (k + 1) (by omega))).trans ?_, by omega, q3⟩
        have : ((nmB op :: ws.map Tk.txt).map str).getD (k + 1) undef = str w0.txt := by
          rw [← q2]
          simp [List.getD_eq_getElem?_getD, List.getElem?_eq_getElem q1]
        exact congrArg some this
      have fld : ∀ (f : UInt8) (t : List UInt8), F = f :: t → (flB op).getD k 0 = f ∧ (flB op).drop (k + 1) = t := fun f t e => (drop_inv (d := 0) (hF.trans e)).2
      clear hF hWs
      cases hft with
      | nil => exact absurd rfl hFn
      | a r fs wt hr hft' =>
        obtain ⟨w1, w2, w3⟩ := word _ _ rfl
        obtain ⟨f1, f2⟩ := fld _ _ rfl
        rw [f1] at hx
        have hac' : accF { i with a := (r : Int) } fs wt = RR := hac
        have hla' : labA lbl wt = LB := hla
        have cR := r4_register r hr wr
        have hr0 : ¬ (r : Int) < 0 := by omega
        have HP := Lib.hid (And.intro hft' (And.intro hac' (And.intro hla' (And.intro hbi (And.intro hB (And.intro w3 (And.intro f2 (hlb (by simp)))))))))
        clear hft' hac hla hac' hla' hbi hB w3 f1 f2 word fld hFn hlb
        have hx : (((bf[k]'hkb).toNat : Nat) : Int) = 65 := hx
        go_wp2_with fail
        refine cR.mono ?_
        rintro e W6 ⟨rfl, hB6⟩
        have hbi6 := HP.out.2.2.2.1.below hB6 HP.out.2.2.2.1.lt
        have hB16 := HP.out.2.2.2.2.1.trans (hB6.mono HP.out.2.2.2.2.1.size)
        have z1 := hbi6.cell 1
        have zf := hbi6.frozen 1
        have hset := hbi6.set_ 1 (.int .i64 (r : Int))
        have z1' : W6.cell? ⟨ib, 1, none⟩ = some (.int .i64 i.a) := z1.trans rfl
        have HQ := Lib.hid (And.intro hset hB16)
        clear cR hB6 hbi6 hB16 z1 hset
        go_wp2
        go_roundw
        case rel =>
          refine ⟨k + 1, { i with a := (r : Int) }, lbl, by omega, by go_num, by go_num, rfl, ?_, ?_, ?_, fun _ => HP.out.2.2.2.2.2.2.2, HQ.out.1, ?_⟩
          · rw [HP.out.2.2.2.2.2.1, HP.out.2.2.2.2.2.2.1]; exact HP.out.1
          · rw [HP.out.2.2.2.2.2.1, HP.out.2.2.2.2.2.2.1]; exact HP.out.2.1
          · rw [HP.out.2.2.2.2.2.1]; exact HP.out.2.2.1
          · exact Below.setCell HQ.out.2 (p := ⟨ib, 1, none⟩) HX.out.2.2 _
        case measure => simp [intOf]; omega
      | b r fs wt hr hft' =>
        obtain ⟨w1, w2, w3⟩ := word _ _ rfl
        obtain ⟨f1, f2⟩ := fld _ _ rfl
        rw [f1] at hx
        have hac' : accF { i with b := (r : Int) } fs wt = RR := hac
        have hla' : labA lbl wt = LB := hla
        have cR := r4_register r hr wr
        have hr0 : ¬ (r : Int) < 0 := by omega
        have HP := Lib.hid (And.intro hft' (And.intro hac' (And.intro hla' (And.intro hbi (And.intro hB (And.intro w3 (And.intro f2 (hlb (by simp)))))))))
        clear hft' hac hla hac' hla' hbi hB w3 f1 f2 word fld hFn hlb
        have hx : (((bf[k]'hkb).toNat : Nat) : Int) = 66 := hx
        go_wp2_with fail
        refine cR.mono ?_
        rintro e W6 ⟨rfl, hB6⟩
        have hbi6 := HP.out.2.2.2.1.below hB6 HP.out.2.2.2.1.lt
        have hB16 := HP.out.2.2.2.2.1.trans (hB6.mono HP.out.2.2.2.2.1.size)
        have z2 := hbi6.cell 2
        have zf := hbi6.frozen 2
        have hset := hbi6.set_ 2 (.int .i64 (r : Int))
        have z2' : W6.cell? ⟨ib, 2, none⟩ = some (.int .i64 i.b) := z2.trans rfl
        have HQ := Lib.hid (And.intro hset hB16)
        clear cR hB6 hbi6 hB16 z2 hset
        go_wp2
        go_roundw
        case rel =>
          refine ⟨k + 1, { i with b := (r : Int) }, lbl, by omega, by go_num, by go_num, rfl, ?_, ?_, ?_, fun _ => HP.out.2.2.2.2.2.2.2, HQ.out.1, ?_⟩
          · rw [HP.out.2.2.2.2.2.1, HP.out.2.2.2.2.2.2.1]; exact HP.out.1
          · rw [HP.out.2.2.2.2.2.1, HP.out.2.2.2.2.2.2.1]; exact HP.out.2.1
          · rw [HP.out.2.2.2.2.2.1]; exact HP.out.2.2.1
          · exact Below.setCell HQ.out.2 (p := ⟨ib, 2, none⟩) HX.out.2.2 _
        case measure => simp [intOf]; omega
      | c r fs wt hr hft' =>
        obtain ⟨w1, w2, w3⟩ := word _ _ rfl
        obtain ⟨f1, f2⟩ := fld _ _ rfl
        rw [f1] at hx
        have hac' : accF { i with c := (r : Int) } fs wt = RR := hac
        have hla' : labA lbl wt = LB := hla
        have cR := r4_register r hr wr
        have hr0 : ¬ (r : Int) < 0 := by omega
        have HP := Lib.hid (And.intro hft' (And.intro hac' (And.intro hla' (And.intro hbi (And.intro hB (And.intro w3 (And.intro f2 (hlb (by simp)))))))))
        clear hft' hac hla hac' hla' hbi hB w3 f1 f2 word fld hFn hlb
        have hx : (((bf[k]'hkb).toNat : Nat) : Int) = 67 := hx
        go_wp2_with fail
        refine cR.mono ?_
        rintro e W6 ⟨rfl, hB6⟩
        have hbi6 := HP.out.2.2.2.1.below hB6 HP.out.2.2.2.1.lt
        have hB16 := HP.out.2.2.2.2.1.trans (hB6.mono HP.out.2.2.2.2.1.size)
        have z3 := hbi6.cell 3
        have zf := hbi6.frozen 3
        have hset := hbi6.set_ 3 (.int .i64 (r : Int))
        have z3' : W6.cell? ⟨ib, 3, none⟩ = some (.int .i64 i.c) := z3.trans rfl
        have HQ := Lib.hid (And.intro hset hB16)
        clear cR hB6 hbi6 hB16 z3 hset
        go_wp2
        go_roundw
        case rel =>
          refine ⟨k + 1, { i with c := (r : Int) }, lbl, by omega, by go_num, by go_num, rfl, ?_, ?_, ?_, fun _ => HP.out.2.2.2.2.2.2.2, HQ.out.1, ?_⟩
          · rw [HP.out.2.2.2.2.2.1, HP.out.2.2.2.2.2.2.1]; exact HP.out.1
          · rw [HP.out.2.2.2.2.2.1, HP.out.2.2.2.2.2.2.1]; exact HP.out.2.1
          · rw [HP.out.2.2.2.2.2.1]; exact HP.out.2.2.1
          · exact Below.setCell HQ.out.2 (p := ⟨ib, 3, none⟩) HX.out.2.2 _
        case measure => simp [intOf]; omega
      | k m hm =>
        obtain ⟨w1, w2, w3⟩ := word _ _ rfl
        obtain ⟨f1, f2⟩ := fld _ _ rfl
        rw [f1] at hx
        have hac' : ({ i with k := (m : Int) } : Ins) = RR := hac
        have hla' : lbl = LB := hla
        have cR := r4_number_num m hm wr
        have hm0 : ¬ (m : Int) < 0 := by omega
        have hm1 : (0 : Int) ≤ (m : Int) := by omega
        have hm2 : (m : Int) ≤ 4294967295 := by omega
        have HP := Lib.hid (And.intro hac' (And.intro hla' (And.intro hbi (And.intro hB (And.intro w3 f2)))))
        clear hac hla hac' hla' hbi hB w3 f1 f2 word fld hFn hlb
        have hx : (((bf[k]'hkb).toNat : Nat) : Int) = 75 := hx
        go_wp2_with fail
        refine cR.mono ?_
        rintro e W6 ⟨rfl, hB6⟩
        have hbi6 := HP.out.2.2.1.below hB6 HP.out.2.2.1.lt
        have hB16 := HP.out.2.2.2.1.trans (hB6.mono HP.out.2.2.2.1.size)
        have zf := hbi6.frozen 4
        have hset := hbi6.set_ 4 (.int .u32 (m : Int))
        have z4 : W6.cell? ⟨ib, 4, none⟩ = some (.int .u32 i.k) := (hbi6.cell 4).trans rfl
        have HQ := Lib.hid (And.intro hset hB16)
        clear cR hB6 hbi6 hB16 hset
        go_wp2
        go_roundw
        case rel =>
          refine ⟨k + 1, { i with k := (m : Int) }, lbl, by omega, by go_num, by go_num, rfl, ?_, ?_, ?_, ?_, HQ.out.1, ?_⟩
          · rw [HP.out.2.2.2.2.1, HP.out.2.2.2.2.2]; exact .nil
          · rw [HP.out.2.2.2.2.1, HP.out.2.2.2.2.2]; exact HP.out.1
          · rw [HP.out.2.2.2.2.1]; exact HP.out.2.1
          · rw [HP.out.2.2.2.2.1]; exact fun q => absurd rfl q
          · exact Below.setCell HQ.out.2 (p := ⟨ib, 4, none⟩) HX.out.2.2 _
        case measure => simp [intOf]; omega
      | t s hs =>
        obtain ⟨w1, w2, w3⟩ := word _ _ rfl
        obtain ⟨f1, f2⟩ := fld _ _ rfl
        rw [f1] at hx
        have hac' : i = RR := hac
        have hla' : s = LB := hla
        have cNo := r4_number_no s hs
        have cNm := r4_name s hs
        have hs1 : 1 ≤ s.length := by
          unfold NmL at hs
          simp only [Bool.and_eq_true, decide_eq_true_eq] at hs
          exact hs.1.1.1
        have hs2 : s.length ≤ 20 := by
          unfold NmL at hs
          simp only [Bool.and_eq_true, decide_eq_true_eq] at hs
          exact hs.1.1.2
        replace w1 : wr.cell? ⟨g, o + (k + 1), none⟩ = some (.string (ba (64 :: s))) := w1
        obtain ⟨q, hq⟩ : ∃ q, (64 :: s).length = q := ⟨_, rfl⟩
        have hq' : q = s.length + 1 := by rw [← hq]; rfl
        obtain ⟨bw, hbw⟩ : ∃ bw, Bs bw (64 :: s) q := ⟨_, rfl, hq⟩
        rw [← hbw.eq] at w1
        have hbws := hbw.size
        have hb0 : 0 < bw.size := by omega
        have hxw := hbw.at 0 hb0
        have hxw : (((bw[0]'hb0).toNat : Nat) : Int) = 64 := hxw
        have hex : bw.extract 1 q = ba s := by rw [hbw.eq, ba_ext_, List.take_of_length_le (by rw [hq]; exact Nat.le_refl _)]; rfl
        rw [str_ba] at cNo cNm
        have hq3 : decide ((q : Int) < 2) = false := decide_eq_false (by omega)
        have hq4 : (q : Int) ≤ 21 := by omega
        have hq5 : (1 : Int) ≤ (q : Int) := by omega
        have HP := Lib.hid (And.intro hac' (And.intro hla' (And.intro hbi (And.intro hB (And.intro w3 f2)))))
        clear hac hla hac' hla' hbi hB w3 f1 f2 word fld hFn hlb hbw hq hq' hs1 hs2
        have hx : (((bf[k]'hkb).toNat : Nat) : Int) = 84 := hx
        go_wp2_with fail
        try rw [hex]
        refine (cNo _).mono ?_
        rintro e W6 ⟨rfl, hB6⟩
        have hbi6 := HP.out.2.2.1.below hB6 HP.out.2.2.1.lt
        have hB16 := HP.out.2.2.2.1.trans (hB6.mono HP.out.2.2.2.1.size)
        have HQ6 := Lib.hid (And.intro hbi6 hB16)
        clear hB6 hbi6 hB16 cNo
        go_wp2_with fail
        refine (cNm _).mono ?_
        rintro e W7 ⟨rfl, hB7⟩
        have hbi7 := HQ6.out.1.below hB7 HQ6.out.1.lt
        have hB17 := HQ6.out.2.trans (hB7.mono HQ6.out.2.size)
        have HQ := Lib.hid (And.intro hbi7 hB17)
        clear hB7 hbi7 hB17 cNm
        go_wp2
        go_roundw
        case rel =>
          refine ⟨k + 1, i, s, by omega, by go_num, by go_num, rfl, ?_, ?_, ?_, ?_, HQ.out.1, HQ.out.2⟩
          · rw [HP.out.2.2.2.2.1, HP.out.2.2.2.2.2]; exact .nil
          · rw [HP.out.2.2.2.2.1, HP.out.2.2.2.2.2]; exact HP.out.1
          · rw [HP.out.2.2.2.2.1]; exact HP.out.2.1
          · rw [HP.out.2.2.2.2.1]; exact fun q => absurd rfl q
        case measure => simp [intOf]; omega
      | m m hm =>
        obtain ⟨w1, w2, w3⟩ := word _ _ rfl
        obtain ⟨f1, f2⟩ := fld _ _ rfl
        rw [f1] at hx
        have hac' : ({ i with b := 8, k := (m : Int) } : Ins) = RR := hac
        have hla' : lbl = LB := hla
        have hl0 := hlb (by simp)
        have cR := r4_address m hm wr
        have hm0 : ¬ (m : Int) < 0 := by omega
        have hm1 : (0 : Int) ≤ (m : Int) := by omega
        have hm2 : (m : Int) ≤ 4294967295 := by omega
        have hm3 : decide ((m : Int) < 0) = false := decide_eq_false (by omega)
        have HP := Lib.hid (And.intro hac' (And.intro (hl0.symm.trans hla') (And.intro hbi hB)))
        clear hac hla hac' hla' hbi hB w3 f1 f2 word fld hFn hlb hl0
        have hx : (((bf[k]'hkb).toNat : Nat) : Int) = 77 := hx
        go_wp2_with fail
        refine cR.mono ?_
        rintro e W6 ⟨rfl, hB6⟩
        have hbi6 := HP.out.2.2.1.below hB6 HP.out.2.2.1.lt
        have hB16 := HP.out.2.2.2.trans (hB6.mono HP.out.2.2.2.size)
        have zf2 := hbi6.frozen 2
        have zf4 := (hbi6.set_ 2 (.int .i64 8)).frozen 4
        have z2 : W6.cell? ⟨ib, 2, none⟩ = some (.int .i64 i.b) := (hbi6.cell 2).trans rfl
        have hbi7 := (hbi6.set_ 2 (.int .i64 8))
        have z4 : (W6.setCell ⟨ib, 2, none⟩ (.int .i64 8)).cell? ⟨ib, 4, none⟩ = some (.int .u32 i.k) := (hbi7.cell 4).trans rfl
        have hbi8 := hbi7.set_ 4 (.int .u32 (m : Int))
        have hbi : Blk ((W6.setCell ⟨ib, 2, none⟩ (.int .i64 8)).setCell ⟨ib, 4, none⟩ (.int .u32 (m : Int))) ib 41 (insV RR) := by rw [← HP.out.1]; exact hbi8
        have hB8 := Below.setCell (Below.setCell hB16 (p := ⟨ib, 2, none⟩) HX.out.2.2 (.int .i64 8)) (p := ⟨ib, 4, none⟩) HX.out.2.2 (.int .u32 (m : Int))
        have hbr := HX.out.2.1.below hB8 HX.out.2.1.lt
        have HQ := Lib.hid (And.intro hB16 (HX.out.1.trans (hB8.mono HX.out.1.size)))
        have HF := Lib.hid HP.out.2.1.symm
        clear cR hB6 hbi6 hB16 hbi7 hbi8 hB8
        go_wp2_with (first | (refine wpList_load_rowG (by rfl) 41 (.tmp 6) rfl ib rfl 41 (insV RR) (0, 0) _ hbi Tryd.underlying41 rfl insR_info ?_) | (refine wpList_store_row rfl 41 (.tmp 2) (.tmp 101) rfl rb rfl (insV RR) rfl 41 _ hbr rfl insR_info (insV_one _) ?_; intro W9 hb9 hg9))
        have hb10 : Below w.heap.size w W9 := HQ.out.2.trans (below_of_grown HQ.out.2.size hg9 (fun g e => by cases e; omega))
        exact bodyPost_ret (results_row_tmp_tmp Tryd.results74 _ _ rb (.agg (insV RR)) rfl (run_row _ _ _ _ _ _ hb9 Tryd.underlying41 rfl insR_info)) rfl ⟨by rw [HRR.out.1, HRR.out.2, HF.out]; rfl, by first | exact hb10 | (rw [← hrb]; exact hb10)⟩
    · obtain rfl : k = nf := by omega
      have hki : ¬ (k : Int) < (k : Int) := by omega
      have e1 : (flB op).drop k = [] := List.drop_eq_nil_of_le (by rw [HL.out.1.len]; exact Nat.le_refl _)
      rw [e1] at hft hac
      obtain ⟨Ws, hWs⟩ : ∃ Ws, ws.drop k = Ws := ⟨_, rfl⟩
      rw [hWs] at hft hac hla
      cases hft with
      | nil =>
        have hac' : i = RR := hac
        have hla' : lbl = LB := hla
        subst hac'
        have hbr := HX.out.2.1.below hB HX.out.2.1.lt
        have HQ := Lib.hid (And.intro hB (HX.out.1.trans (hB.mono HX.out.1.size)))
        have HF := Lib.hid hla'.symm
        clear hac hla hla' hB hWs e1 hlb
        go_wp2_with (first | (refine wpList_load_rowG (by rfl) 41 (.tmp 6) rfl ib rfl 41 (insV i) (0, 0) _ hbi Tryd.underlying41 rfl insR_info ?_) | (refine wpList_store_row rfl 41 (.tmp 2) (.tmp 145) rfl rb rfl (insV i) rfl 41 _ hbr rfl insR_info (insV_one _) ?_; intro W9 hb9 hg9))
        have hb10 : Below w.heap.size w W9 := HQ.out.2.trans (below_of_grown HQ.out.2.size hg9 (fun g e => by cases e; omega))
        exact bodyPost_ret (results_row_tmp_tmp Tryd.results74 _ _ rb (.agg (insV i)) rfl (run_row _ _ _ _ _ _ hb9 Tryd.underlying41 rfl insR_info)) rfl ⟨by rw [HRR.out.1, HRR.out.2, HF.out]; rfl, by first | exact hb10 | (rw [← hrb]; exact hb10)⟩
end Go.Proofs.YtmhfpjnkjlhbpaaDoor
