/- Queues of sleepers: IndexFunc and DeleteFunc over the closure of Wake; Wake. -/
import Derived.Test.YtaanmamgmjhegaaKernC
namespace Go.Proofs.Ytaanmamgmjhegaa
open Go.ChangeShapes Go.WideShapes Go.ChangeAt Go.RowKit Go.Deep
set_option linter.unusedVariables false
set_option linter.unusedSimpArgs false

section
variable {w w' : World} {kb g b b0 n0 n size s : Nat} {tb te t e : TypeId} {cs cs2 : Array Value} {v x : Value} {xs xs0 : List Value}
theorem KStep.rowG (h : KStep w w' kb v) (hb : Blk w kb tb cs) (hr0 : w.ownsRow b0 te s v n0 xs0) (hr : w.ownsRow b e size x n xs) (h1 : e ≠ te) (h2 : e ≠ tb) : w'.ownsRow b e size x n xs := by
  obtain ⟨q1, q2⟩ := hr
  refine ⟨q1, ?_⟩
  rcases q2 with q2 | ⟨g, cap, cur, hv, hgb, hh, q⟩
  · exact .inl q2
  · have hlt : g < w.heap.size := by
      rcases Nat.lt_or_ge g w.heap.size with hlt | hge
      · exact hlt
      · rw [Array.getElem?_eq_none hge] at hh; cases hh
    refine .inr ⟨g, cap, cur, hv, hgb, (h.block g hlt (fun e0 => ?_) (fun e0 => ?_)).trans hh, q⟩
    · subst e0
      unfold Blk at hb
      rw [hb] at hh
      have := Option.some.inj hh
      injection this with _ e1 _
      exact h2 e1.symm
    · rcases hr0.2 with ⟨rfl, _⟩ | ⟨g', cap', cur', rfl, _, hh', _⟩
      · cases e0
      · obtain rfl : g = g' := Option.some.inj e0
        rw [hh'] at hh
        have := Option.some.inj hh
        injection this with _ e1 _
        exact h1 e1.symm
theorem KStep.blkG (h : KStep w w' kb v) (hr0 : w.ownsRow b0 te s v n0 xs0) (hg : Blk w g t cs) (h1 : g ≠ kb) (h2 : t ≠ te) : Blk w' g t cs := by
  refine (h.block g hg.lt h1 (fun e0 => ?_)).trans hg
  rcases hr0.2 with ⟨rfl, _⟩ | ⟨g', cap', cur', rfl, _, hh', _⟩
  · cases e0
  · obtain rfl : g = g' := Option.some.inj e0
    unfold Blk at hg
    rw [hh'] at hg
    have := Option.some.inj hg
    injection this with _ e1 _
    exact h2 e1.symm
end
theorem KStep.row_set {w w' : World} {kb g i : Nat} {cap : Nat} {len : Nat} (h : KStep w w' kb (.slice (some ⟨g, 0, none⟩) len cap)) (u : Value) : KStep w (w'.setCell ⟨g, i, none⟩ u) kb (.slice (some ⟨g, 0, none⟩) len cap) :=
  ⟨h.os, h.tape, h.output, by simpa [World.setCell] using h.size, fun j hj h1 h2 => (Below.heap_setCell w' ⟨g, i, none⟩ u j (fun e => h2 (by rw [e]; rfl))).trans (h.block j hj h1 h2)⟩

/-- Where the first one that is woken stands. -/
def IdxW (l : List Slp) (ab nb ob b0 : Nat) (addr : Int) (n : Nat) (w : World) (e : Ending) (w' : World) : Prop :=
  (e = .returned (.int .i64 (-1)) ∧ wk addr n l = (l, []) ∧ Below w.heap.size w w') ∨
    ∃ k, k < l.length ∧ e = .returned (.int .i64 (k : Int)) ∧ wk addr n (l.take (k + 1)) = (l.take k, [(l.getD k (0, 0)).1]) ∧ Woken w w' ab nb ob b0 addr n (.slice none 0 0) [(l.getD k (0, 0)).1]
set_option maxHeartbeats 1000000 in
theorem index_wake (A : Option Addr) (len cap : Nat) (l : List Slp) (hl : l.length = len) (hm : len ≤ 10000) (ab nb ob b0 : Nat) (addr : Int) (n : Nat) (hn : n ≤ 4294967295) (w : World) (hs : SlE w A len 2 (fun i => slp (l.getD i (0, 0)))) (h : O w ab nb ob b0 addr n (.slice none 0 0) []) :
    Calls Try.prog 39 #[.slice A len cap, .func (.func 35) #[] #[.pointer (some ⟨ab, 0, none⟩), .pointer (some ⟨ob, 0, none⟩), .pointer (some ⟨nb, 0, none⟩)]] w (IdxW l ab nb ob b0 addr n w) := by
  have HS := Lib.hid hs
  have HO := Lib.hid h
  have HL := Lib.hid hl
  clear hs h hl
  go_enter Try.func39, Try.ntmps39
  go_wp2
  go_loopw [8] (fun i wr => ∃ k : Nat, k ≤ len ∧ i = .int .i64 k ∧ wk addr n (l.take k) = (l.take k, []) ∧ Below w.heap.size w wr) (fun i _ => len - (intOf i).toNat)
  case atStart => exact ⟨0, Nat.zero_le _, rfl, rfl, Below.refl _ _⟩
  case round =>
    obtain ⟨k, hk, rfl, hw, hB⟩ := hrel
    have HW := Lib.hid hw
    clear hw
    by_cases hkl : k < len
    · have hk1 : (k : Int) < (len : Int) := by omega
      have hk0 : (0 : Int) ≤ (k : Int) := by omega
      obtain ⟨b, off, rfl, hb, hcc⟩ := HS.out (by omega)
      obtain ⟨⟨x, y⟩, hxy⟩ : ∃ p, l.getD k (0, 0) = p := ⟨_, rfl⟩
      have k0 := hcc k hkl 0 (.int .i64 (l.getD k (0, 0)).1) rfl
      have k1 := hcc k hkl 1 (.int .i64 (l.getD k (0, 0)).2) rfl
      rw [hxy] at k0 k1
      dsimp only at k0 k1
      rw [Nat.add_zero] at k0
      replace k0 := keepAt hB hb k0
      replace k1 := keepAt hB hb k1
      have hsn : wk addr n (l.take (k + 1)) = wstep addr n (l.take k, []) (x, y) := by
        rw [take_snoc l k (0, 0) (by rw [HL.out]; exact hkl), wk_snoc, HW.out, hxy]
      have htk : l.take (k + 1) = l.take k ++ [(x, y)] := by rw [take_snoc l k (0, 0) (by rw [HL.out]; exact hkl), hxy]
      have hO := HO.out.below hB
      have HX := Lib.hid (And.intro hxy (And.intro hsn htk))
      clear hcc hxy hsn htk
      by_cases hx : y = addr ∧ 0 < n
      · have cF := wake1_yes ab nb ob b0 addr n (.slice none 0 0) [] hn (by simp) (x, y) hx.1 hx.2 wr hO
        have HXX := Lib.hid hx
        clear hx
        dsimp only at cF
        go_wp2_with fail
        refine cF.mono ?_
        rintro e w1 ⟨rfl, ov1, hO1, hS1⟩
        go_wp2
        go_ret
        refine .inr ⟨k, by rw [HL.out]; exact hkl, rfl, ?_, ?_⟩
        · rw [HX.out.2.1, HX.out.1]
          exact if_pos HXX.out
        · rw [HX.out.1]
          exact ⟨ov1, hO1, (KStep.of_below hB).trans hS1 (fun i e => by cases e)⟩
      · have cF := wake1_no ab nb ob b0 addr n (.slice none 0 0) [] hn (by simp) (x, y) hx wr hO
        have HXX := Lib.hid hx
        clear hx
        dsimp only at cF
        go_wp2_with fail
        refine cF.mono ?_
        rintro e w1 ⟨rfl, hb1⟩
        have hB1 := step_below hB hb1
        go_wp2
        go_roundw
        case rel =>
          refine ⟨k + 1, by omega, by go_num, ?_, hB1⟩
          rw [HX.out.2.1, HX.out.2.2]
          exact if_neg HXX.out
        case measure => simp [intOf]; omega
    · obtain rfl : len = k := by omega
      have hk1 : ¬ (len : Int) < (len : Int) := by omega
      go_wp2
      go_ret
      refine .inl ⟨rfl, ?_, hB⟩
      have := HW.out
      rwa [List.take_of_length_le (by rw [HL.out]; exact Nat.le_refl _)] at this

theorem slp_zero : ∀ w, (zeroValue 66).run Try.prog w = .ok (.agg #[.int .i64 0, .int .i64 0]) w := fun _ => by kernel_rfl
theorem mid_get (S : List Slp) (l : List Slp) (j : Nat) (h : S.length ≤ j) (hS : S.length ≤ l.length) : (S ++ l.drop S.length).getD j (0, 0) = l.getD j (0, 0) := by
  rw [List.getD_eq_getElem?_getD, List.getD_eq_getElem?_getD, List.getElem?_append_right h, List.getElem?_drop]
  congr 2
  omega
theorem mid_len (S : List Slp) (l : List Slp) (hS : S.length ≤ l.length) : (S ++ l.drop S.length).length = l.length := by
  rw [List.length_append, List.length_drop]; omega
theorem mid_set (S : List Slp) (l : List Slp) (x : Slp) (h : S.length < l.length) : (S ++ l.drop S.length).set S.length x = (S ++ [x]) ++ l.drop (S ++ [x]).length := by
  rw [List.set_append_right _ _ (Nat.le_refl _), Nat.sub_self, List.length_append, List.append_assoc]
  congr 1
  rw [List.drop_eq_getElem_cons h]
  rfl
theorem flat_take (l m : List Slp) : ((l ++ m).flatMap slp).take (l.length * 2) = l.flatMap slp := by
  rw [List.flatMap_append, List.take_left']
  induction l with
  | nil => rfl
  | cons x l ih => rw [List.flatMap_cons, List.length_append, ih, List.length_cons]; show 2 + _ = _; omega

theorem own_ne {w : World} {base g a cap n k s : Nat} {e t : TypeId} {xs : List Value} {cs : Array Value} (h : w.ownsRow base e s (.slice (some ⟨g, 0, none⟩) n cap) k xs) (hb : Blk w a t cs) (ht : t ≠ e) : a ≠ g := by
  intro e0
  subst e0
  rcases h.2 with ⟨e1, _⟩ | ⟨g', cap', cur', e1, _, hh', _⟩
  · cases e1
  · injection e1 with e1 _ _
    injection e1 with e1
    injection e1 with e1 _
    subst e1
    unfold Blk at hb
    rw [hb] at hh'
    have := Option.some.inj hh'
    injection this with _ e2 _
    exact ht e2
theorem O.grown {w w' : World} {ab nb ob b0 : Nat} {addr : Int} {n : Nat} {ov : Value} {outs : List Int} {base g cap m k : Nat} {xs : List Value} (h : O w ab nb ob b0 addr n ov outs) (hr : w.ownsRow base 66 2 (.slice (some ⟨g, 0, none⟩) m cap) k xs) (hg : w.grownBy w' (some g)) : O w' ab nb ob b0 addr n ov outs :=
  ⟨h.a.grown hg (fun e => own_ne hr h.a (by decide) (Option.some.inj e)), h.n.grown hg (fun e => own_ne hr h.n (by decide) (Option.some.inj e)), h.blk.grown hg (fun e => own_ne hr h.blk (by decide) (Option.some.inj e)),
    own_apart h.row hr (by decide) hg, h.lt, h.la, h.ln, Nat.le_trans h.hs hg.size, h.ao, h.no⟩
theorem KStep.grown {w w' w'' : World} {kb g cap len : Nat} (h : KStep w w' kb (.slice (some ⟨g, 0, none⟩) len cap)) (hg : w'.grownBy w'' (some g)) : KStep w w'' kb (.slice (some ⟨g, 0, none⟩) len cap) :=
  ⟨hg.os.trans h.os, hg.tape.trans h.tape, hg.output.trans h.output, Nat.le_trans h.size hg.size, fun j hj h1 h2 => (hg.block j (Nat.lt_of_lt_of_le hj h.size) h2).trans (h.block j hj h1 h2)⟩

/-- What DeleteFunc leaves. -/
def DelW (l : List Slp) (ab nb ob b0 base : Nat) (addr : Int) (n : Nat) (v : Value) (w : World) (e : Ending) (w' : World) : Prop :=
  ∃ v' ov', e = .returned v' ∧ w'.ownsRow base 66 2 v' (wk addr n l).1.length ((wk addr n l).1.flatMap slp) ∧ v'.ownBlock = v.ownBlock ∧ O w' ab nb ob b0 addr n ov' (wk addr n l).2 ∧ KStep w w' ob v

set_option maxRecDepth 100000 in
set_option maxHeartbeats 4000000 in
theorem delete_wake (l : List Slp) (hm : l.length ≤ 10000) (ab nb ob b0 base : Nat) (addr : Int) (n : Nat) (hn : n ≤ 4294967295) (v : Value) (w : World) (hb0 : w.heap.size ≤ b0) (hr : w.ownsRow base 66 2 v l.length (l.flatMap slp)) (h : O w ab nb ob b0 addr n (.slice none 0 0) []) :
    Calls Try.prog 34 #[v, .func (.func 35) #[] #[.pointer (some ⟨ab, 0, none⟩), .pointer (some ⟨ob, 0, none⟩), .pointer (some ⟨nb, 0, none⟩)]] w (DelW l ab nb ob b0 base addr n v w) := by
  obtain ⟨A, cap, rfl, hlc, hs⟩ := own_sle slp (fun _ => rfl) (0, 0) l hr
  have cI := index_wake A l.length cap l rfl hm ab nb ob b0 addr n hn w hs h
  have HR := Lib.hid (And.intro hr h)
  have hcm : cap ≤ 9223372036854775807 := by
    rcases hr.2 with ⟨e, _⟩ | ⟨g, c, cur, e, _, _, _, h2, _⟩
    · injection e with _ _ e; omega
    · injection e with _ _ e; unfold maxLen at h2; omega
  clear hs hr h
  go_enter Try.func34, Try.ntmps34
  go_wp2_with fail
  refine cI.mono ?_
  rintro e w1 (⟨rfl, hw, hb1⟩ | ⟨k, hkl, rfl, hw, ov1, hO1, hS1⟩)
  · have HW := Lib.hid hw
    clear hw
    go_wp2
    go_ret
    refine ⟨_, .slice none 0 0, rfl, ?_, rfl, ?_, KStep.of_below hb1⟩
    · rw [HW.out]; exact own_below HR.out.1 (Nat.le_refl _) hb1
    · rw [HW.out]; exact HR.out.2.below hb1
  · obtain ⟨g, rfl⟩ : ∃ g, A = some ⟨g, 0, none⟩ := by
      rcases HR.out.1.2 with ⟨_, e⟩ | ⟨g, c, cur, e, _⟩
      · omega
      · injection e with e _ _; exact ⟨g, e⟩
    have hr1 : w1.ownsRow base 66 2 (.slice (some ⟨g, 0, none⟩) l.length cap) l.length (l.flatMap slp) := hS1.rowG HR.out.2.blk HR.out.2.row HR.out.1 (by decide) (by decide)
    have hS2 : KStep w w1 ob (.slice (some ⟨g, 0, none⟩) l.length cap) := ⟨hS1.os, hS1.tape, hS1.output, hS1.size, fun i hi h1 _ => hS1.block i hi h1 (by intro e; cases e)⟩
    obtain ⟨len, hlen⟩ : ∃ len, l.length = len := ⟨_, rfl⟩
    have HL := Lib.hid hlen
    have HW := Lib.hid (And.intro hw (And.intro hO1 (And.intro hr1 hS2)))
    clear hw hO1 hr1 hS2 hS1 cI
    rw [hlen] at hm hlc hkl ⊢
    clear hlen
    have hkm : ((k : Int) == -1) = false := by simp
    go_wp2_with fail
    go_loopw [5, 6] (fun i t wr => ∃ (j : Nat) (S : List Slp × List Int) (ov : Value), k < j ∧ j ≤ len ∧ t = .int .i64 j ∧ i = .int .i64 S.1.length ∧ wk addr n (l.take j) = S ∧ 1 ≤ S.2.length ∧ S.1.length + S.2.length = j ∧
      wr.ownsRow base 66 2 (.slice (some ⟨g, 0, none⟩) len cap) len ((S.1 ++ l.drop S.1.length).flatMap slp) ∧ O wr ab nb ob b0 addr n ov S.2 ∧ KStep w wr ob (.slice (some ⟨g, 0, none⟩) len cap)) (fun _ t _ => len - (intOf t).toNat)
    case atStart =>
      refine ⟨k + 1, _, ov1, by omega, by omega, by go_num, ?_, HW.out.1, by simp, ?_, ?_, HW.out.2.1, ?_⟩
      · rw [List.length_take, Nat.min_eq_left (by rw [HL.out]; omega)]
      · rw [List.length_take, Nat.min_eq_left (by rw [HL.out]; omega)]; rfl
      · have := HW.out.2.2.1
        rw [HL.out] at this
        rw [List.length_take, Nat.min_eq_left (by rw [HL.out]; omega), List.take_append_drop]
        exact this
      · have := HW.out.2.2.2
        rwa [HL.out] at this
    case round =>
      clear HW
      obtain ⟨j, ⟨S, T⟩, ov, hkj, hjl, rfl, rfl, hw, hT, hST, hrow, hO, hS⟩ := hrel
      dsimp only at hT hST hrow hO hS hw ⊢
      have hSl : S.length < j := by omega
      have HW := Lib.hid hw
      clear hw
      by_cases hjn : j < len
      · obtain ⟨⟨x, y⟩, hxy⟩ : ∃ p, l.getD j (0, 0) = p := ⟨_, rfl⟩
        have hRlen : (S ++ l.drop S.length).length = len := by rw [mid_len _ _ (by rw [HL.out]; omega), HL.out]
        obtain ⟨A2, c2, e2, _, hsl⟩ := own_sle slp (fun _ => rfl) (0, 0) (S ++ l.drop S.length) (by rw [hRlen]; exact hrow)
        rw [hRlen] at e2 hsl
        injection e2 with e2 _ e3
        subst e2 e3
        obtain ⟨b', off', eo, hgl, hcc⟩ := hsl (by omega)
        injection eo with eo
        injection eo with eo1 eo2
        subst eo1 eo2
        have k0 := hcc j hjn 0 (.int .i64 ((S ++ l.drop S.length).getD j (0, 0)).1) rfl
        have k1 := hcc j hjn 1 (.int .i64 ((S ++ l.drop S.length).getD j (0, 0)).2) rfl
        rw [mid_get S l j (by omega) (by rw [HL.out]; omega), hxy] at k0 k1
        rw [Nat.zero_add] at k0 k1
        rw [Nat.add_zero] at k0
        dsimp only at k0 k1
        have hal := (Below.refl wr.heap.size wr).alloc (Nat.le_refl _) (.cells #[.int .i64 x, .int .i64 y] 66)
        have hO1 := hO.below hal
        have hrow1 := own_below hrow (Nat.le_refl _) hal
        have hS1 : KStep w (wr.alloc (.cells #[.int .i64 x, .int .i64 y] 66)) ob (.slice (some ⟨g, 0, none⟩) len cap) := hS.trans (KStep.of_below hal) (fun i e => .inl e)
        have hbx := Blk.new wr 66 #[.int .i64 x, .int .i64 y]
        have hj0 : (0 : Int) ≤ (j : Int) := by omega
        have hj1 : (j : Int) < (len : Int) := by omega
        have hsn : wk addr n (l.take (j + 1)) = wstep addr n (S, T) (x, y) := by rw [take_snoc l j (0, 0) (by rw [HL.out]; exact hjn), wk_snoc, HW.out, hxy]
        have HX := Lib.hid hsn
        clear hsl hcc hxy hsn hO hrow hS
        by_cases hx : y = addr ∧ T.length < n
        · have cF := wake1_yes ab nb ob b0 addr n ov T hn (by omega) (x, y) hx.1 hx.2 _ hO1
          have HXX := Lib.hid hx
          have HZ := Lib.hid (And.intro hrow1 (And.intro hO1 hS1))
          clear hx hrow1 hO1 hS1 hal hbx
          dsimp only at cF
          go_wp2_with fail
          refine cF.mono ?_
          rintro e w2 ⟨rfl, ov2, hO2, hS2⟩
          have HY := Lib.hid (And.intro hO2 hS2)
          clear hO2 hS2
          go_wp2
          go_roundw
          case rel =>
            refine ⟨j + 1, (S, T ++ [x]), ov2, by omega, by omega, by go_num, rfl, ?_, by simp, by simp; omega, ?_, HY.out.1, ?_⟩
            · rw [HX.out]; exact if_pos HXX.out
            · exact HY.out.2.rowG HZ.out.2.1.blk HZ.out.2.1.row HZ.out.1 (by decide) (by decide)
            · exact HZ.out.2.2.trans HY.out.2 (fun i e => .inr (Nat.le_trans hb0 (own_ge HZ.out.2.1.row i e)))
          case measure => simp [intOf]; omega
        · have cF := wake1_no ab nb ob b0 addr n ov T hn (by omega) (x, y) hx _ hO1
          have HXX := Lib.hid hx
          have HZ := Lib.hid (And.intro hrow1 (And.intro hO1 (And.intro hS1 (And.intro hbx hal))))
          clear hx hrow1 hO1 hS1 hal hbx
          dsimp only at cF
          go_wp2_with fail
          refine cF.mono ?_
          rintro e w2 ⟨rfl, hb2⟩
          obtain ⟨hrow1, hO1, hS1, hbx, hal⟩ := HZ.out
          have hrow2 := own_below hrow1 (Nat.le_refl _) hb2
          have hO2 := hO1.below hb2
          have hS2 : KStep w w2 ob (.slice (some ⟨g, 0, none⟩) len cap) := hS1.trans (KStep.of_below hb2) (fun i e => .inl e)
          have hbx2 := hbx.below hb2 hbx.lt
          have x0 := hbx2.cell 0
          have x1 := hbx2.cell 1
          simp only [List.getElem?_toArray, List.getElem?_cons_zero, List.getElem?_cons_succ] at x0 x1
          have f0 := hrow2.frozenAt (S.length * 2)
          have f1 := hrow2.frozenAt (S.length * 2 + 1)
          obtain ⟨A3, c3, e3, _, hsl⟩ := own_sle slp (fun _ => rfl) (0, 0) (S ++ l.drop S.length) (by rw [hRlen]; exact hrow2)
          rw [hRlen] at e3 hsl
          injection e3 with e3 _ e4
          subst e3 e4
          obtain ⟨b', off', eo, _, hcc⟩ := hsl (by omega)
          injection eo with eo
          injection eo with eo1 eo2
          subst eo1 eo2
          have q0 := hcc S.length (by omega) 0 (.int .i64 ((S ++ l.drop S.length).getD S.length (0, 0)).1) rfl
          have q1 := hcc S.length (by omega) 1 (.int .i64 ((S ++ l.drop S.length).getD S.length (0, 0)).2) rfl
          rw [Nat.zero_add] at q0 q1
          rw [Nat.add_zero] at q0
          have hne : S.length * 2 ≠ S.length * 2 + 1 := by omega
          have hi0 : (0 : Int) ≤ (S.length : Int) := by omega
          have hi1 : (S.length : Int) < (len : Int) := by omega
          have hg1 := (set_only (w := w2) (g := g) (j := S.length * 2) (.int .i64 x)).trans (set_only (w := w2.setCell ⟨g, S.length * 2, none⟩ (.int .i64 x)) (g := g) (j := S.length * 2 + 1) (.int .i64 y))
          have hrow3 := ((hrow2.stored (S.length * 2) (.int .i64 x)).1.stored (S.length * 2 + 1) (.int .i64 y)).1
          have HY := Lib.hid (And.intro hO2 (And.intro hS2 (And.intro hrow2 (And.intro hg1 hrow3))))
          clear hsl hcc hrow1 hO1 hS1 hbx hal hrow2 hO2 hS2 hbx2 hg1 hrow3 hb2 HZ
          go_wp2
          go_roundw
          case rel =>
            obtain ⟨hO2, hS2, hrow2, hg1, hrow3⟩ := HY.out
            refine ⟨j + 1, (S ++ [(x, y)], T), ov, by omega, by omega, by go_num, by rw [List.length_append]; go_num, ?_, hT, by simp; omega, ?_, hO2.grown hrow2 hg1, hS2.grown hg1⟩
            · rw [HX.out]; exact if_neg HXX.out
            · rw [flat_set _ _ (x, y) (by rw [hRlen]; omega), mid_set _ _ _ (by rw [HL.out]; omega)] at hrow3
              exact hrow3
          case measure => simp [intOf]; omega
      · obtain rfl : len = j := by omega
        have hj1 : ¬ (len : Int) < (len : Int) := by omega
        obtain ⟨w3, hclr, hrow3, hg3⟩ := own_clear hrow Try.underlying56 slp_zero rfl rfl rfl S.length (cap - S.length) (by omega)
        rw [flat_take] at hrow3
        have hO3 := hO.grown hrow hg3
        have hS3 := hS.grown hg3
        have hi1 : (S.length : Int) ≤ (len : Int) := by omega
        have hi2 : (S.length : Int) < (cap : Int) := by omega
        have HY := Lib.hid (And.intro hrow3 (And.intro hO3 hS3))
        clear hrow hO hS hrow3 hg3 hO3 hS3
        go_wp2
        go_ret
        have hw : wk addr n l = (S, T) := by
          have := HW.out
          rwa [List.take_of_length_le (by rw [HL.out]; exact Nat.le_refl _)] at this
        refine ⟨_, ov, rfl, ?_, rfl, ?_, ?_⟩
        · rw [hw]; exact HY.out.1
        · rw [hw]; exact HY.out.2.1
        · rw [HL.out]; exact HY.out.2.2

/-- What Wake leaves. -/
def WakeW (l : List Slp) (kb base : Nat) (addr : Int) (n : Nat) (v : Value) (w : World) (e : Ending) (w' : World) : Prop :=
  ∃ v' ov, e = .returned ov ∧ K w' kb base v' (wk addr n l).1 ∧ v'.ownBlock = v.ownBlock ∧ w'.ownsRow w.heap.size 3 1 ov (wk addr n l).2.length ((wk addr n l).2.map (Value.int .i64)) ∧ KStep w w' kb v
set_option maxHeartbeats 1000000 in
theorem wake_any (kb base : Nat) (v : Value) (l : List Slp) (hm : l.length ≤ 10000) (addr : Int) (n : Nat) (hn : n ≤ 4294967295) (w : World) (h : K w kb base v l) (hbs : base ≤ w.heap.size) :
    Calls Try.prog 25 #[.pointer (some ⟨kb, 0, none⟩), .int .i64 addr, .int .u32 (n : Int)] w (WakeW l kb base addr n v w) := by
  have hB := (((Below.refl w.heap.size w).alloc (Nat.le_refl _) (Obj.cells #[.int .i64 addr] 3)).alloc (by simp) (Obj.cells #[.int .u32 (n : Int)] 24)).alloc (by simp; omega) (Obj.cells #[.slice none 0 0] 55)
  have hsz : (((w.alloc (Obj.cells #[.int .i64 addr] 3)).alloc (Obj.cells #[.int .u32 (n : Int)] 24)).alloc (Obj.cells #[.slice none 0 0] 55)).heap.size = w.heap.size + 3 := by simp
  have hO : O (((w.alloc (Obj.cells #[.int .i64 addr] 3)).alloc (Obj.cells #[.int .u32 (n : Int)] 24)).alloc (Obj.cells #[.slice none 0 0] 55)) w.heap.size (w.heap.size + 1) (w.heap.size + 2) (w.heap.size + 3) addr n (.slice none 0 0) [] :=
    { a := ((Blk.new w _ _).alloc _).alloc _
      n := (Blk.new2 w _ _ _).alloc _
      blk := by
        have := Blk.new2 (w.alloc (Obj.cells #[.int .i64 addr] 3)) (Obj.cells #[.int .u32 (n : Int)] 24) 55 #[.slice none 0 0]
        rwa [show (w.alloc (Obj.cells #[.int .i64 addr] 3)).heap.size + 1 = w.heap.size + 2 by simp] at this
      row := ⟨rfl, .inl ⟨rfl, rfl⟩⟩
      lt := by omega
      la := by omega
      ln := by omega
      hs := by rw [hsz]; exact Nat.le_refl _
      ao := by omega
      no := by omega }
  have h1 := h.below hB
  have cD := delete_wake l hm w.heap.size (w.heap.size + 1) (w.heap.size + 2) (w.heap.size + 3) base addr n hn v _ (by rw [hsz]; exact Nat.le_refl _) h1.row hO
  have c0 : (((w.alloc (Obj.cells #[.int .i64 addr] 3)).alloc (Obj.cells #[.int .u32 (n : Int)] 24)).alloc (Obj.cells #[.slice none 0 0] 55)).cell? ⟨kb, 0, none⟩ = some v := (h1.blk.cell 0).trans rfl
  obtain ⟨A, cap, rfl, _, _⟩ := own_sl h.row
  have HH := Lib.hid (And.intro h (And.intro h1 (And.intro hB hO)))
  have hkb := h.blk.lt
  have hlt := h.lt
  clear h h1 hB hO hsz
  go_enter Try.func25, Try.ntmps25
  go_wp2_with fail
  refine cD.mono ?_
  rintro e w4 ⟨v', ov, rfl, hrow, hvb, hO4, hS4⟩
  obtain ⟨h, h1, hB, hO⟩ := HH.out
  have hblk4 : Blk w4 kb 58 #[.slice A l.length cap] := hS4.blkG h1.row h1.blk (by omega) (by decide)
  have f0 := hblk4.frozen 0
  have q0 : w4.cell? ⟨kb, 0, none⟩ = some (.slice A l.length cap) := (hblk4.cell 0).trans rfl
  have hg5 : w4.grownBy (w4.setCell ⟨kb, 0, none⟩ v') (some kb) := set_only _
  have hO5 : Blk (w4.setCell ⟨kb, 0, none⟩ v') (w.heap.size + 2) 55 #[ov] := hO4.blk.far (by show w.heap.size + 2 ≠ kb; omega) v'
  have o0 : (w4.setCell ⟨kb, 0, none⟩ v').cell? ⟨w.heap.size + 2, 0, none⟩ = some ov := (hO5.cell 0).trans rfl
  have hrow5 : (w4.setCell ⟨kb, 0, none⟩ v').ownsRow w.heap.size 3 1 ov (wk addr n l).2.length ((wk addr n l).2.map (Value.int .i64)) := own_base (own_grown hO4.row hg5 (by omega)) (by omega)
  have hK5 : K (w4.setCell ⟨kb, 0, none⟩ v') kb base v' (wk addr n l).1 := ⟨hblk4.set_ 0 v', own_grown hrow hg5 hlt, hlt⟩
  have hS5 : KStep w (w4.setCell ⟨kb, 0, none⟩ v') kb (.slice A l.length cap) :=
    ⟨hS4.os.trans hB.os, hS4.tape.trans hB.tape, hS4.output.trans hB.output, Nat.le_trans hB.size (Nat.le_trans hS4.size hg5.size), fun i hi h2 h3 =>
      (Below.heap_setCell w4 ⟨kb, 0, none⟩ v' i h2).trans ((hS4.block i (Nat.lt_of_lt_of_le hi hB.size) (by omega) h3).trans (hB.block i hi))⟩
  obtain ⟨nA, nc, rfl, _, _⟩ := own_sl hrow
  have HF := Lib.hid (And.intro hK5 (And.intro hvb (And.intro hrow5 hS5)))
  obtain ⟨oA, oc, rfl, _, _⟩ := own_sl hrow5
  clear h h1 hB hO HH hblk4 hg5 hO5 hrow5 hK5 hS5 hrow hO4 hS4 hvb cD c0
  go_wp2
  go_ret
  exact ⟨_, _, rfl, HF.out.1, HF.out.2.1, HF.out.2.2.1, HF.out.2.2.2⟩
end Go.Proofs.Ytaanmamgmjhegaa
