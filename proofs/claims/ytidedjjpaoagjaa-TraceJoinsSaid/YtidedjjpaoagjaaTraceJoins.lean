/- What a thread put out of two rows of events, one behind the other, is what it put out of the one, and then of the other; others' events change nothing. For every two slices of events and every integer. -/
import Derived.Test.YtidedjjpaoagjaaTraceOutsL
namespace Go.Proofs.Ytidedjjpaoagjaa
open Go.ChangeShapes Go.WideShapes Go.ChangeAt Go.RowKit Go.Deep
set_option linter.unusedVariables false
set_option linter.unusedSimpArgs false

theorem ev_info : (Try.prog.info? 31).map (fun i => (i.zero, i.size, i.bytes)) = some (some (.agg #[.int .i64 0, .int .i64 0, .int .i64 0, .int .i64 0, .int .u32 0, .int .u32 0, .int .u32 0, .bool false]), 8, 48) := by kernel_rfl
def lst (E : Nat → Ev) (n : Nat) : List Ev := (List.range n).map E
theorem lst_len (E : Nat → Ev) (n : Nat) : (lst E n).length = n := by simp [lst]
def ovs (f : Ev → Bool) (l : List Ev) : List Int := (l.filter f).map (·.value)
theorem sel_lst (f : Ev → Bool) (E : Nat → Ev) : ∀ n, sel f E n = ovs f (lst E n)
  | 0 => rfl
  | n + 1 => by
    unfold ovs lst
    rw [List.range_succ, List.map_append, List.filter_append, List.map_append]
    by_cases h : f (E n) = true
    · rw [sel_hit h, sel_lst f E n]
      unfold ovs lst
      simp [h]
    · have h' : f (E n) = false := by simpa using h
      rw [sel_miss h', sel_lst f E n]
      unfold ovs lst
      simp [h']
theorem lst_get (l : List Ev) : lst (fun i => l.getD i default) l.length = l := by
  unfold lst
  apply List.ext_getElem
  · simp
  · intro i h1 h2
    simp [List.getD_eq_getElem?_getD, List.getElem?_eq_getElem h2]
theorem sel_list (f : Ev → Bool) (l : List Ev) : sel f (fun i => l.getD i default) l.length = ovs f l := by rw [sel_lst, lst_get]
theorem ovs_append (f : Ev → Bool) (a b : List Ev) : ovs f (a ++ b) = ovs f a ++ ovs f b := by simp [ovs]
theorem ovs_own (t : Int) (l : List Ev) : ovs (outF t) (l.filter fun x => x.who == t) = ovs (outF t) l := by
  unfold ovs
  rw [List.filter_filter]
  congr 1
  apply List.filter_congr
  intro x _
  unfold outF
  cases (x.who == t) <;> simp
theorem ovs_none (t u : Int) (h : u ≠ t) (l : List Ev) : ovs (outF u) (l.filter fun x => x.who == t) = [] := by
  unfold ovs
  rw [List.filter_filter, List.filter_eq_nil_iff.2, List.map_nil]
  intro x _
  unfold outF
  by_cases e : x.who = t
  · have : (x.who == u) = false := by rw [e]; simpa using Ne.symm h
    rw [this]; simp
  · simp [e]
theorem cells_len (x : Ev) : x.cells.length = 8 := rfl
theorem flat_one (l : List Ev) : ∀ k, k < l.length * 8 → ((l.flatMap Ev.cells).getD k undef).oneCell' = true := fun k hk => by
  have := flat_get Ev.cells 8 cells_len default l (k / 8) (by omega) (k % 8) (by omega)
  rw [show k / 8 * 8 + k % 8 = k from by omega] at this
  rw [List.getD_eq_getElem?_getD, this]
  generalize l.getD (k / 8) default = x
  rcases (by omega : k % 8 = 0 ∨ k % 8 = 1 ∨ k % 8 = 2 ∨ k % 8 = 3 ∨ k % 8 = 4 ∨ k % 8 = 5 ∨ k % 8 = 6 ∨ k % 8 = 7) with e | e | e | e | e | e | e | e <;> rw [e] <;> rfl
/-- Events of a slice, cell by cell. -/
theorem sl_flat {W : World} {A : Option Addr} {n : Nat} {E : Nat → Ev} (h : SlE W A n 8 (fun i => (E i).cells)) : Sl W A (n * 8) (fun i => ((lst E n).flatMap Ev.cells).getD i undef) := fun hp => by
  obtain ⟨b, off, rfl, hlt, hc⟩ := h (by omega)
  refine ⟨b, off, rfl, hlt, fun i hi => ?_⟩
  have h1 := flat_get Ev.cells 8 cells_len default (lst E n) (i / 8) (by rw [lst_len]; omega) (i % 8) (by omega)
  rw [show i / 8 * 8 + i % 8 = i by omega] at h1
  have h2 : (lst E n).getD (i / 8) default = E (i / 8) := by
    unfold lst
    rw [List.getD_eq_getElem?_getD, List.getElem?_map, List.getElem?_range (by omega)]
    rfl
  rw [h2] at h1
  obtain ⟨u, hu⟩ : ∃ u, (E (i / 8)).cells[i % 8]? = some u := ⟨_, List.getElem?_eq_getElem (by rw [cells_len]; omega)⟩
  have := hc (i / 8) (by omega) (i % 8) u hu
  rw [show off + i / 8 * 8 + i % 8 = off + i by omega] at this
  rw [this]
  simp only [List.getD_eq_getElem?_getD, h1, hu]
  rfl
theorem range_flat (l : List Ev) : (List.range (l.length * 8)).map (fun i => (l.flatMap Ev.cells).getD i undef) = l.flatMap Ev.cells := range_getD _ _ (flat_len Ev.cells 8 cells_len l)
theorem range_lst (E : Nat → Ev) (n : Nat) : (List.range (n * 8)).map (fun i => ((lst E n).flatMap Ev.cells).getD i undef) = (lst E n).flatMap Ev.cells := by
  have := range_flat (lst E n)
  rwa [lst_len] at this
theorem range_words (L : List Int) (n : Nat) (h : n = L.length) : (List.range (n * 1)).map (fun i => Value.int .u32 (L.getD i 0)) = L.map (Value.int .u32) := by
  subst h
  rw [Nat.mul_one]
  apply List.ext_getElem
  · simp
  · intro i h1 h2
    have : i < L.length := by simpa using h2
    simp [List.getD_eq_getElem?_getD, List.getElem?_eq_getElem this]
theorem own_empty (w : World) (t : TypeId) (size : Nat) : (w.alloc (.cells #[] t)).ownsRow w.heap.size t size (.slice (some ⟨w.heap.size, 0, none⟩) 0 0) 0 [] :=
  ⟨by simp, .inr ⟨w.heap.size, 0, #[], rfl, Nat.le_refl _, Blk.new w t #[], Nat.le_refl _, Nat.zero_le _, by simp, by simp⟩⟩
theorem wrap_ne (t : Int) : wrap64 (t + 1) ≠ t := by
  unfold wrap64
  omega
/-- The thread's own events of the first k. -/
def ownL (t : Int) (all : List Ev) (k : Nat) : List Ev := (all.take k).filter fun x => x.who == t
theorem ownL_hit {t : Int} {all : List Ev} {k : Nat} (hk : k < all.length) (h : (all.getD k default).who = t) : ownL t all (k + 1) = ownL t all k ++ [all.getD k default] := by
  unfold ownL
  rw [List.take_succ_eq_append_getElem hk, List.filter_append]
  rw [List.getD_eq_getElem?_getD, List.getElem?_eq_getElem hk] at h ⊢
  simp only [Option.getD_some] at h ⊢
  rw [List.filter_cons_of_pos (by simpa using h)]
  rfl
theorem ownL_miss {t : Int} {all : List Ev} {k : Nat} (hk : k < all.length) (h : (all.getD k default).who ≠ t) : ownL t all (k + 1) = ownL t all k := by
  unfold ownL
  rw [List.take_succ_eq_append_getElem hk, List.filter_append]
  rw [List.getD_eq_getElem?_getD, List.getElem?_eq_getElem hk] at h
  simp only [Option.getD_some] at h
  rw [List.filter_cons_of_neg (by simpa using h)]
  simp
theorem ownL_len (t : Int) (all : List Ev) (k : Nat) : (ownL t all k).length ≤ k := by
  unfold ownL
  have := List.length_filter_le (fun x : Ev => x.who == t) (all.take k)
  have := List.length_take_le k all
  omega
/-- What holds between two rounds. -/
structure JI (t : Int) (all : List Ev) (w W : World) (k : Nat) (v : Value) : Prop where
  row : W.ownsRow w.heap.size 31 8 v (ownL t all k).length ((ownL t all k).flatMap Ev.cells)
  below : Below w.heap.size w W
theorem JI.miss {t : Int} {all : List Ev} {w W : World} {k : Nat} {v : Value} (h : JI t all w W k v) (hk : k < all.length) (hf : (all.getD k default).who ≠ t) : JI t all w W (k + 1) v := ⟨by rw [ownL_miss hk hf]; exact h.row, h.below⟩
theorem JI.hit {t : Int} {all : List Ev} {w W W' : World} {k : Nat} {v v' : Value} (h : JI t all w W k v) (hk : k < all.length) (hf : (all.getD k default).who = t) {o : Obj} (hg : (W.alloc o).grownBy W' v.ownBlock) {x : Ev} (hx : all.getD k default = x)
    (hown : W'.ownsRow w.heap.size 31 8 v' ((ownL t all k).length + 1) ((ownL t all k).flatMap Ev.cells ++ x.cells)) : JI t all w W' (k + 1) v' :=
  ⟨by rw [ownL_hit hk hf, List.length_append, List.flatMap_append, hx]; simpa using hown, below_own (h.below.alloc h.below.size _) (h.row.alloc _) hg (Nat.le_refl _) (Nat.le_refl _)⟩
theorem own_filter_snoc (t : Int) (l : List Ev) (k : Nat) (hk : k < l.length) : ((l.take (k + 1)).filter fun x => x.who == t) = ((l.take k).filter fun x => x.who == t) ++ (if (l.getD k default).who == t then [l.getD k default] else []) := by
  rw [List.take_succ_eq_append_getElem hk, List.filter_append]
  congr 1
  rw [List.getD_eq_getElem?_getD, List.getElem?_eq_getElem hk]
  simp only [Option.getD_some, List.filter_cons, List.filter_nil]

theorem traceJoins_long (A B : Option Addr) (la ca lb cb : Nat) (a : Value) (w : World) (hl : 400 < la) (hm : la ≤ maxLen) (hm' : lb ≤ maxLen) :
    Calls Try.prog 6 #[.slice A la ca, .slice B lb cb, a] w fun e w' => e = .returned (.bool true) ∧ Below w.heap.size w w' := by
  unfold maxLen at hm hm'
  have hl' : (400 : Int) < (la : Int) := by omega
  go_enter Try.func6, Try.ntmps6
  go_wp2_with fail
  refine (awake_any _).mono ?_
  rintro e w1 ⟨rfl, hb1⟩
  go_wp2_with fail
  refine (awake_any _).mono ?_
  rintro e w2 ⟨rfl, hb2⟩
  go_wp2
  go_ret
  exact ⟨rfl, step_below hb1 hb2⟩

theorem traceJoins_long2 (A B : Option Addr) (la ca lb cb : Nat) (a : Value) (w : World) (hl0 : la ≤ 400) (hl : 400 < lb) (hm : lb ≤ maxLen) :
    Calls Try.prog 6 #[.slice A la ca, .slice B lb cb, a] w fun e w' => e = .returned (.bool true) ∧ Below w.heap.size w w' := by
  unfold maxLen at hm
  have hl1 : ¬ (400 : Int) < (la : Int) := by omega
  have hl' : (400 : Int) < (lb : Int) := by omega
  go_enter Try.func6, Try.ntmps6
  go_wp2_with fail
  refine (awake_any _).mono ?_
  rintro e w1 ⟨rfl, hb1⟩
  go_wp2_with fail
  refine (awake_any _).mono ?_
  rintro e w2 ⟨rfl, hb2⟩
  go_wp2
  go_ret
  exact ⟨rfl, step_below hb1 hb2⟩

set_option maxRecDepth 100000 in
set_option maxHeartbeats 8000000 in
theorem traceJoins_true (A B : Option Addr) (la ca lb cb : Nat) (Ea Eb : Nat → Ev) (t : Int) (hla : la ≤ 400) (hlb : lb ≤ 400) (w : World) (hs : SlE w A la 8 (fun i => (Ea i).cells)) (hs' : SlE w B lb 8 (fun i => (Eb i).cells)) :
    Calls Try.prog 6 #[.slice A la ca, .slice B lb cb, .int .i64 t] w fun e w' => e = .returned (.bool true) ∧ Below w.heap.size w w' := by
  obtain ⟨i0, hi, hz0, hz1, hz2⟩ := info_parts ev_info
  obtain ⟨j0, hj, hj0, hj1, hj2⟩ := info_parts u32_info
  have hl1 : ¬ (400 : Int) < (la : Int) := by omega
  have hl2 : ¬ (400 : Int) < (lb : Int) := by omega
  have HS := Lib.hid hs
  have HS' := Lib.hid hs'
  clear hs hs'
  have HA := Lib.hid (lst_len Ea la)
  have HB := Lib.hid (lst_len Eb lb)
  go_enter Try.func6, Try.ntmps6
  go_wp2_with fail
  refine (awake_any _).mono ?_
  rintro e w1 ⟨rfl, hb1⟩
  have own0 := own_empty w1 31 8
  have hB1 := hb1.alloc hb1.size (Obj.cells #[] 31)
  have fA := sl_flat (HS.out.below (Nat.le_refl _) hB1)
  go_wp2_with (first
    | (at_builtin; refine wpList_append_sl _ rfl (.tmp 23) (.tmp 24) 22 rfl w1.heap.size 31 i0 _ 8 48 Try.underlying22 hi hz0 hz1 hz2 rfl (by omega) _ 0 _ rfl own0 A la ca (fun i => ((lst Ea la).flatMap Ev.cells).getD i undef) rfl fA (fun k hk => flat_one (lst Ea la) k (by rw [HA.out]; exact hk)) (by unfold maxLen; omega) (by omega) (by simp) ?_; intro v2 w2 own2 hg2 _; go_must (have hB2 := below_own hB1 own0 hg2 hb1.size (Nat.le_refl _); have fB := sl_flat (HS'.out.below (Nat.le_refl _) hB2); have hsz2 := hg2.size; clear own0))
    | (at_builtin; go_must (refine wpList_append_sl _ rfl (.tmp 25) (.tmp 26) 22 rfl w1.heap.size 31 i0 _ 8 48 Try.underlying22 hi hz0 hz1 hz2 rfl (by omega) v2 (0 + la) _ rfl own2 B lb cb (fun i => ((lst Eb lb).flatMap Ev.cells).getD i undef) rfl fB (fun k hk => flat_one (lst Eb lb) k (by rw [HB.out]; exact hk)) (by unfold maxLen; omega) (by omega) (by simp at hsz2; omega) ?_; intro v3 w3 own3 hg3 _)))
  have hB3 := below_own hB2 own2 hg3 hb1.size (Nat.le_refl _)
  rw [Nat.zero_add, List.nil_append, range_lst, range_lst, ← List.flatMap_append, show la + lb = (lst Ea la ++ lst Eb lb).length by rw [List.length_append, HA.out, HB.out]] at own3
  have HL : Hid ((lst Ea la ++ lst Eb lb).length = la + lb) := Lib.hid (by rw [List.length_append, HA.out, HB.out])
  obtain ⟨all, hall⟩ : ∃ all, lst Ea la ++ lst Eb lb = all := ⟨_, rfl⟩
  have HALL := Lib.hid hall
  rw [hall] at own3 HL
  clear hall fA fB hsz2 hg2 hg3 own2 hB1 hB2
  obtain ⟨A3, c3, rfl, hnc3, s3⟩ := own_sle Ev.cells cells_len default all own3
  obtain ⟨n, hn⟩ : ∃ n, all.length = n := ⟨_, rfl⟩
  have HN := Lib.hid hn
  rw [hn] at s3 hnc3 ⊢
  have hn8 : n ≤ 800 := by have := HL.out; omega
  clear own3 hn
  refine (outs_sel A3 n c3 (fun i => all.getD i default) t (by omega) _ s3).mono ?_
  intro e w4 h4
  obtain ⟨A4, n4, c4, rfl, e4, l4, s4, hb4⟩ := h4.s
  rw [← HN.out, sel_list] at e4 s4
  have hB4 := step_below hB3 hb4
  have HE4 := Lib.hid e4
  have hm4 : n4 ≤ 1000 := by
    have := sel_len (outF t) (fun i => all.getD i default) n
    rw [← HN.out, sel_list] at this
    have := HN.out
    omega
  clear h4 e4
  go_wp2_with fail
  refine (outs_sel A la ca Ea t (by omega) _ (HS.out.below (Nat.le_refl _) (hB4.alloc hB4.size (Obj.cells #[] 29)))).mono ?_
  intro e w5 h5
  obtain ⟨A5, n5, c5, rfl, e5, l5, s5, hb5⟩ := h5.s
  rw [sel_lst] at e5 s5
  have HE5 := Lib.hid e5
  have hm5 : n5 ≤ 400 := by
    have := sel_len (outF t) Ea la
    rw [sel_lst] at this
    omega
  clear h5 e5
  have own4 := own_below (own_empty w4 29 1) (Nat.le_refl _) hb5
  have hB5 := step_below (hB4.alloc hB4.size (Obj.cells #[] 29)) hb5
  have hb45 := step_below ((Below.refl w4.heap.size w4).alloc (Nat.le_refl _) (Obj.cells #[] 29)) hb5
  have hsz5 := hb5.size
  rw [World.size_alloc] at hsz5
  rw [show n5 = n5 * 1 from (Nat.mul_one _).symm] at s5
  go_wp2_with (at_builtin; go_must (refine wpList_append_sl _ rfl (.tmp 31) (.tmp 34) 43 rfl w4.heap.size 29 j0 _ 1 4 Try.underlying43 hj hj0 hj1 hj2 rfl (by omega) _ 0 _ rfl own4 A5 n5 c5 (fun i => .int .u32 ((ovs (outF t) (lst Ea la)).getD i 0)) rfl s5 (fun _ _ => rfl) (by unfold maxLen; omega) (by omega) (by omega) ?_; intro v6 w6 own6 hg6 _))
  have hB6 := below_own hB5 own4 hg6 hB4.size (Nat.le_refl _)
  have hb46 := below_own hb45 own4 hg6 (Nat.le_refl _) (Nat.le_refl _)
  rw [Nat.zero_add, List.nil_append, range_words _ _ HE5.out] at own6
  clear own4 s5 hb45 hg6 hB5
  refine (outs_sel B lb cb Eb t (by omega) _ (HS'.out.below (Nat.le_refl _) hB6)).mono ?_
  intro e w7 h7
  obtain ⟨A7, n7, c7, rfl, e7, l7, s7, hb7⟩ := h7.s
  rw [sel_lst] at e7 s7
  have HE7 := Lib.hid e7
  have hm7 : n7 ≤ 400 := by
    have := sel_len (outF t) Eb lb
    rw [sel_lst] at this
    omega
  clear h7 e7
  have own7 := own_below own6 (Nat.le_refl _) hb7
  have hB7 := step_below hB6 hb7
  have hb47 : Below w4.heap.size w4 w7 := hb46.trans (hb7.mono hb46.size)
  have hsz7 := hb47.size
  rw [show n7 = n7 * 1 from (Nat.mul_one _).symm] at s7
  clear own6 hB6 hb7 hb46
  go_wp2_with (at_builtin; go_must (refine wpList_append_sl _ rfl (.tmp 35) (.tmp 38) 43 rfl w4.heap.size 29 j0 _ 1 4 Try.underlying43 hj hj0 hj1 hj2 rfl (by omega) _ n5 _ rfl own7 A7 n7 c7 (fun i => .int .u32 ((ovs (outF t) (lst Eb lb)).getD i 0)) rfl s7 (fun _ _ => rfl) (by unfold maxLen; omega) (by omega) (by omega) ?_; intro v8 w8 own8 hg8 _))
  have hB8 := below_own hB7 own7 hg8 hB4.size (Nat.le_refl _)
  have hb48 := below_own hb47 own7 hg8 (Nat.le_refl _) (Nat.le_refl _)
  rw [range_words _ _ HE7.out, ← List.map_append, ← ovs_append, HALL.out] at own8
  have hn8 : n5 + n7 = n4 := by
    have h1 := HE4.out
    rw [← HALL.out, ovs_append, List.length_append, ← HE5.out, ← HE7.out] at h1
    exact h1.symm
  rw [hn8] at own8
  obtain ⟨A8, c8, rfl, _, _, s8⟩ := own_words own8
  clear own7 own8 hg8 hb47 hB7 hn8
  refine (words_yes A4 A8 n4 c4 c8 (ovs (outF t) all) (by omega) _ (s4.below (Nat.le_refl _) hb48) s8).mono ?_
  rintro e w9 ⟨rfl, q, rfl⟩
  have hB9 : Below w.heap.size w (w8.drewN q) := hB8.grown (row := none) ⟨rfl, rfl, rfl, Nat.le_refl _, fun _ _ _ => rfl⟩ hB8.size (fun r e => by cases e)
  have hb39 : Below w3.heap.size w3 (w8.drewN q) := (step_below hb4 (hb48.grown (row := none) ⟨rfl, rfl, rfl, Nat.le_refl _, fun _ _ _ => rfl⟩ hb48.size (fun r e => by cases e)))
  have S3 := Lib.hid (s3.below (Nat.le_refl _) hb39)
  generalize w8.drewN q = w9 at hB9 S3 ⊢
  clear s4 s7 s8 hb48 hB8 hb39 hb4 hB3 hB4 s3
  go_wp2
  go_loopw [8, 9] (fun v i wr => ∃ k : Nat, k ≤ n ∧ i = .int .i64 (k : Int) ∧ JI t all w9 wr k v) (fun _ i _ => n - (intOf i).toNat)
  case atStart => exact ⟨0, Nat.zero_le _, rfl, ⟨World.ownsRow_nil _ _ _ _, Below.refl _ _⟩⟩
  case round =>
    obtain ⟨k, hk, rfl, hI⟩ := hrel
    by_cases hlt : k < n
    · obtain ⟨b, off, rfl, hbb, hcc⟩ := S3.out (by omega)
      have hlt' : (k : Int) < (n : Int) := by omega
      have hk0 : (0 : Int) ≤ (k : Int) := by omega
      have hc : ∀ j u, (all.getD k default).cells[j]? = some u → wr.cell? ⟨b, off + k * 8 + j, none⟩ = some u := fun j u hu => keepAt hI.below hbb (hcc k hlt j u hu)
      have hka : k < all.length := by rw [HN.out]; exact hlt
      have hol := ownL_len t all k
      obtain ⟨x, hx⟩ : ∃ x, all.getD k default = x := ⟨_, rfl⟩
      rw [hx] at hc
      obtain ⟨m, hm⟩ : ∃ m, (ownL t all k).length = m := ⟨_, rfl⟩
      have hrow := hI.row
      rw [hm] at hrow hol
      have HX := Lib.hid (And.intro hx (And.intro hm hI))
      clear hx hm hI hcc hka
      obtain ⟨kd, wh, pc, ad, va, ol, kk, ok, v0, v1, k0, k1⟩ := x
      have c0 := hc 0 _ rfl
      have c1 := hc 1 _ rfl
      have c2 := hc 2 _ rfl
      have c3 := hc 3 _ rfl
      have c4 := hc 4 _ rfl
      have c5 := hc 5 _ rfl
      have c6 := hc 6 _ rfl
      have c7 := hc 7 _ rfl
      rw [Nat.add_zero] at c0
      have hsz := HX.out.2.2.below.size
      clear hc
      by_cases hw : wh = t
      · have hwb : (wh == t) = true := by simpa using hw
        have HW := Lib.hid hw
        clear hw
        have hsl := sl_new wr 31 [.int .i64 kd, .int .i64 wh, .int .i64 pc, .int .i64 ad, .int .u32 va, .int .u32 ol, .int .u32 kk, .bool ok]
        have hrow1 := hrow.alloc (.cells #[.int .i64 kd, .int .i64 wh, .int .i64 pc, .int .i64 ad, .int .u32 va, .int .u32 ol, .int .u32 kk, .bool ok] 31)
        go_wp2_with (at_builtin; go_must (refine wpList_append_sl _ rfl (.tmp 55) (.tmp 60) 22 rfl w9.heap.size 31 i0 _ 8 48 Try.underlying22 hi hz0 hz1 hz2 rfl (by omega) _ m _ rfl hrow1 _ 1 _ (fun i => [Value.int .i64 kd, .int .i64 wh, .int .i64 pc, .int .i64 ad, .int .u32 va, .int .u32 ol, .int .u32 kk, .bool ok].getD i undef) rfl hsl (fun i hi => by rcases (by omega : i = 0 ∨ i = 1 ∨ i = 2 ∨ i = 3 ∨ i = 4 ∨ i = 5 ∨ i = 6 ∨ i = 7) with rfl | rfl | rfl | rfl | rfl | rfl | rfl | rfl <;> rfl) (by unfold maxLen; omega) (by omega) (by simp; omega) ?_; intro v' w5 own5 hg5 _))
        obtain ⟨hx, hm, hI⟩ := HX.out
        rw [← hm] at own5
        have hI5 := hI.hit (by rw [HN.out]; exact hlt) (by rw [hx]; exact HW.out) hg5 hx own5
        go_roundw
        case measure => simp [intOf]; omega
        case rel => exact ⟨k + 1, by omega, by go_num, hI5⟩
      · have hwb : (wh == t) = false := by simpa using hw
        have HW := Lib.hid hw
        clear hw
        have hI5 := HX.out.2.2.miss (by rw [HN.out]; exact hlt) (by rw [HX.out.1]; exact HW.out)
        have HI5 := Lib.hid hI5
        clear hI5 hrow
        go_wp2
        go_roundw
        case measure => simp [intOf]; omega
        case rel => exact ⟨k + 1, by omega, by go_num, HI5.out⟩
    · obtain rfl : n = k := by omega
      have hnn : ¬ (n : Int) < (n : Int) := by omega
      obtain ⟨own, hown⟩ : ∃ own, ownL t all n = own := ⟨_, rfl⟩
      have HO := Lib.hid hown
      obtain ⟨row9, hBr⟩ := hI
      rw [hown] at row9
      obtain ⟨Ao, co, rfl, hnco, so⟩ := own_sle Ev.cells cells_len default own row9
      have hol := ownL_len t all n
      rw [hown] at hol
      have S3r := Lib.hid (SlE.below S3.out (Nat.le_refl _) hBr)
      have hBw := step_below hB9 hBr
      obtain ⟨no, hno⟩ : ∃ no, own.length = no := ⟨_, rfl⟩
      have HNO := Lib.hid hno
      rw [hno] at so hnco hol ⊢
      clear hown hno row9 hBr hB9
      go_wp2_with fail
      refine (outs_sel Ao no co (fun i => own.getD i default) t (by omega) _ so).mono ?_
      intro e w4' h4
      obtain ⟨A4', n4', c4', rfl, e4', l4', s4', hb4'⟩ := h4.s
      rw [← HNO.out, sel_list, ← HO.out, ownL, List.take_of_length_le (by rw [HN.out]; exact Nat.le_refl _), ovs_own] at e4' s4'
      have HE4' := Lib.hid e4'
      have so2 := Lib.hid (so.step hb4')
      have hBw2 := step_below hBw hb4'
      clear h4 e4' so hBw
      go_wp2_with fail
      refine (outs_sel A3 n c3 (fun i => all.getD i default) t (by omega) _ (S3r.out.below (Nat.le_refl _) hb4')).mono ?_
      intro e w5' h5
      obtain ⟨A5', n5', c5', rfl, e5', l5', s5', hb5'⟩ := h5.s
      rw [← HN.out, sel_list] at e5' s5'
      obtain rfl : n4' = n5' := HE4'.out.trans e5'.symm
      have hm4' : n4' ≤ 1000 := by
        have := HE4'.out
        have h6 := sel_len (outF t) (fun i => all.getD i default) all.length
        rw [sel_list] at h6
        have := HN.out
        omega
      have so3 := Lib.hid (so2.out.step hb5')
      have hBw3 := step_below hBw2 hb5'
      clear h5 e5' hBw2
      go_wp2_with fail
      refine (words_yes A4' A5' n4' c4' c5' _ (by omega) _ (s4'.step hb5') s5').mono ?_
      rintro e w7' ⟨rfl, q7, rfl⟩
      have hq : Below w5'.heap.size w5' (w5'.drewN q7) := (Below.refl _ _).grown (row := none) ⟨rfl, rfl, rfl, Nat.le_refl _, fun _ _ _ => rfl⟩ (Nat.le_refl _) (fun r e => by cases e)
      have so4 := so3.out.step hq
      have hBw4 := step_below hBw3 hq
      generalize w5'.drewN q7 = w8' at so4 hBw4 ⊢
      have HNE := Lib.hid (wrap_ne t)
      clear s4' s5' hb4' hb5' hBw3 hq
      go_wp2_with fail
      have hne := HNE.out
      generalize wrap64 (t + 1) = t' at hne ⊢
      refine (outs_sel Ao no co (fun i => own.getD i default) t' (by omega) _ so4).mono ?_
      intro e w9' h9
      obtain ⟨A9, n9, c9, rfl, e9, l9, s9, hb9⟩ := h9.s
      rw [← HNO.out, sel_list, ← HO.out, ownL, ovs_none t t' hne] at e9
      obtain rfl : n9 = 0 := by simpa using e9
      have hBw5 := step_below hBw4 hb9
      clear h9 e9 s9 hb9 hBw4
      go_wp2
      go_ret
      exact ⟨rfl, hBw5⟩

set_option maxRecDepth 100000 in
theorem traceJoins_lifted (os : Os) (started : os.Started) (H : Type) (enc : TypeId × Value → H) :
    ReturnsInHanded {} Try.checked os 6 .any (Rows.traceJoinsSpec.pre6 enc Try.prog Try.f6 Rows.traceJoinsRow.domain false) (Rows.traceJoinsSpec.post enc Try.prog Try.f6 false true false false) := by
  refine law_lifted started (by kernel_rfl) Try.func6
    (ChangeSpec.witness6 (enc := enc) (C := Try.checked) false ⟨#[], #[.slice none 0 0, .slice none 0 0, .int .i64 0], []⟩ 8 (by kernel_rfl) (by kernel_rfl) (by kernel_rfl) (by kernel_rfl))
    4 rfl (by kernel_rfl) Try.underlying4 (fun ds h => ?_) (by kernel_rfl) ?_
  · rw [show Try.f6.params.size = 3 from by kernel_rfl] at h
    match ds, h with
    | [_, _, _], _ => rfl
  intro W base args ds p hval hA hlt hsz
  rw [Try.params6] at hA hval hsz
  obtain ⟨v0, v1, v2, d0, d1, d2, p0, p1, p2, rfl, rfl, rfl, h0, h1, h2⟩ := trodAll_three hA
  obtain ⟨A, la, ca, Ea, rfl, hlc, hcm, hsl⟩ := open_evs (hval 0 22 v0 rfl rfl) h0 (fun x hx => hlt x (by simp [hx]))
  obtain ⟨B, lb, cb, Eb, rfl, hlc', hcm', hsl'⟩ := open_evs (hval 1 22 v1 rfl rfl) h1 (fun x hx => hlt x (by simp [hx]))
  obtain ⟨t, rfl, rfl, rfl, ts⟩ := open_int Try.underlying3 (hval 2 3 v2 rfl rfl) h2
  by_cases h : la ≤ 400
  · by_cases h' : lb ≤ 400
    · exact traceJoins_true A B la ca lb cb Ea Eb t h h' W hsl hsl'
    · exact traceJoins_long2 A B la ca lb cb _ W h (by omega) (by omega)
  · exact traceJoins_long A B la ca lb cb _ W (by omega) (by omega) (by omega)

theorem traceJoins_holds : Rows.TraceJoinsSaid :=
  OpenClaim.holds_of_wide 6 Try.f6 rfl rfl rfl rfl rfl rfl rfl ⟨rfl, rfl, rfl, rfl, rfl⟩ rfl rfl rfl rfl rfl (by kernel_rfl) Try.func6 (by kernel_rfl)
    (of_decide_eq_true (by kernel_rfl)) (by unfold Func.isWrapper; first | (rw [if_pos (by decide +kernel)]; kernel_rfl) | (rw [if_neg (by decide +kernel)]; exact ⟨rfl, rfl⟩))
    (fun os started H enc _ => traceJoins_lifted os started H enc)
end Go.Proofs.Ytidedjjpaoagjaa
