/- A queue of one's own: a slice that may begin in the midst of its block: one element more behind, one less ahead. ref09.waiting. ref09.Orders. -/
import Derived.Test.YtjmnogpnjombgaaDoorTsB1
import Derived.Deep.Upon
namespace Go.Proofs.YtjmnogpnjombgaaDoor
open Go.ChangeShapes Go.WideShapes Go.ChangeAt Go.RowKit Go.Deep
set_option linter.unusedVariables false
set_option maxRecDepth 100000
set_option linter.unusedSimpArgs false

theorem tape_setCells (g : Nat) : ∀ (vs : List Value) (o : Nat) (w : World), (w.setCells g o vs).tape = w.tape
  | [], _, _ => rfl
  | v :: r, o, w => by rw [World.setCells, tape_setCells g r]; rfl
structure Que (N : Nat) (w : World) (size : Nat) (v : Value) (n : Nat) (xs : List Value) : Prop where
  len : xs.length = n * size
  ex : ∃ ao cap, v = .slice ao n cap ∧ n ≤ cap ∧ cap ≤ maxLen ∧ (0 < cap → ∃ g off, ao = some ⟨g, off, none⟩ ∧ N ≤ g ∧ g < w.heap.size ∧ (∀ j, j < n * size → w.cell? ⟨g, off + j, none⟩ = xs[j]?) ∧ ∀ j, j < cap * size → (w.cell? ⟨g, off + j, none⟩).isSome = true ∧ w.frozen? ⟨g, off + j, none⟩ = false)
theorem Que.nil (N : Nat) (w : World) (size : Nat) : Que N w size (.slice none 0 0) 0 [] :=
  ⟨by simp, none, 0, rfl, Nat.le_refl _, Nat.zero_le _, fun h => absurd h (by omega)⟩
theorem Que.below {N : Nat} {w w' : World} {size n : Nat} {v : Value} {xs : List Value} (h : Que N w size v n xs) (hb : Below w.heap.size w w') : Que N w' size v n xs := by
  obtain ⟨h1, ao, cap, rfl, h2, h3, h4⟩ := h
  refine ⟨h1, ao, cap, rfl, h2, h3, fun hc => ?_⟩
  obtain ⟨g, off, e, hN, hg, hcell, hth⟩ := h4 hc
  have hbl : w'.heap[g]? = w.heap[g]? := hb.block g hg
  refine ⟨g, off, e, hN, Nat.lt_of_lt_of_le hg hb.size, fun j hj => ?_, fun j hj => ?_⟩
  · rw [← hcell j hj]; exact World.cell?_of_block (a := ⟨g, off + j, none⟩) hbl
  · obtain ⟨a1, a2⟩ := hth j hj
    exact ⟨(congrArg Option.isSome (World.cell?_of_block (a := ⟨g, off + j, none⟩) hbl)).trans a1, (World.frozen?_of_block (a := ⟨g, off + j, none⟩) hbl).trans a2⟩
/-- Its elements, as cells. -/
theorem Que.cell {N : Nat} {w : World} {size n : Nat} {v : Value} {xs : List Value} (h : Que N w size v n xs) (hn : 0 < n) : ∃ g off cap, v = .slice (some ⟨g, off, none⟩) n cap ∧ g < w.heap.size ∧ ∀ j, j < n * size → w.cell? ⟨g, off + j, none⟩ = xs[j]? := by
  obtain ⟨h1, ao, cap, rfl, h2, h3, h4⟩ := h
  obtain ⟨g, off, rfl, hN, hg, hcell, _⟩ := h4 (by omega)
  exact ⟨g, off, cap, rfl, hg, hcell⟩
section
variable {P : Program}
theorem Que.append {N : Nat} {w : World} {size n : Nat} {v : Value} {xs : List Value} (h : Que N w size v n xs) (t ty e : TypeId) (i : TypeInfo) (z : Value) (bytes : Nat) (ht : P.underlying t = some (.slice e)) (hi : P.info? e = some i) (hz : i.zero = some z)
    (hsize : i.size = size) (hby : i.bytes = bytes) (hzs : z.cells.size = size) (ad : Addr) (c : Nat) (news : List Value) (hl : news.length = 1 * size) (hnews : ∀ j u, news[j]? = some u → w.cell? (ad.add j) = some u) (h1 : ∀ u ∈ news, u.oneCell' = true)
    (h63 : n + 1 ≤ maxLen) (hbytes : (n + 1) * bytes ≤ 140737488355328) (hN : N ≤ w.heap.size) :
    ∃ v' w', (Builtin.append_ #[t, t] ty #[v, .slice (some ad) 1 c]).run P w = .ok v' w' ∧ Que N w' size v' (n + 1) (xs ++ news) ∧ Below N w w' := by
  subst hsize hby
  obtain ⟨hxl, ao, cap, rfl, hle, hcm, hc⟩ := h
  have hs : Src P i.size t (.slice (some ad) 1 c) 1 news w := Src.ofSlice w ht ad 1 c news hl hnews h1
  have hlen : (xs ++ news).length = (n + 1) * i.size := by rw [List.length_append, hxl, hl, Nat.add_mul]
  have hnl : news.length = i.size := by rw [hl, Nat.one_mul]
  by_cases hfit : n + 1 ≤ cap
  · obtain ⟨g, off, rfl, hNg, hgl, hcell, hth⟩ := hc (by omega)
    have hmul : (n + 1) * i.size ≤ cap * i.size := Nat.mul_le_mul_right _ hfit
    rw [Nat.add_mul, Nat.one_mul] at hmul
    have e1 : ∀ j, off + n * i.size + j = off + (n * i.size + j) := fun j => by omega
    have hsome : ∀ j, j < news.length → (w.cell? ⟨g, off + n * i.size + j, none⟩).isSome = true := fun j hj => by rw [e1]; exact (hth _ (by omega)).1
    have hrun := run_append_room_src (P := P) w t t ty e i ht hi g off n cap _ 1 news hs hfit hsome (fun j hj => by rw [e1]; exact (hth _ (by omega)).2)
    have hin : ∀ j, j < news.length → (w.setCells g (off + n * i.size) news).cell? ⟨g, off + (n * i.size + j), none⟩ = news[j]? := fun j hj => by
      have := World.cell?_setCells_in g news (off + n * i.size) w hsome j hj
      rw [e1] at this
      rw [this, List.getElem?_eq_getElem hj]
    have hout : ∀ j, j < n * i.size ∨ (n + 1) * i.size ≤ j → (w.setCells g (off + n * i.size) news).cell? ⟨g, off + j, none⟩ = w.cell? ⟨g, off + j, none⟩ := fun j hj => by
      refine World.cell?_setCells_out g news _ w _ (fun _ _ => ?_)
      show off + j < off + n * i.size ∨ off + n * i.size + news.length ≤ off + j
      rw [Nat.add_mul, Nat.one_mul] at hj
      omega
    have hsz : w.heap.size ≤ (w.setCells g (off + n * i.size) news).heap.size := (World.keptBut_setCells g (may := fun _ => True) news _ w (fun _ _ => trivial)).size
    refine ⟨_, _, hrun, ⟨hlen, _, cap, rfl, hfit, hcm, fun _ => ⟨g, off, rfl, hNg, Nat.lt_of_lt_of_le hgl hsz, fun j hj => ?_, fun j hj => ⟨?_, ?_⟩⟩⟩, ⟨World.os_setCells w g _ _, tape_setCells g _ _ w, World.output_setCells w g _ _, hsz, fun k hk => World.heap_setCells_other w g _ _ (Nat.lt_of_lt_of_le hk hN) (by omega)⟩⟩
    · rw [Nat.add_mul, Nat.one_mul] at hj
      by_cases hjn : j < n * i.size
      · rw [hout j (.inl hjn), hcell j hjn, List.getElem?_append_left (by omega)]
      · have := hin (j - n * i.size) (by omega)
        rw [show n * i.size + (j - n * i.size) = j by omega] at this
        rw [this, List.getElem?_append_right (by omega), hxl]
    · by_cases hjn : j < n * i.size ∨ (n + 1) * i.size ≤ j
      · rw [hout j hjn]; exact (hth j hj).1
      · rw [Nat.add_mul, Nat.one_mul] at hjn
        have := hin (j - n * i.size) (by omega)
        rw [show n * i.size + (j - n * i.size) = j by omega] at this
        rw [this, List.getElem?_eq_getElem (by omega)]
        rfl
    · rw [World.frozen?_setCells]; exact (hth j hj).2
  · have hold : (Builtin.firstCells i.size n (.slice ao n cap)).run P w.drew = .ok xs.toArray w.drew := by
      rcases Nat.eq_zero_or_pos cap with h0 | h0
      · subst h0
        obtain rfl : n = 0 := by omega
        obtain rfl : xs = [] := List.eq_nil_of_length_eq_zero (by simpa using hxl)
        cases ao <;> simp [Builtin.firstCells, loadCells, loadCellsFrom]
      · obtain ⟨g, off, rfl, hNg, hgl, hcell, hth⟩ := hc h0
        exact run_firstCells_some (P := P) w.drew i.size n ⟨g, off, none⟩ n cap xs hxl (fun j u hu => by
          have hj : j < n * i.size := by rw [← hxl]; exact (List.getElem?_eq_some_iff.1 hu).1
          rw [add_plain]
          exact (hcell j hj).trans hu)
    have hg : cap < n + 1 := by omega
    have h63' : ((n + 1 : Nat) : Int) ≤ 9223372036854775807 := by simp only [maxLen] at h63; omega
    have hrun := run_append_grow_src (P := P) w t t ty e i z ht hi hz ao n cap xs hold _ 1 news hs hg h63' (growslice_fits hg hbytes)
    have hge := grownCap_ge w (n + 1) cap e
    have hcm' := grownCap_le_maxLen w (n + 1) cap e h63
    have hsz : ((xs ++ news).toArray ++ Builtin.zeroCells z.cells (grownCap w (n + 1) cap e - (n + 1))).size = grownCap w (n + 1) cap e * i.size := by
      rw [Array.size_append, List.size_toArray, hlen, size_zeroCells, hzs, ← Nat.add_mul]
      congr 1
      omega
    refine ⟨_, _, hrun, ⟨hlen, _, _, rfl, by omega, hcm', fun _ => ⟨w.heap.size, 0, rfl, hN, by simp, fun j hj => ?_, fun j hj => ⟨?_, ?_⟩⟩⟩, ⟨rfl, rfl, rfl, by simp, fun k hk => Below.heap_alloc w.drew _ k (Nat.lt_of_lt_of_le hk hN)⟩⟩
    · rw [Nat.zero_add]
      have e1 : (w.drew.alloc (.cells ((xs ++ news).toArray ++ Builtin.zeroCells z.cells (grownCap w (n + 1) cap e - (n + 1))) e)).cell? ⟨w.heap.size, j, none⟩ = _ := World.cell?_alloc_new w.drew _ _ j
      rw [e1, Array.getElem?_append_left (by rw [List.size_toArray, hlen]; exact hj), List.getElem?_toArray]
    · rw [Nat.zero_add]
      have e1 : (w.drew.alloc (.cells ((xs ++ news).toArray ++ Builtin.zeroCells z.cells (grownCap w (n + 1) cap e - (n + 1))) e)).cell? ⟨w.heap.size, j, none⟩ = _ := World.cell?_alloc_new w.drew _ _ j
      rw [e1, Array.getElem?_eq_getElem (by rw [hsz]; exact hj)]
      rfl
    · rw [Nat.zero_add]
      exact World.frozen?_alloc_new w.drew _ _ j
/-- One element less ahead. -/
theorem Que.tail {N : Nat} {w : World} {size n : Nat} {v : Value} {xs : List Value} (h : Que N w size v n xs) (hn : 0 < n) (t e : TypeId) (i : TypeInfo) (ht : P.underlying t = some (.slice e)) (hi : P.info? e = some i) (hsize : i.size = size) :
    ∃ v', (Instr.slice t v (some (.int .i64 1)) none none).run P w = .ok v' w ∧ Que N w size v' (n - 1) (xs.drop size) := by
  subst hsize
  obtain ⟨hxl, ao, cap, rfl, hle, hcm, hc⟩ := h
  obtain ⟨g, off, rfl, hNg, hgl, hcell, hth⟩ := hc (by omega)
  have hdl : (xs.drop i.size).length = (n - 1) * i.size := by rw [List.length_drop, hxl, Nat.sub_mul, Nat.one_mul]
  have hms : n * i.size = i.size + (n - 1) * i.size := by
    rw [Nat.sub_mul, Nat.one_mul]
    have := Nat.le_mul_of_pos_left i.size hn
    omega
  have hmc : cap * i.size = i.size + (cap - 1) * i.size := by
    rw [Nat.sub_mul, Nat.one_mul]
    have := Nat.le_mul_of_pos_left i.size (show 0 < cap by omega)
    omega
  refine ⟨.slice (if cap = 1 then some ⟨g, off, none⟩ else some ((⟨g, off, none⟩ : Addr).add (1 * i.size))) (n - 1) (cap - 1), ?_, hdl, _, cap - 1, rfl, by omega, by omega, fun hc1 => ⟨g, off + i.size, ?_, hNg, hgl, fun j hj => ?_, fun j hj => ?_⟩⟩
  · simp [Instr.slice, run_underlying ht, Instr.sliceBounds, Instr.sliceBound, asIntOf, sizeOf, typeInfo, hi, show (1 : Int) ≤ (n : Int) by omega]
  · rw [if_neg (by omega), add_plain, Nat.one_mul]
  · rw [Nat.add_assoc, hcell _ (by omega), List.getElem?_drop]
  · rw [Nat.add_assoc]
    exact hth _ (by omega)
theorem wp_append_que {w : World} {o : Oper} {a : Act} {K : Act → World → Prop} {Q : Exit → Act → World → Prop} (s x : Operand) (t : TypeId) (ho : o.op = .call { callee := .builtin .append, args := #[s, x], argTypes := #[t, t] })
    {N size n : Nat} {v : Value} {xs : List Value} (hs : a.eval s = v) (h : Que N w size v n xs) (e : TypeId) (i : TypeInfo) (z : Value) (bytes : Nat) (ht : P.underlying t = some (.slice e)) (hi : P.info? e = some i) (hz : i.zero = some z)
    (hsize : i.size = size) (hby : i.bytes = bytes) (hzs : z.cells.size = size) (ad : Addr) (c : Nat) (news : List Value) (hx : a.eval x = .slice (some ad) 1 c) (hl : news.length = 1 * size) (hnews : ∀ j u, news[j]? = some u → w.cell? (ad.add j) = some u) (h1 : ∀ u ∈ news, u.oneCell' = true)
    (h63 : n + 1 ≤ maxLen) (hbytes : (n + 1) * bytes ≤ 140737488355328) (hN : N ≤ w.heap.size)
    (hK : ∀ v' w', Que N w' size v' (n + 1) (xs ++ news) → Below N w w' → K (a.put o.dst v') w') : o.wp P a w K Q := by
  obtain ⟨v', w', hrun, h2, h3⟩ := h.append t o.type e i z bytes ht hi hz hsize hby hzs ad c news hl hnews h1 h63 hbytes hN
  unfold Oper.wp execOp
  simp only [ho, resolve, invoke, builtin, Sem.run_bind, Sem.run_pure, Result.andThen_ok, List.map_toArray, List.map_cons, List.map_nil, hs, hx, hrun]
  exact hK v' w' h2 h3
end
end Go.Proofs.YtjmnogpnjombgaaDoor
namespace Go.Proofs.YtjmnogpnjombgaaDoor
open Go.ChangeShapes Go.WideShapes Go.ChangeAt Go.RowKit Go.Deep
set_option linter.unusedVariables false
set_option maxRecDepth 100000
set_option linter.unusedSimpArgs false

/-- A thread's stores that are not in memory yet, as events. -/
def wqE (t : Int) (q : List Evt) (x : Evt) : List Evt := if x.who = t then (if x.kind = 2 then q ++ [x] else if x.kind = 3 then q.tail else q) else q
def waitE (l : List Evt) (t : Int) : List Evt := l.foldl (wqE t) []
theorem waitE_snoc (l : List Evt) (x : Evt) (t : Int) : waitE (l ++ [x]) t = wqE t (waitE l t) x := by unfold waitE; rw [List.foldl_append]; rfl
theorem waitE_map (l : List Evt) (t : Int) : (waitE l t).map (fun x => ((x.addr, x.value) : Ent)) = waitL l t := by
  suffices h : ∀ (l : List Evt) (q : List Evt), (l.foldl (wqE t) q).map (fun x => ((x.addr, x.value) : Ent)) = l.foldl (wstepE t) (q.map fun x => (x.addr, x.value)) from h l []
  intro l
  induction l with
  | nil => intro q; rfl
  | cons x l ih =>
    intro q
    rw [List.foldl_cons, List.foldl_cons, ih]
    congr 1
    unfold wqE wstepE
    split
    · split
      · simp
      · split
        · cases q <;> rfl
        · rfl
    · rfl

theorem wpList_append_que {P : Program} {w : World} {ops : Array Oper} {rest : List Oper} {o : Oper} {a : Act} {Q : Exit → Act → World → Prop} (hgd : o.guard = none) (s x : Operand) (t : TypeId) (ho : o.op = .call { callee := .builtin .append, args := #[s, x], argTypes := #[t, t] })
    {N size n : Nat} {v : Value} {xs : List Value} (hs : a.eval s = v) (h : Que N w size v n xs) (e : TypeId) (i : TypeInfo) (z : Value) (bytes : Nat) (ht : P.underlying t = some (.slice e)) (hi : P.info? e = some i) (hz : i.zero = some z)
    (hsize : i.size = size) (hby : i.bytes = bytes) (hzs : z.cells.size = size) (ad : Addr) (c : Nat) (news : List Value) (hx : a.eval x = .slice (some ad) 1 c) (hl : news.length = 1 * size) (hnews : ∀ j u, news[j]? = some u → w.cell? (ad.add j) = some u) (h1 : ∀ u ∈ news, u.oneCell' = true)
    (h63 : n + 1 ≤ maxLen) (hbytes : (n + 1) * bytes ≤ 140737488355328) (hN : N ≤ w.heap.size)
    (hK : ∀ v' w', Que N w' size v' (n + 1) (xs ++ news) → Below N w w' → wpList P ops Q rest (a.put o.dst v') w') : wpList P ops Q (o :: rest) a w :=
  wpList_plain hgd fun _ hK' => wp_append_que s x t ho hs h e i z bytes ht hi hz hsize hby hzs ad c news hx hl hnews h1 h63 hbytes hN (fun v' w' h2 h3 => hK' _ _ (hK v' w' h2 h3))
theorem cells_drop (q : List Evt) : (q.flatMap Evt.cells).drop 8 = q.tail.flatMap Evt.cells := by
  cases q with
  | nil => rfl
  | cons x r => rw [List.flatMap_cons, List.drop_left' (show x.cells.length = 8 from rfl), List.tail_cons]
theorem evt_infoL : (Tryd.prog.info? 86).map (·.size) = some 8 := by kernel_rfl

set_option maxHeartbeats 4000000 in
theorem waiting_any (eA : Option Addr) (ecap : Nat) (l : List Evt) (n : Nat) (hl : l.length = n) (hn : n ≤ 1000000000) (t : Int) (W : World) (he : SlE W eA n 8 (fun i => (l.getD i evz).cells)) :
    Calls Tryd.prog 88 #[.slice eA n ecap, .int .i64 t] W fun e W' => ∃ v, e = .returned v ∧ Que W.heap.size W' 8 v (waitE l t).length ((waitE l t).flatMap Evt.cells) ∧ Below W.heap.size W W' := by
  have HH := Lib.hid (And.intro he hl)
  clear he hl
  go_enter Tryd.func88, Tryd.ntmps88
  go_wp2
  go_loopw [5, 6] (fun o i wr => ∃ (k : Nat) (q : List Evt), k ≤ n ∧ i = .int .i64 (k : Int) ∧ waitE (l.take k) t = q ∧ Que W.heap.size wr 8 o q.length (q.flatMap Evt.cells) ∧ Below W.heap.size W wr) (fun _ i _ => n - (intOf i).toNat)
  case atStart => exact ⟨0, [], Nat.zero_le _, rfl, rfl, Que.nil _ _ _, Below.refl _ _⟩
  case round =>
    obtain ⟨k, q, hk, rfl, hq, hQ, hB⟩ := hrel
    by_cases hkn : k < n
    · have hk0 : (0 : Int) ≤ (k : Int) := by omega
      have hk1 : (k : Int) < (n : Int) := by omega
      obtain ⟨b, off, rfl, hlt, hcc⟩ := HH.out.1 (by omega)
      obtain ⟨x, hx⟩ : ∃ x, l.getD k evz = x := ⟨_, rfl⟩
      have w0 := hcc k hkn 0 _ rfl
      have q0 := keepAt hB hlt w0
      have q1 := keepAt hB hlt (hcc k hkn 1 _ rfl)
      rw [hx] at q0 q1 w0
      rw [Nat.add_zero] at q0 w0
      have hra : wr.rangeAt b (off + k * 8) x.cells := fun j v hv => by rw [← hx] at hv; exact keepAt hB hlt (hcc k hkn j v hv)
      have hql : q.length ≤ k := by
        have h9 : ∀ (m : List Evt), (waitE m t).length ≤ m.length := fun m => by
          suffices h : ∀ (m q : List Evt), (m.foldl (wqE t) q).length ≤ q.length + m.length from by have := h m []; rw [List.length_nil, Nat.zero_add] at this; exact this
          intro m
          induction m with
          | nil => intro q; simp
          | cons y m ih =>
            intro q
            rw [List.foldl_cons]
            have h1 := ih (wqE t q y)
            have h2 : (wqE t q y).length ≤ q.length + 1 := by
              unfold wqE
              split
              · split
                · simp
                · split
                  · simp; omega
                  · omega
              · omega
            rw [List.length_cons]
            omega
        rw [← hq]
        exact Nat.le_trans (h9 _) (by rw [List.length_take]; omega)
      have hsn : waitE (l.take (k + 1)) t = wqE t q x := by rw [take_snoc l k evz (by rw [HH.out.2]; exact hkn), waitE_snoc, hq, hx]
      obtain ⟨kd, wh, pc, ad, vl, ol, kk, ok⟩ := x
      dsimp only at q0 q1 w0
      have HC0 := Lib.hid w0
      clear w0
      have HSN := Lib.hid hsn
      have HR := Lib.hid (And.intro hra (And.intro hlt hB))
      have HQ := Lib.hid (And.intro hQ hql)
      clear hsn hra hcc hx hq hB hQ hql
      by_cases hw : wh = t
      · subst hw
        by_cases h2 : kd = 2
        · subst h2
          have hra := HR.out.1
          have hal := (Below.refl wr.heap.size wr).alloc (Nat.le_refl _) (.cells #[.int .i64 2, .int .i64 wh, .int .i64 pc, .int .i64 ad, .int .u32 vl, .int .u32 ol, .int .u32 kk, .bool ok] 86)
          have hX := Blk.new wr 86 #[.int .i64 2, .int .i64 wh, .int .i64 pc, .int .i64 ad, .int .u32 vl, .int .u32 ol, .int .u32 kk, .bool ok]
          have hQa := HQ.out.1.below hal
          obtain ⟨i0, hi, hz0, hz1, hz2⟩ := info_parts evt_info3
          have HAL := Lib.hid hal
          have HXX := Lib.hid hX
          have HQA := Lib.hid hQa
          clear hal hX hQa
          go_wp2_with (first
            | (refine wpList_load_mid rfl 86 (.tmp 29) rfl b (off + k * 8) rfl [.int .i64 2, .int .i64 wh, .int .i64 pc, .int .i64 ad, .int .u32 vl, .int .u32 ol, .int .u32 kk, .bool ok] _ hra Tryd.underlying86 rfl evt_infoL ?_)
            | (at_builtin; refine wpList_append_que rfl (.tmp 26) (.tmp 31) 38 rfl rfl HQA.out 86 i0 _ 48 Tryd.underlying38 hi hz0 hz1 hz2 rfl ⟨wr.heap.size, 0, none⟩ 1 [.int .i64 2, .int .i64 wh, .int .i64 pc, .int .i64 ad, .int .u32 vl, .int .u32 ol, .int .u32 kk, .bool ok] rfl rfl (fun j u hu => by rw [add_plain, Nat.zero_add]; exact (HXX.out.cell j).trans (by simpa using hu)) (fun u hu => by simp at hu; rcases hu with rfl | rfl | rfl | rfl | rfl | rfl | rfl | rfl <;> rfl) (by have := HQ.out.2; unfold maxLen; omega) (by have := HQ.out.2; omega) (by have := HR.out.2.2.size; have := HAL.out.size; omega) ?_
               intro v5 w5 hQ5 hB5
               have hB6 : Below W.heap.size W w5 := HR.out.2.2.trans ((HAL.out.mono HR.out.2.2.size).trans hB5)
               have q5 := keepAt hB6 HR.out.2.1 HC0.out
               have H5 := Lib.hid (And.intro hQ5 hB6)
               clear hQ5 hB5 hB6))
          go_roundw
          case rel =>
            have e1 := HSN.out
            unfold wqE at e1
            rw [if_pos rfl, if_pos rfl] at e1
            refine ⟨k + 1, _, by omega, by go_num, e1, ?_, H5.out.2⟩
            rw [List.length_append, List.flatMap_append]
            exact H5.out.1
          case measure => simp [intOf]; omega
        · by_cases h3 : kd = 3
          · subst h3
            obtain ⟨qn, hqn⟩ : ∃ m, q.length = m := ⟨_, rfl⟩
            have hQ1 := HQ.out.1
            rw [hqn] at hQ1
            obtain ⟨i0, hi, hz0, hz1, hz2⟩ := info_parts evt_info3
            have HQN := Lib.hid hqn
            have hqk : qn ≤ k := by rw [← hqn]; exact HQ.out.2
            by_cases hq0 : qn = 0
            · subst hq0
              obtain ⟨_, ao, cap, rfl, _⟩ := hQ1
              clear hqn
              go_wp2
              go_roundw
              case rel =>
                have e1 := HSN.out
                unfold wqE at e1
                rw [if_pos rfl, if_neg (by show ¬ (3 : Int) = 2; decide), if_pos rfl] at e1
                have h8 := HQ.out.1
                have h9 := List.length_eq_zero_iff.1 HQN.out
                rw [h9] at e1 h8
                exact ⟨k + 1, [], by omega, by go_num, e1, h8, HR.out.2.2⟩
              case measure => simp [intOf]; omega
            · have ht := hQ1.tail (P := Tryd.prog) (by omega) 38 86 i0 Tryd.underlying38 hi hz1
              obtain ⟨_, ao, cap, rfl, _⟩ := hQ1
              obtain ⟨v', hrun, hQ'⟩ := ht
              have HQ' := Lib.hid hQ'
              have hg0 : (0 : Int) < (qn : Int) := by omega
              clear hqn hQ'
              go_wp2
              go_roundw
              case rel =>
                have e1 := HSN.out
                unfold wqE at e1
                rw [if_pos rfl, if_neg (by show ¬ (3 : Int) = 2; decide), if_pos rfl] at e1
                have h8 := HQ'.out
                rw [cells_drop, ← HQN.out, ← List.length_tail] at h8
                exact ⟨k + 1, _, by omega, by go_num, e1, h8, HR.out.2.2⟩
              case measure => simp [intOf]; omega
          · have k2 : (kd == 2) = false := by simpa using h2
            have k3 : (kd == 3) = false := by simpa using h3
            go_wp2
            go_roundw
            case rel =>
              have e1 := HSN.out
              unfold wqE at e1
              rw [if_pos rfl, if_neg h2, if_neg h3] at e1
              exact ⟨k + 1, q, by omega, by go_num, e1, HQ.out.1, HR.out.2.2⟩
            case measure => simp [intOf]; omega
      · have hw' : (wh != t) = true := by simpa using hw
        go_wp2
        go_roundw
        case rel =>
          have e1 := HSN.out
          unfold wqE at e1
          rw [if_neg hw] at e1
          exact ⟨k + 1, q, by omega, by go_num, e1, HQ.out.1, HR.out.2.2⟩
        case measure => simp [intOf]; omega
    · obtain rfl : n = k := by omega
      have hk1 : ¬ (n : Int) < (n : Int) := by omega
      have HF := Lib.hid (And.intro hq (And.intro hQ hB))
      clear hq hQ hB
      go_wp2
      go_ret
      refine ⟨_, rfl, ?_, HF.out.2.2⟩
      have e1 := HF.out.1
      rw [List.take_of_length_le (by rw [HH.out.2]; exact Nat.le_refl _)] at e1
      rw [e1]
      exact HF.out.2.1
end Go.Proofs.YtjmnogpnjombgaaDoor
namespace Go.Proofs.YtjmnogpnjombgaaDoor
open Go.ChangeShapes Go.WideShapes Go.ChangeAt Go.RowKit Go.Deep
set_option linter.unusedVariables false
set_option maxRecDepth 100000
set_option linter.unusedSimpArgs false

theorem sle_take {W : World} {A : Option Addr} {n k : Nat} {l : List Evt} (h : SlE W A n 8 (fun i => (l.getD i evz).cells)) (hk : k ≤ n) : SlE W A k 8 (fun i => ((l.take k).getD i evz).cells) := fun h0 => by
  obtain ⟨b, off, e, hlt, hc⟩ := h (by omega)
  refine ⟨b, off, e, hlt, fun i hi j u hu => hc i (by omega) j u ?_⟩
  have e1 : (l.take k).getD i evz = l.getD i evz := by simp only [List.getD_eq_getElem?_getD, List.getElem?_take, if_pos hi]
  show (l.getD i evz).cells[j]? = some u
  rw [← e1]
  exact hu

theorem slice_hi (b off n k cap : Nat) (hk : k ≤ n) (hn : n ≤ cap) (hc : 0 < cap) (w : World) : (Instr.slice 38 (.slice (some ⟨b, off, none⟩) n cap) none (some (.int .i64 (k : Int))) none).run Tryd.prog w = .ok (.slice (some ⟨b, off, none⟩) k cap) w := by
  obtain ⟨i0, hi, hz0, hz1, hz2⟩ := info_parts evt_info3
  have h1 : (k : Int) ≤ (cap : Int) := by omega
  have h2 : cap ≠ 0 := by omega
  simp [Instr.slice, run_underlying Tryd.underlying38, Instr.sliceBounds, Instr.sliceBound, asIntOf, sizeOf, typeInfo, hi, h1, h2, add_plain]
  intro h; omega
set_option maxHeartbeats 4000000 in
theorem orders_any (eA : Option Addr) (ecap : Nat) (l : List Evt) (n : Nat) (hl : l.length = n) (hn : n ≤ 1000000000) (hcap : n ≤ ecap) (M0 : List Int) (W : World) (he : SlE W eA n 8 (fun i => (l.getD i evz).cells)) (h : ∀ i, i < n → EvX M0 (l.take i) (l.getD i evz)) :
    Calls Tryd.prog 34 #[.slice eA n ecap] W fun e W' => e = .returned (.int .i64 1) ∧ Below W.heap.size W W' := by
  have HH := Lib.hid (And.intro he (And.intro hl h))
  clear he hl h
  go_enter Tryd.func34, Tryd.ntmps34
  go_wp2
  go_loopw [3] (fun i wr => ∃ (k : Nat), k ≤ n ∧ i = .int .i64 (k : Int) ∧ Below W.heap.size W wr) (fun i _ => n - (intOf i).toNat)
  case atStart => exact ⟨0, Nat.zero_le _, rfl, Below.refl _ _⟩
  case round =>
    obtain ⟨k, hk, rfl, hB⟩ := hrel
    by_cases hkn : k < n
    · have hk0 : (0 : Int) ≤ (k : Int) := by omega
      have hk1 : (k : Int) < (n : Int) := by omega
      have hke : (k : Int) ≤ (ecap : Int) := by omega
      have hec : ecap ≠ 0 := by omega
      obtain ⟨b, off, rfl, hlt, hcc⟩ := HH.out.1 (by omega)
      obtain ⟨x, hx⟩ : ∃ x, l.getD k evz = x := ⟨_, rfl⟩
      have hSX := HH.out.2.2 k hkn
      rw [hx] at hSX
      have hra : wr.rangeAt b (off + k * 8) x.cells := fun j v hv => by rw [← hx] at hv; exact keepAt hB hlt (hcc k hkn j v hv)
      have hsl : SlE wr (some ⟨b, off, none⟩) k 8 (fun i => ((l.take k).getD i evz).cells) := (sle_take HH.out.1 (Nat.le_of_lt hkn)).step hB
      have hlk : (l.take k).length = k := by rw [List.length_take, HH.out.2.1]; omega
      obtain ⟨kd, wh, pc, ad, vl, ol, kk, ok⟩ := x
      have hal := (Below.refl wr.heap.size wr).alloc (Nat.le_refl _) (.cells #[.int .i64 kd, .int .i64 wh, .int .i64 pc, .int .i64 ad, .int .u32 vl, .int .u32 ol, .int .u32 kk, .bool ok] 86)
      have hX := Blk.new wr 86 #[.int .i64 kd, .int .i64 wh, .int .i64 pc, .int .i64 ad, .int .u32 vl, .int .u32 ol, .int .u32 kk, .bool ok]
      obtain ⟨xb, hxb⟩ : ∃ xb, wr.heap.size = xb := ⟨_, rfl⟩
      have hlx : xb < (wr.alloc (.cells #[.int .i64 kd, .int .i64 wh, .int .i64 pc, .int .i64 ad, .int .u32 vl, .int .u32 ol, .int .u32 kk, .bool ok] 86)).heap.size := by rw [← hxb]; exact hX.lt
      rw [hxb] at hX
      have cW := waiting_any (some ⟨b, off, none⟩) ecap (l.take k) k hlk (by omega) wh _ (hsl.step hal)
      have x1 := hX.cell 1
      have hsl2 := hsl.step hal
      have HX := Lib.hid (And.intro hX (And.intro hlx (step_below hB hal)))
      have HS := Lib.hid (And.intro hSX hlk)
      clear hcc hx hsl hal hX hB hSX hlt hlx hlk
      try dsimp only at x1
      go_wp2_with (refine wpList_load_mid rfl 86 (.tmp 14) rfl b (off + k * 8) rfl [.int .i64 kd, .int .i64 wh, .int .i64 pc, .int .i64 ad, .int .u32 vl, .int .u32 ol, .int .u32 kk, .bool ok] _ hra Tryd.underlying86 rfl evt_infoL ?_)
      have hsx := slice_hi b off n k ecap (Nat.le_of_lt hkn) hcap (by omega)
      try rw [hxb]
      clear hxb
      have HX' := Lib.hid (And.intro HX.out.1.drew (And.intro (show xb < (wr.alloc (.cells #[.int .i64 kd, .int .i64 wh, .int .i64 pc, .int .i64 ad, .int .u32 vl, .int .u32 ol, .int .u32 kk, .bool ok] 86)).drew.heap.size from HX.out.2.1) HX.out.2.2.drew))
      have cW' := waiting_any (some ⟨b, off, none⟩) ecap (l.take k) k HS.out.2 (by omega) wh (wr.alloc (.cells #[.int .i64 kd, .int .i64 wh, .int .i64 pc, .int .i64 ad, .int .u32 vl, .int .u32 ol, .int .u32 kk, .bool ok] 86)).drew (hsl2.step (below_drew _))
      refine startG (fun W' => Below (wr.alloc (.cells #[.int .i64 kd, .int .i64 wh, .int .i64 pc, .int .i64 ad, .int .u32 vl, .int .u32 ol, .int .u32 kk, .bool ok] 86)).drew.heap.size (wr.alloc (.cells #[.int .i64 kd, .int .i64 wh, .int .i64 pc, .int .i64 ad, .int .u32 vl, .int .u32 ol, .int .u32 kk, .bool ok] 86)).drew W') 6 (by kernel_rfl) ?_
      clear cW HX hsl2 hra
      generalize (wr.alloc (.cells #[.int .i64 kd, .int .i64 wh, .int .i64 pc, .int .i64 ad, .int .u32 vl, .int .u32 ol, .int .u32 kk, .bool ok] 86)).drew = W0 at HX' cW' ⊢
      have hH : Below W0.heap.size W0 W0 := Below.refl _ _
      refine takeG0 (i := 0) (v := .slice (some ⟨b, off, none⟩) n ecap) rfl (by kernel_rfl) (by kernel_rfl) (by kernel_rfl) (by kernel_rfl) (fun _ _ _ h => h) (Or.inl ⟨by rfl, fun W hW => by go_simp⟩) hH ?_
      simp only [Act.put, List.getElem_toArray, List.getElem_cons_zero, List.getElem_cons_succ, List.setIfInBounds_toArray, List.set_cons_zero, List.set_cons_succ]
      refine takeG0 (i := 1) (v := .int .i64 (k : Int)) rfl (by kernel_rfl) (by kernel_rfl) (by kernel_rfl) (by kernel_rfl) (fun _ _ _ h => h) (Or.inl ⟨by rfl, fun W hW => by go_simp⟩) hH ?_
      simp only [Act.put, List.getElem_toArray, List.getElem_cons_zero, List.getElem_cons_succ, List.setIfInBounds_toArray, List.set_cons_zero, List.set_cons_succ]
      refine takeG0 (i := 2) (v := .slice (some ⟨b, off, none⟩) k ecap) rfl (by kernel_rfl) (by kernel_rfl) (by kernel_rfl) (by kernel_rfl) (fun _ _ _ h => h) (Or.inl ⟨by rfl, fun W hW => by go_simp⟩) hH ?_
      simp only [Act.put, List.getElem_toArray, List.getElem_cons_zero, List.getElem_cons_succ, List.setIfInBounds_toArray, List.set_cons_zero, List.set_cons_succ]
      refine takeG0 (i := 3) (v := .pointer (some ⟨xb, 1, none⟩)) rfl (by kernel_rfl) (by kernel_rfl) (by kernel_rfl) (by kernel_rfl) (fun _ _ _ h => h) (Or.inl ⟨by rfl, fun W hW => by go_simp⟩) hH ?_
      simp only [Act.put, List.getElem_toArray, List.getElem_cons_zero, List.getElem_cons_succ, List.setIfInBounds_toArray, List.set_cons_zero, List.set_cons_succ]
      refine takeG (i := 4) (v := .int .i64 wh) rfl (by kernel_rfl) (by kernel_rfl) (by kernel_rfl) (by kernel_rfl) (fun _ _ _ h => h) (Or.inl ⟨by rfl, fun W hW => by have q0 := (HX'.out.1.below hW HX'.out.2.1).cell 1; go_simp⟩) hH ?_
      simp only [Act.put, List.getElem_toArray, List.getElem_cons_zero, List.getElem_cons_succ, List.setIfInBounds_toArray, List.set_cons_zero, List.set_cons_succ]
      refine onlyG (i := 5) (by kernel_rfl) rfl (fun K hK => ?_)
      go_simp
      with_reducible refine cW'.mono ?_
      rintro e W6 ⟨wv, rfl, hQ, hb6⟩
      have HQ := Lib.hid (And.intro hQ (And.intro hb6 (And.intro (HX'.out.1.below hb6 HX'.out.2.1) (step_belowN HX'.out.2.2 hb6 HX'.out.2.2.size))))
      refine hK.out _ _ hb6 (fun _ => ?_)
      clear hK K cW' hQ hb6 hH hsx
      try simp only [Act.put, List.getElem_toArray, List.getElem_cons_zero, List.getElem_cons_succ, List.setIfInBounds_toArray, List.set_cons_zero, List.set_cons_succ]
      refine lastG (by kernel_rfl) rfl (by kernel_rfl) (fun K hK => ?_)
      go_simp
      refine hK.out _ _ ?_
      clear hK K
      have x0 := HQ.out.2.2.1.cell 0
      have x3 := HQ.out.2.2.1.cell 3
      have x4 := HQ.out.2.2.1.cell 4
      simp only [List.getElem?_toArray, List.getElem?_cons_zero, List.getElem?_cons_succ] at x0 x3 x4
      go_upto_region 7 with fail
      have hmap := waitE_map (l.take k) wh
      obtain ⟨q, hq⟩ : ∃ q, waitE (l.take k) wh = q := ⟨_, rfl⟩
      rw [hq] at hmap HQ
      clear hq
      by_cases h3 : kd = 3
      · subst h3
        obtain ⟨f1, _⟩ := HS.out.1.flush rfl
        rw [show waitL (l.take k) (⟨3, wh, pc, ad, vl, ol, kk, ok⟩ : Evt).who = q.map (fun x => ((x.addr, x.value) : Ent)) from hmap.symm] at f1
        cases q with
        | nil => exact absurd f1 (by simp)
        | cons y r =>
          have f2 : y.addr = ad ∧ y.value = vl := by simpa using f1
          obtain ⟨rfl, rfl⟩ := f2
          obtain ⟨g2, o2, c2, rfl, hg2, hc2⟩ := HQ.out.1.cell (by simp)
          have z3 : W6.cell? ⟨g2, o2 + 3, none⟩ = some (.int .i64 y.addr) := hc2 3 (by simp; omega)
          have z4 : W6.cell? ⟨g2, o2 + 4, none⟩ = some (.int .u32 y.value) := hc2 4 (by simp; omega)
          obtain ⟨qn, hqn, hq0⟩ : ∃ m, (y :: r).length = m ∧ 0 < m := ⟨_, rfl, by simp⟩
          rw [hqn]
          have HQN := Lib.hid hqn
          have hqz : ((qn : Int) == 0) = false := by simp; omega
          have hqp : (0 : Int) < (qn : Int) := by omega
          clear hc2 hqn f1 hmap
          go_upto_region 8 with fail
          go_quiet (fail)
          go_wp2
          go_roundw
          case rel => exact ⟨k + 1, by omega, by go_num, HQ.out.2.2.2.trans ⟨rfl, rfl, rfl, Nat.le_refl _, fun _ _ => rfl⟩⟩
          case measure => simp [intOf]; omega
      · by_cases h4 : kd = 4 ∨ kd = 5 ∨ kd = 8 ∨ kd = 9 ∨ kd = 10
        · have f1 := HS.out.1.none h4
          rw [show waitL (l.take k) (⟨kd, wh, pc, ad, vl, ol, kk, ok⟩ : Evt).who = q.map (fun x => ((x.addr, x.value) : Ent)) from hmap.symm] at f1
          obtain rfl := List.map_eq_nil_iff.1 f1
          obtain ⟨_, ao, cap, rfl, _⟩ := HQ.out.1
          clear hmap f1 h3
          rcases h4 with rfl | rfl | rfl | rfl | rfl
          all_goals
            go_wp2
            go_roundw
            case rel => exact ⟨k + 1, by omega, by go_num, HQ.out.2.2.2⟩
            case measure => simp [intOf]; omega
        · have n3 : (kd == 3) = false := by simpa using h3
          have n4 : (kd == 4) = false := by simp; omega
          have n5 : (kd == 5) = false := by simp; omega
          have n8 : (kd == 8) = false := by simp; omega
          have n9 : (kd == 9) = false := by simp; omega
          have n10 : (kd == 10) = false := by simp; omega
          clear hmap h3 h4
          go_wp2
          go_roundw
          case rel => exact ⟨k + 1, by omega, by go_num, HQ.out.2.2.2⟩
          case measure => simp [intOf]; omega
    · obtain rfl : n = k := by omega
      have hk1 : ¬ (n : Int) < (n : Int) := by omega
      have HF := Lib.hid hB
      clear hB
      go_wp2
      go_ret
      exact ⟨rfl, HF.out⟩
end Go.Proofs.YtjmnogpnjombgaaDoor
