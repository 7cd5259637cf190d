/- Regions that draw their order and hold a call that breaks what the operations ahead of it lean on, with more operations behind it: m is that call. -/
import Derived.Test.YtjmnogpnjombgaaDoorRow
namespace Go.Proofs.YtjmnogpnjombgaaDoor
open Go.ChangeShapes Go.WideShapes Go.ChangeAt Go.RowKit Go.Deep
set_option linter.unusedVariables false
set_option maxRecDepth 100000

section
variable {P : Program} {md : Region.Mode} {ops : Array Oper} {Q : Exit → Act → World → Prop} {S : World → Prop} {m : Nat}
/-- Does m wait for i, over so many others? -/
def waitsN (md : Region.Mode) (ops : Array Oper) : Nat → Nat → Nat → Bool
  | 0, _, _ => false
  | f + 1, m, i => match ops[m]? with
    | none => false
    | some o => o.after.any fun e => Region.binds md e && (e.on == i || waitsN md ops f e.on i)
theorem waitsN_listed {L : Array Bool} (hc : Closed md ops L) : ∀ (f m i : Nat), waitsN md ops f m i = true → L.getD m false = true → L.getD i false = true
  | 0, _, _, h, _ => by cases h
  | f + 1, m, i, h, hm => by
    unfold waitsN at h
    cases ho : ops[m]? with
    | none => rw [ho] at h; cases h
    | some o =>
      rw [ho] at h
      obtain ⟨e, he, hb⟩ := Array.any_eq_true'.1 (show o.after.any (fun e => Region.binds md e && (e.on == i || waitsN md ops f e.on i)) = true from h)
      simp only [Bool.and_eq_true, Bool.or_eq_true, beq_iff_eq] at hb
      obtain ⟨hb1, hb2⟩ := hb
      have h1 := hc m o ho hm e he hb1
      rcases hb2 with hb2 | hb2
      · rwa [hb2] at h1
      · exact waitsN_listed hc f e.on i hb2 h1

theorem wpAnyG_firstT {T : World → Prop} {i : Nat} {oi : Oper} {v : Value} (hi : ops[i]? = some oi) (hsel : ∀ (j : Nat) (o : Oper) cs b, ops[j]? = some o → o.op ≠ .select cs b)
    (hQ : ∀ c a w, Q (.panic c) (a.put oi.dst v) w → Q (.panic c) a w) (hne : i ≠ m) (hl : ∀ L, Closed md ops L → L.getD m false = true → L.getD i false = true) (hT : ∀ w, S w → T w) :
    ∀ (f : Nat) (L : Array Bool) (a : Act) (w : World),
      (∀ j oj, ops[j]? = some oj → j ≠ i → L.getD j true = false → (∀ e ∈ oj.after, Region.binds md e = true → e.on ≠ i) → oi.apart ops oj = true) →
      Closed md ops L → i ∈ Region.ready md ops L → YieldsIf P ops T oi v a → (L.getD m false = false → S w) →
      wpAnyG P md ops Q S m f (L.setIfInBounds i true) (a.put oi.dst v) w → wpAnyG P md ops Q S m (f + 1) L a w
  | 0, L, a, w, _, hcl, hr, hy, hS, H => by
    have hun := unlisted_both (mem_ready.1 hr).1
    have hTw : T w := hT w (hS (by
      cases hq : L.getD m false
      · rfl
      · rw [hl L hcl hq] at hun; cases hun))
    refine ⟨fun h => (by rw [h] at hr; cases hr), fun j hj => ?_⟩
    by_cases hji : j = i
    · rw [hji]; exact hy.wpOp hi hTw ⟨fun _ h => hS h, H⟩
    · have := ready_mono hj hji
      rw [H.1] at this
      cases this
  | f + 1, L, a, w, hfree, hcl, hr, hy, hS, H => by
    have hun := unlisted_both (mem_ready.1 hr).1
    have hTw : T w := hT w (hS (by
      cases hq : L.getD m false
      · rfl
      · rw [hl L hcl hq] at hun; cases hun))
    refine ⟨fun h => (by rw [h] at hr; cases hr), fun j hj => ?_⟩
    by_cases hji : j = i
    · rw [hji]; exact hy.wpOp hi hTw ⟨fun _ h => hS h, H⟩
    · obtain ⟨hjun, oj, hoj, hall⟩ := mem_ready.1 hj
      have hnot : ∀ e ∈ oj.after, Region.binds md e = true → e.on ≠ i := fun e he hb heq => by
        have := hall e he hb
        rw [heq, hun] at this
        cases this
      have h2 := wpOp_putIf hoj (hfree j oj hoj hji hjun hnot) (fun cs b => hsel i oi cs b hi) (fun cs b => hsel j oj cs b hoj) hQ hy (H.2 j (ready_mono hj hji))
      refine wpOp_mono (fun a' w' h3 => ?_) h2
      obtain ⟨h31, h32, h33⟩ := h3
      have hSw : j ≠ m → L.getD m false = false → S w' := fun h1 h4 => h32 h1 (by rw [getD_set_ne false hne]; exact h4)
      refine ⟨hSw, wpAnyG_firstT hi hsel hQ hne hl hT f (L.setIfInBounds j true) a' w' (fun k ok hk hki hu hno => hfree k ok hk hki ?_ hno) (hcl.set hj) (ready_mono hr (Ne.symm hji)) h31 (fun hm => ?_) ?_⟩
      · by_cases hjk : j = k
        · rw [← hjk]; exact hjun
        · rwa [getD_set_ne true hjk] at hu
      · by_cases hjm : j = m
        · subst hjm
          rw [unlisted_true hjun] at hm
          cases hm
        · rw [getD_set_ne false hjm] at hm
          exact hSw hjm hm
      · rw [Array.setIfInBounds_comm _ _ hji]
        exact h33

/-- Take number i first: m waits for it, over others. -/
theorem takeT {i : Nat} {oi : Oper} {v : Value} {f : Nat} {L : Array Bool} {a : Act} {w : World} (hi : ops[i]? = some oi)
    (hs : Region.noSelect ops = true) (hf : Region.free md ops L i = true) (hr : (Region.ready md ops L).contains i = true) (hl : (waitsN md ops 12 m i && closedB md ops L && decide (i ≠ m)) = true)
    (hQ : ∀ c a w, Q (.panic c) (a.put oi.dst v) w → Q (.panic c) a w) (hy : YieldsIf P ops S oi v a) (hS : S w)
    (h : wpAnyG P md ops Q S m f (L.setIfInBounds i true) (a.put oi.dst v) w) : wpAnyG P md ops Q S m (f + 1) L a w := by
  simp only [Bool.and_eq_true, decide_eq_true_eq] at hl
  exact wpAnyG_firstT hi (Region.noSelect_spec hs) hQ hl.2 (fun L hc hm => waitsN_listed hc 12 m i hl.1.1 hm) (fun _ h => h) f L a w (Region.free_spec hi hf) (closedB_spec hl.1.2) (by simpa using hr) hy (fun _ => hS) h
/-- m alone may come up. -/
theorem onlyM {o : Oper} {f : Nat} {L : Array Bool} {a : Act} {w : World} (hr : Region.ready md ops L = [m]) (ho : ops[m]? = some o)
    (h : ∀ K' : Act → World → Prop, Go.Shut (∀ a w, wpAnyG P md ops Q S m f (L.setIfInBounds m true) a w → K' a w) → if Region.wanted o (yielded ops a.tmps) = true then Oper.wp P o a w K' Q else K' (a.put o.dst undef) w) :
    wpAnyG P md ops Q S m (f + 1) L a w :=
  ⟨fun h0 => (by rw [hr] at h0; cases h0), fun j hj => by
    rw [hr] at hj
    obtain rfl : j = m := by simpa using hj
    exact wpOp_step ho (fun K' hK => h K' (fun a w hW => hK a w ⟨fun e => absurd rfl e, hW⟩))⟩
/-- One operation alone may come up, m lies behind. -/
theorem onlyL {i : Nat} {o : Oper} {f : Nat} {L : Array Bool} {a : Act} {w : World} (hm : L.getD m false = true) (hr : Region.ready md ops L = [i]) (ho : ops[i]? = some o)
    (h : ∀ K' : Act → World → Prop, Go.Shut (∀ a w, wpAnyG P md ops Q S m f (L.setIfInBounds i true) a w → K' a w) → if Region.wanted o (yielded ops a.tmps) = true then Oper.wp P o a w K' Q else K' (a.put o.dst undef) w) :
    wpAnyG P md ops Q S m (f + 1) L a w :=
  ⟨fun h0 => (by rw [hr] at h0; cases h0), fun j hj => by
    rw [hr] at hj
    obtain rfl : j = i := by simpa using hj
    exact wpOp_step ho (fun K' hK => h K' (fun a w hW => hK a w ⟨fun _ e => absurd (hm.symm.trans e) (by decide), hW⟩))⟩
theorem AllG.consM {f : Nat} {L : Array Bool} {a : Act} {w : World} {o : Oper} {rs : List Nat} (ho : ops[m]? = some o)
    (h : ∀ K' : Act → World → Prop, Go.Shut (∀ a w, wpAnyG P md ops Q S m f (L.setIfInBounds m true) a w → K' a w) → if Region.wanted o (yielded ops a.tmps) = true then Oper.wp P o a w K' Q else K' (a.put o.dst undef) w)
    (hs : AllG P md ops Q S m f L a w rs) : AllG P md ops Q S m f L a w (m :: rs) := fun j hj => by
  rcases List.mem_cons.1 hj with rfl | hj
  · exact wpOp_step ho (fun K' hK => h K' (fun a w hW => hK a w ⟨fun e => absurd rfl e, hW⟩))
  · exact hs j hj
theorem AllG.consL {f : Nat} {L : Array Bool} {a : Act} {w : World} {i : Nat} {o : Oper} {rs : List Nat} (hm : L.getD m false = true) (ho : ops[i]? = some o)
    (h : ∀ K' : Act → World → Prop, Go.Shut (∀ a w, wpAnyG P md ops Q S m f (L.setIfInBounds i true) a w → K' a w) → if Region.wanted o (yielded ops a.tmps) = true then Oper.wp P o a w K' Q else K' (a.put o.dst undef) w)
    (hs : AllG P md ops Q S m f L a w rs) : AllG P md ops Q S m f L a w (i :: rs) := fun j hj => by
  rcases List.mem_cons.1 hj with rfl | hj
  · exact wpOp_step ho (fun K' hK => h K' (fun a w hW => hK a w ⟨fun _ e => absurd (hm.symm.trans e) (by decide), hW⟩))
  · exact hs j hj
/-- The last operation, m lies behind. -/
theorem lastL {i : Nat} {o : Oper} {f : Nat} {L : Array Bool} {a : Act} {w : World} (hm : L.getD m false = true) (hr : Region.ready md ops L = [i]) (ho : ops[i]? = some o) (hd : Region.ready md ops (L.setIfInBounds i true) = [])
    (h : ∀ K' : Act → World → Prop, Go.Shut (∀ a w, Q .normal a w → K' a w) → if Region.wanted o (yielded ops a.tmps) = true then Oper.wp P o a w K' Q else K' (a.put o.dst undef) w) :
    wpAnyG P md ops Q S m (f + 1) L a w :=
  ⟨fun h0 => (by rw [hr] at h0; cases h0), fun j hj => by
    rw [hr] at hj
    obtain rfl : j = i := by simpa using hj
    refine wpOp_step ho (fun K' hK => h K' (fun a w hq => hK a w ⟨fun _ e => absurd (hm.symm.trans e) (by decide), ?_⟩))
    cases f with
    | zero => exact ⟨hd, hq⟩
    | succ f => exact ⟨fun _ => hq, by rw [hd]; simp⟩⟩
/-- Take number i first: m lies behind, it yields in whatever world. -/
theorem takeL {i : Nat} {oi : Oper} {v : Value} {f : Nat} {L : Array Bool} {a : Act} {w : World} (hi : ops[i]? = some oi)
    (hs : Region.noSelect ops = true) (hf : Region.free md ops L i = true) (hr : (Region.ready md ops L).contains i = true) (hl : (closedB md ops L && decide (i ≠ m)) = true)
    (hQ : ∀ c a w, Q (.panic c) (a.put oi.dst v) w → Q (.panic c) a w) (hy : YieldsIf P ops (fun _ => True) oi v a) (hm : L.getD m false = true)
    (h : wpAnyG P md ops Q S m f (L.setIfInBounds i true) (a.put oi.dst v) w) : wpAnyG P md ops Q S m (f + 1) L a w := by
  simp only [Bool.and_eq_true, decide_eq_true_eq] at hl
  exact wpAnyG_first hi (Region.noSelect_spec hs) hQ hl.2 (.inl fun _ => trivial) f L a w (Region.free_spec hi hf) (closedB_spec hl.1) (by simpa using hr) hy (fun e => absurd (hm.symm.trans e) (by decide)) h
/-- A row is stored into the midst of a block. -/
theorem step_store_mid {op : Oper} {a : Act} {w : World} {K : Act → World → Prop} {Q : Exit → Act → World → Prop} {E : Prop} (hgd : op.guard = none) (ty : TypeId) (x y : Operand) (ho : op.op = .store ty x y)
    (g o : Nat) (cells : Array Value) (hx : a.eval x = .pointer (some ⟨g, o, none⟩)) (hy : a.eval y = .agg cells) (ht : w.there g o cells.size) (hi : (P.info? ty).map (·.size) = some cells.size) (h1 : cells.all (·.oneCell') = true)
    (h : K (a.put op.dst undef) (w.setCells g o cells.toList)) : if Region.wanted op (yielded ops a.tmps) = true then Oper.wp P op a w K Q else E := by
  have hw : Region.wanted op (yielded ops a.tmps) = true := by simp [Region.wanted, hgd]
  rw [if_pos hw]
  exact wp_store_mid ty x y ho g o cells hx hy ht hi h1 h
end
end Go.Proofs.YtjmnogpnjombgaaDoor
