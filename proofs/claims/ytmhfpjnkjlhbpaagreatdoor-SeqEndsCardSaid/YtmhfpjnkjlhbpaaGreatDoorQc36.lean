/- seq (plain): by fair scripts writers and readers come to an end. Machines of threads (plain): what serves the laws. -/
import Derived.Test.YtmhfpjnkjlhbpaaGreatDoorQc35
import Derived.Test.YtmhfpjnkjlhbpaaGreatDoorQc23
import Derived.Test.YtmhfpjnkjlhbpaaGreatDoorQc29
namespace Go.Proofs.YtmhfpjnkjlhbpaaGreatDoor
open Go.ChangeShapes Go.WideShapes Go.ChangeAt Go.RowKit Go.Deep
set_option linter.unusedVariables false
set_option maxRecDepth 100000
set_option linter.unusedSimpArgs false
/-! ### what is left to do -/
section
variable (C : SqC) (v : Vw) (pn po : Nat -> Nat)
def wkW (t : Nat) : Nat := if C.isW t = true then 2 * (C.bs t (C.sn t) - wpos (C.bs t) (C.kd t) (pn t) (po t) ((v.th t).regs 4)) + (v.bf t).length + nd (v.th t) else 0
def wkR (t : Nat) : Nat := if C.isW t = true then 0 else (C.bs t (C.sn t) - (C.bs t (pn t) + po t)) + pR (C.kd t) (C.sn t) (pn t) (po t) (v.th t).regs (v.mem 16) + nd (v.th t)
def dQ : Nat := if v.mem 17 = 0 then dW (C.kd (fstT C.nt (wkW C v pn po)) (pn (fstT C.nt (wkW C v pn po)))) (po (fstT C.nt (wkW C v pn po))) ((v.th (fstT C.nt (wkW C v pn po))).regs 4) else 0
def muQ : Nat := if 0 < sumT C.nt (wkW C v pn po) then 8000 + 4 * sumT C.nt (wkW C v pn po) + dQ C v pn po else sumT C.nt (wkR C v pn po)
def hlpQ : Int × Int := if 0 < sumT C.nt (wkW C v pn po) then (if v.mem 17 = 0 then (0, ((fstT C.nt (wkW C v pn po) : Nat) : Int)) else (if v.bf (v.mem 17 - 1).toNat = [] then (0, v.mem 17 - 1) else (1, v.mem 17 - 1))) else (0, ((fstT C.nt (wkR C v pn po) : Nat) : Int))
structure SqV : Prop where
  slp : v.slp = []
  st : ∀ t, t < C.nt -> (v.th t).st ≠ 1
  pos : ∀ t, t < C.nt -> (v.th t).pc = ((C.bs t (pn t) + po t : Nat) : Int) /\ Plc (C.kd t) (C.sn t) (pn t) (po t)
end
structure SqC.Lv (C : SqC) : Prop where
  kd : ∀ t n, t < C.nt -> isWk (C.kd t n) = C.isW t
  len : ∀ t, t < C.nt -> C.bs t (C.sn t) < 500
theorem sgA_free {N : Nat} {L : SL} {m t : Nat} {r : Nat -> Int} {b : List Ent} {k : Sg} {o : Nat} (h : sgA N L m t r b k o) (hW : isWk k = true) (hd : L.hd = false) : b = [] := by
  have f : ∀ {c m3}, SFree L c m3 b -> b = [] := fun q => q.b.elim (fun z => z.2) (fun z => absurd (z.1.symm.trans hd) (by decide))
  have no1 : ∀ {c m3} {p : Prop}, SHas L c m3 b -> p := fun q => absurd (q.hd.symm.trans hd) (by decide)
  have no2 : ∀ {c k inn} {p : Prop}, SOdd L c k b inn -> p := fun q => absurd (q.hd.symm.trans hd) (by decide)
  unfold sgA at h
  split at h
  all_goals first
    | exact h.elim
    | (cases hW; done)
    | exact f h
    | exact no1 h
    | exact no2 h
    | exact f h.1
    | exact no1 h.1
    | exact no2 h.1
    | exact h.elim (fun q => f q.1) (fun q => no1 q.1)
theorem sgA_rd {N : Nat} {L : SL} {m t : Nat} {r : Nat -> Int} {b : List Ent} {k : Sg} {o : Nat} (h : sgA N L m t r b k o) (hW : isWk k = false) : L.hd = false /\ b = [] := by
  unfold sgA at h
  split at h
  all_goals first
    | exact h.elim
    | (cases hW; done)
    | exact ⟨h.1.hd, h.1.b⟩
    | exact ⟨h.choose_spec.1.hd, h.choose_spec.1.b⟩
theorem sgA_spin {N : Nat} {L : SL} {m t : Nat} {r : Nat -> Int} {b : List Ent} {k : Sg} {o : Nat} (h : sgA N L m t r b k o) (hs : spW k o (r 4) = true) : SFree L m m b := by
  obtain ⟨rfl, h1, h2⟩ := spW_o hs
  rcases (by omega : o = 7 ∨ o = 8 ∨ o = 9) with rfl | rfl | rfl
  · exact h.1
  · exact h.1
  · rcases h with q | q
    · exact q.1
    · exfalso
      have hs' : (false || false || (true && decide (r 4 ≠ 0))) = true := hs
      rw [q.2] at hs'
      exact absurd hs' (by decide)
section
variable {C : SqC} {v : Vw} {g : SG} {t : Nat} {pn po : Nat -> Nat}
theorem SqV.loc (V : SqV C v pn po) (H : SqI C v g) (ht : t < C.nt) : (pn t < C.sn t /\ (v.th t).st = 0 /\ po t < sgLen (C.kd t (pn t)) /\ sgA C.N (g.at_ v t) (C.rn t (pn t)) t (v.th t).regs (v.bf t) (C.kd t (pn t)) (po t)) ∨
    (pn t = C.sn t /\ po t = 0 /\ ((v.th t).st = 0 ∨ (v.th t).st = 2) /\ (if C.isW t = true then SFree (g.at_ v t) C.rd C.rd (v.bf t) else SRd C.N (g.at_ v t) (v.bf t) C.rd [] /\ (g.at_ v t).bg.length = C.rd)) := by
  have K := H.ok.k t ht
  obtain ⟨h1, h2⟩ := V.pos t ht
  obtain ⟨n, o, hp, h⟩ := H.loc t ht
  have hP : Plc (C.kd t) (C.sn t) n o := h.imp (fun q => ⟨q.1, q.2.2.1⟩) (fun q => ⟨q.1, q.2.1⟩)
  obtain ⟨e1, e2⟩ := plc_uniq K.nx hP h2 (by rw [hp] at h1; exact Int.ofNat_inj.1 h1)
  subst e1 e2
  exact h.imp (fun q => ⟨q.1, q.2.1.resolve_right (V.st t ht), q.2.2⟩) id
theorem SqV.holder (V : SqV C v pn po) (H : SqI C v g) (hL : C.Lv) (h : g.h = some t) : t < C.nt /\ C.isW t = true := by
  have ht := H.hlt t h
  refine ⟨ht, ?_⟩
  cases hw : C.isW t with
  | true => rfl
  | false =>
    exfalso
    have hd : (g.at_ v t).hd = true := decide_eq_true h
    rcases V.loc H ht with q | q
    · exact absurd (hd.symm.trans (sgA_rd q.2.2.2 ((hL.kd t _ ht).trans hw)).1) (by decide)
    · have q4 := q.2.2.2
      rw [hw, if_neg (by decide)] at q4
      exact absurd (hd.symm.trans q4.1.hd) (by decide)
theorem SqV.empty (V : SqV C v pn po) (H : SqI C v g) (hL : C.Lv) (ht : t < C.nt) (h : g.h ≠ some t) : v.bf t = [] := by
  have hd : (g.at_ v t).hd = false := decide_eq_false h
  rcases V.loc H ht with q | q
  · cases hw : C.isW t with
    | true => exact sgA_free q.2.2.2 ((hL.kd t _ ht).trans hw) hd
    | false => exact (sgA_rd q.2.2.2 ((hL.kd t _ ht).trans hw)).2
  · have q4 := q.2.2.2
    cases hw : C.isW t with
    | true =>
      rw [hw, if_pos rfl] at q4
      exact q4.b.elim (fun z => z.2) (fun z => absurd (z.1.symm.trans hd) (by decide))
    | false =>
      rw [hw, if_neg (by decide)] at q4
      exact q4.1.b
theorem SqV.rd (V : SqV C v pn po) (H : SqI C v g) (hL : C.Lv) (ht : t < C.nt) (hw : C.isW t = false) : g.h ≠ some t /\ v.bf t = [] := by
  have h1 : g.h ≠ some t := fun q => absurd ((V.holder H hL q).2.symm.trans hw) (by decide)
  exact ⟨h1, V.empty H hL ht h1⟩
theorem wpos_end (bs : Nat -> Nat) (kd : Nat -> Sg) (n : Nat) (r4 : Int) : wpos bs kd n 0 r4 = bs n := by
  have : spW (kd n) 0 r4 = false := by
    cases h : spW (kd n) 0 r4 with
    | false => rfl
    | true => have := spW_o h; omega
  rw [wpos_no this]; rfl
theorem SqV.over (V : SqV C v pn po) (H : SqI C v g) (ht : t < C.nt) (h : (v.th t).st ≠ 0) : wkW C v pn po t <= (v.bf t).length /\ wkR C v pn po t = 0 /\ (C.isW t = true -> SFree (g.at_ v t) C.rd C.rd (v.bf t)) := by
  rcases V.loc H ht with q | q
  · exact absurd q.2.1 h
  · have h2 : (v.th t).st = 2 := q.2.2.1.resolve_left h
    have hn : nd (v.th t) = 0 := if_pos h2
    refine ⟨?_, ?_, fun w => ?_⟩
    · unfold wkW
      split
      · rw [q.1, q.2.1, wpos_end, hn]; omega
      · omega
    · unfold wkR
      split
      · rfl
      · have e : pR (C.kd t) (C.sn t) (pn t) (po t) (v.th t).regs (v.mem 16) = 0 := if_neg (by omega)
        rw [e, hn, q.1, q.2.1]; omega
    · have q4 := q.2.2.2
      rw [w, if_pos rfl] at q4
      exact q4
theorem SqI.h17 (H : SqI C v g) : (v.mem 17 = 0 ↔ g.h = none) /\ ∀ u, g.h = some u -> v.mem 17 = (u : Int) + 1 := by
  have := H.m17
  constructor
  · cases hh : g.h with
    | none => rw [hh] at this; exact ⟨fun _ => rfl, fun _ => this⟩
    | some u => rw [hh] at this; exact ⟨fun q => by rw [q] at this; unfold ownQ at this; dsimp only at this; omega, fun q => by cases q⟩
  · intro u hu
    rw [hu] at this; exact this
theorem wkR_le (hL : C.Lv) (h8 : C.nt <= 8) : sumT C.nt (wkR C v pn po) <= 8000 := by
  have := sumT_le (W := C.nt) (f := wkR C v pn po) (k := 1000) (fun t ht => by
    have h1 := hL.len t ht
    have h2 := pR_le (C.kd t) (C.sn t) (pn t) (po t) (v.th t).regs (v.mem 16)
    unfold wkR nd
    split
    · omega
    · split <;> omega)
  omega
theorem dQ_le : dQ C v pn po <= 3 := by
  unfold dQ
  split
  · exact dW_le _ _ _
  · omega
theorem mu_less {v' : Vw} {pn' po' : Nat -> Nat} (hL : C.Lv) (h8 : C.nt <= 8) (h : sumT C.nt (wkW C v' pn' po') < sumT C.nt (wkW C v pn po)) : muQ C v' pn' po' < muQ C v pn po := by
  have h1 := wkR_le (v := v') (pn := pn') (po := po') hL h8
  have h2 := dQ_le (C := C) (v := v') (pn := pn') (po := po')
  unfold muQ
  rw [if_pos (show 0 < sumT C.nt (wkW C v pn po) by omega)]
  split <;> omega
def QGood (C : SqC) (m : Nat) (h x : Int × Int) (v : Vw) : Prop := ∃ g pn po, SqI C v g /\ SqV C v pn po /\ (muQ C v pn po < m ∨ (muQ C v pn po = m /\ (m = 0 ∨ (hlpQ C v pn po = h /\ x ≠ h))))
theorem SqV.mv (V : SqV C v pn po) {v' : Vw} {n' o' : Nat} (hs : v'.slp = v.slp) (ho : ∀ u, u ≠ t -> v'.th u = v.th u /\ v'.bf u = v.bf u) (hst : (v'.th t).st ≠ 1) (hpc : (v'.th t).pc = ((C.bs t n' + o' : Nat) : Int)) (hP : Plc (C.kd t) (C.sn t) n' o') : SqV C v' (upd pn t n') (upd po t o') := by
  refine ⟨hs.trans V.slp, fun u hu => ?_, fun u hu => ?_⟩
  · by_cases c : u = t
    · rw [c]; exact hst
    · rw [(ho u c).1]; exact V.st u hu
  · by_cases c : u = t
    · subst c
      rw [upd_same, upd_same]; exact ⟨hpc, hP⟩
    · rw [upd_ne _ _ _ c, upd_ne _ _ _ c, (ho u c).1]; exact V.pos u hu
theorem wkW_other {v' : Vw} {n' o' : Nat} (ho : ∀ u, u ≠ t -> v'.th u = v.th u /\ v'.bf u = v.bf u) {u : Nat} (hu : u ≠ t) : wkW C v' (upd pn t n') (upd po t o') u = wkW C v pn po u := by
  unfold wkW
  rw [upd_ne _ _ _ hu, upd_ne _ _ _ hu, (ho u hu).1, (ho u hu).2]
theorem wkR_other {v' : Vw} {n' o' : Nat} (ho : ∀ u, u ≠ t -> v'.th u = v.th u /\ v'.bf u = v.bf u) (hm : v'.mem 16 = v.mem 16) {u : Nat} (hu : u ≠ t) : wkR C v' (upd pn t n') (upd po t o') u = wkR C v pn po u := by
  unfold wkR
  rw [upd_ne _ _ _ hu, upd_ne _ _ _ hu, (ho u hu).1, hm]
theorem wr_less {v' : Vw} {n' o' : Nat} (hL : C.Lv) (h8 : C.nt <= 8) (ht : t < C.nt) (ho : ∀ u, u ≠ t -> v'.th u = v.th u /\ v'.bf u = v.bf u) (h : wkW C v' (upd pn t n') (upd po t o') t < wkW C v pn po t) : muQ C v' (upd pn t n') (upd po t o') < muQ C v pn po := by
  refine mu_less hL h8 ?_
  have := sumT_upd (W := C.nt) (t := t) (f := wkW C v pn po) (g := wkW C v' (upd pn t n') (upd po t o')) ht (fun u _ hu => wkW_other ho hu)
  omega
theorem rd_stay (V : SqV C v pn po) (H : SqI C v g) (hL : C.Lv) (hwt : C.isW t = false) {v' : Vw} {n' o' : Nat} (o2 : ∀ u, u ≠ t -> v'.th u = v.th u /\ v'.bf u = v.bf u) (r6 : v'.bf t = v.bf t) (r7 : v'.mem = v.mem) :
    sumT C.nt (wkW C v' (upd pn t n') (upd po t o')) = sumT C.nt (wkW C v pn po) /\ (0 < sumT C.nt (wkW C v pn po) -> muQ C v' (upd pn t n') (upd po t o') = muQ C v pn po /\ hlpQ C v' (upd pn t n') (upd po t o') = hlpQ C v pn po /\ ((0 : Int), (t : Int)) ≠ hlpQ C v pn po) := by
  have h17 := H.h17
  have hWs : ∀ u, u < C.nt -> wkW C v' (upd pn t n') (upd po t o') u = wkW C v pn po u := fun u hu => by
    by_cases c : u = t
    · rw [c]; unfold wkW; rw [hwt, if_neg (by decide), if_neg (by decide)]
    · exact wkW_other o2 c
  have hsum : sumT C.nt (wkW C v' (upd pn t n') (upd po t o')) = sumT C.nt (wkW C v pn po) := sumT_congr hWs
  have hfst : fstT C.nt (wkW C v' (upd pn t n') (upd po t o')) = fstT C.nt (wkW C v pn po) := fstT_congr hWs
  refine ⟨hsum, fun hG => ?_⟩
  obtain ⟨f1, f2⟩ := fstT_yes hG
  obtain ⟨u0, hu0⟩ : ∃ u0, fstT C.nt (wkW C v pn po) = u0 := ⟨_, rfl⟩
  have hu : u0 ≠ t := fun e => by
    rw [hu0, e] at f2
    unfold wkW at f2
    rw [hwt, if_neg (by decide)] at f2
    omega
  have d1 : dQ C v' (upd pn t n') (upd po t o') = dQ C v pn po := by
    unfold dQ
    rw [hfst, hu0, r7, upd_ne _ _ _ hu, upd_ne _ _ _ hu, (o2 u0 hu).1]
  have hbf : ∀ u, v'.bf u = v.bf u := fun u => by
    by_cases c : u = t
    · rw [c]; exact r6
    · exact (o2 u c).2
  refine ⟨by unfold muQ; rw [hsum, if_pos hG, if_pos hG, d1], ?_, ?_⟩
  · unfold hlpQ
    rw [hsum, hfst, r7, if_pos hG, if_pos hG, hbf]
  · unfold hlpQ
    rw [if_pos hG]
    by_cases h0 : v.mem 17 = 0
    · rw [if_pos h0, hu0]
      intro e
      injection e with e1 e2
      omega
    · rw [if_neg h0]
      cases hh : g.h with
      | none => exact absurd (h17.1.2 hh) h0
      | some u =>
        have e17 := h17.2 u hh
        have eu : v.mem 17 - 1 = (u : Int) := by omega
        rw [eu, Int.toNat_natCast]
        have hne : t ≠ u := fun e => by
          subst e
          exact absurd ((V.holder H hL hh).2.symm.trans hwt) (by decide)
        split
        · intro e
          injection e with e1 e2
          omega
        · intro e
          injection e with e1 e2
          exact absurd e1 (by decide)
theorem sq_helps {B : MB} {s : Mst} (hw : Wf B s) (hC : C.In B) (hL : C.Lv) (H : SqI C (vw s) g) (V : SqV C (vw s) pn po) (x : Int × Int) : QGood C (muQ C (vw s) pn po) (hlpQ C (vw s) pn po) x (vw (tPick B s x)) := by
  have h8 := H.ok.n8
  have hnt : ∀ t, t < B.codes.length -> t < C.nt := fun t ht => by rw [<- hC.1]; exact ht
  have h17 := H.h17
  refine pick_cases (P := QGood C (muQ C (vw s) pn po) (hlpQ C (vw s) pn po) x) hw x (fun h0 h1 => ?_) (fun t ht hx hb => ?_) (fun t ht hx hst => ?_) (fun t ht hx hr => ?_)
  · -- nothing befalls
    refine ⟨g, pn, po, H, V, .inr ⟨rfl, ?_⟩⟩
    rcases Nat.eq_zero_or_pos (muQ C (vw s) pn po) with z | z
    · exact .inl z
    refine .inr ⟨rfl, fun e => ?_⟩
    unfold hlpQ at e
    by_cases hG : 0 < sumT C.nt (wkW C (vw s) pn po)
    · rw [if_pos hG] at e
      by_cases h0' : (vw s).mem 17 = 0
      · rw [if_pos h0'] at e
        obtain ⟨f1, f2⟩ := fstT_yes hG
        have hst := h0 _ (by rw [hC.1]; exact f1) e
        obtain ⟨q1, _, q3⟩ := V.over H f1 hst
        have hb := V.empty (t := fstT C.nt (wkW C (vw s) pn po)) H hL f1 (by rw [h17.1.1 h0']; simp)
        rw [hb] at q1
        simp at q1
        omega
      · rw [if_neg h0'] at e
        cases hh : g.h with
        | none => exact h0' (h17.1.2 hh)
        | some u =>
          have e17 := h17.2 u hh
          obtain ⟨hu, hwu⟩ := V.holder H hL hh
          have eu : (vw s).mem 17 - 1 = (u : Int) := by omega
          rw [eu, Int.toNat_natCast] at e
          by_cases hb : (vw s).bf u = []
          · rw [if_pos hb] at e
            have hst := h0 u (by rw [hC.1]; exact hu) e
            have hF := (V.over H hu hst).2.2 hwu
            rcases hF.b with q | q
            · exact absurd ((decide_eq_true hh : (g.at_ (vw s) u).hd = true).symm.trans q.1) (by decide)
            · rw [hb] at q; exact absurd q.2.1 (by simp)
          · rw [if_neg hb] at e
            exact hb (h1 u (by rw [hC.1]; exact hu) e)
    · rw [if_neg hG] at e
      have hR : 0 < sumT C.nt (wkR C (vw s) pn po) := by unfold muQ at z; rw [if_neg hG] at z; exact z
      obtain ⟨f1, f2⟩ := fstT_yes hR
      have hst := h0 _ (by rw [hC.1]; exact f1) e
      have := (V.over H f1 hst).2.1
      omega
  · -- a flush
    have ht' := hnt t ht
    obtain ⟨g', H'⟩ := H.flush ht' hb
    obtain ⟨y, l, hy⟩ : ∃ y l, (vw s).bf t = y :: l := by
      cases hq : (vw s).bf t with
      | nil => exact absurd hq hb
      | cons y l => exact ⟨y, l, rfl⟩
    have ho : ∀ u, u ≠ t -> (flushV t (vw s)).th u = (vw s).th u /\ (flushV t (vw s)).bf u = (vw s).bf u := fun u hu => by
      unfold flushV; rw [hy]; exact ⟨rfl, upd_ne _ _ _ hu⟩
    have e1 : (flushV t (vw s)).th t = (vw s).th t := by unfold flushV; rw [hy]
    have e2 : (flushV t (vw s)).bf t = l := by unfold flushV; rw [hy]; exact upd_same _ _ _
    have e3 : (flushV t (vw s)).slp = (vw s).slp := by unfold flushV; rw [hy]
    obtain ⟨p1, p2⟩ := V.pos t ht'
    refine ⟨g', upd pn t (pn t), upd po t (po t), H', V.mv e3 ho (by rw [e1]; exact V.st t ht') (by rw [e1]; exact p1) p2, .inl (wr_less hL h8 ht' ho ?_)⟩
    have hwt : C.isW t = true := by
      cases hq : C.isW t with
      | true => rfl
      | false => exact absurd (V.rd H hL ht' hq).2 hb
    unfold wkW
    rw [hwt, if_pos rfl, if_pos rfl, upd_same, upd_same, e1, e2, hy, List.length_cons]
    omega
  · -- a step
    have ht' := hnt t ht
    have K := H.ok.k t ht'
    obtain ⟨p1, p2⟩ := V.pos t ht'
    rcases V.loc H ht' with ⟨q1, q2, q3, q4⟩ | ⟨q1, q2, q3, q4⟩
    · -- an instruction
      obtain ⟨op, hop, hk⟩ := sq_exec H ht' q1 q3 q4
      refine .inl ⟨C.bs t (pn t) + po t, _, op, (hC.2 t ht').at_ hw ht q1 hop (Th.parts p1 hst), fun h1 _ => ?_⟩
      obtain ⟨g', H'⟩ := hk h1
      obtain ⟨o1, o2, o3⟩ := exec_other (sgL_sleeps hop) t (vw s) (C.bs t (pn t) + po t) (thM s t).regs
      cases hwt : C.isW t with
      | true =>
        obtain ⟨n', o', r1, r2, r3⟩ := sq_wr (r := (thM s t).regs) H ht' q1 q3 q4 ((hL.kd t _ ht').trans hwt) hop
        refine ⟨g', upd pn t n', upd po t o', H', V.mv o1 o2 (by rw [o3]; decide) r2 r1, ?_⟩
        rcases r3 with r3 | ⟨rfl, r4, r5, ⟨r6, r7⟩, r8⟩
        · refine .inl (wr_less hL h8 ht' o2 ?_)
          have n1 : nd ((execV t (vw s) (C.bs t (pn t) + po t) (thM s t).regs op).th t) = 1 := if_neg (by rw [o3]; decide)
          have n0 : nd ((vw s).th t) = 1 := if_neg (by rw [q2]; decide)
          unfold wkW
          rw [hwt, if_pos rfl, if_pos rfl, upd_same, upd_same, n1, n0]
          have r3' : 2 * (C.bs t (C.sn t) - wpos (C.bs t) (C.kd t) n' o' (((execV t (vw s) (C.bs t (pn t) + po t) (thM s t).regs op).th t).regs 4)) + ((execV t (vw s) (C.bs t (pn t) + po t) (thM s t).regs op).bf t).length < 2 * (C.bs t (C.sn t) - wpos (C.bs t) (C.kd t) (pn t) (po t) (((vw s).th t).regs 4)) + ((vw s).bf t).length := r3
          omega
        · -- it waits for the lock
          obtain ⟨v', hv'⟩ : ∃ v', execV t (vw s) (C.bs t (pn t) + po t) (thM s t).regs op = v' := ⟨_, rfl⟩
          rw [hv'] at o1 o2 o3 r2 r5 r6 r7 r8 ⊢
          have r4' : spW (C.kd t (pn t)) (po t) (((vw s).th t).regs 4) = true := r4
          have r8' : (vw s).mem 17 = 0 -> dW (C.kd t (pn t)) o' ((v'.th t).regs 4) < dW (C.kd t (pn t)) (po t) (((vw s).th t).regs 4) := r8
          have n1 : nd (v'.th t) = 1 := if_neg (by rw [o3]; decide)
          have n0 : nd ((vw s).th t) = 1 := if_neg (by rw [q2]; decide)
          have hWt : wkW C v' (upd pn t (pn t)) (upd po t o') t = wkW C (vw s) pn po t := by
            unfold wkW
            rw [hwt, if_pos rfl, if_pos rfl, upd_same, upd_same, n1, n0, r6, wpos_yes r5, wpos_yes r4']
          have hWs : ∀ u, u < C.nt -> wkW C v' (upd pn t (pn t)) (upd po t o') u = wkW C (vw s) pn po u := fun u hu => by
            by_cases c : u = t
            · rw [c]; exact hWt
            · exact wkW_other o2 c
          have hsum : sumT C.nt (wkW C v' (upd pn t (pn t)) (upd po t o')) = sumT C.nt (wkW C (vw s) pn po) := sumT_congr hWs
          have hfst : fstT C.nt (wkW C v' (upd pn t (pn t)) (upd po t o')) = fstT C.nt (wkW C (vw s) pn po) := fstT_congr hWs
          have hG : 0 < sumT C.nt (wkW C (vw s) pn po) := by
            refine sumT_pos ht' ?_
            unfold wkW
            rw [hwt, if_pos rfl, n0]
            omega
          have hF := sgA_spin q4 r4'
          obtain ⟨u0, hu0⟩ : ∃ u0, fstT C.nt (wkW C (vw s) pn po) = u0 := ⟨_, rfl⟩
          by_cases h0 : (vw s).mem 17 = 0
          · have eh : ∀ w, hlpQ C w (upd pn t (pn t)) (upd po t o') = hlpQ C w (upd pn t (pn t)) (upd po t o') := fun _ => rfl
            by_cases hu : u0 = t
            · refine .inl ?_
              have d1 : dQ C v' (upd pn t (pn t)) (upd po t o') < dQ C (vw s) pn po := by
                unfold dQ
                rw [hfst, hu0, hu, r7, if_pos h0, if_pos h0, upd_same, upd_same]
                exact r8' h0
              unfold muQ
              rw [hsum, if_pos hG, if_pos hG]
              omega
            · have d1 : dQ C v' (upd pn t (pn t)) (upd po t o') = dQ C (vw s) pn po := by
                unfold dQ
                rw [hfst, hu0, r7, upd_ne _ _ _ hu, upd_ne _ _ _ hu, (o2 u0 hu).1]
              refine .inr ⟨by unfold muQ; rw [hsum, if_pos hG, if_pos hG, d1], .inr ⟨?_, ?_⟩⟩
              · unfold hlpQ
                rw [hsum, hfst, r7, if_pos hG, if_pos hG, if_pos h0, if_pos h0]
              · unfold hlpQ
                rw [if_pos hG, if_pos h0, hu0, hx]
                intro e
                injection e with e1 e2
                omega
          · have d1 : dQ C v' (upd pn t (pn t)) (upd po t o') = dQ C (vw s) pn po := by
              unfold dQ
              rw [r7, if_neg h0, if_neg h0]
            have hbf : ∀ u, v'.bf u = (vw s).bf u := fun u => by
              by_cases c : u = t
              · rw [c]; exact r6
              · exact (o2 u c).2
            refine .inr ⟨by unfold muQ; rw [hsum, if_pos hG, if_pos hG, d1], .inr ⟨?_, ?_⟩⟩
            · unfold hlpQ
              rw [hsum, r7, if_pos hG, if_pos hG, if_neg h0, if_neg h0, hbf]
            · unfold hlpQ
              rw [if_pos hG, if_neg h0, hx]
              cases hh : g.h with
              | none => exact absurd (h17.1.2 hh) h0
              | some u =>
                have e17 := h17.2 u hh
                have eu : (vw s).mem 17 - 1 = (u : Int) := by omega
                rw [eu, Int.toNat_natCast]
                split
                · rename_i hb
                  intro e
                  injection e with e1 e2
                  have e3 : t = u := by omega
                  subst e3
                  rcases hF.b with q | q
                  · exact absurd ((decide_eq_true hh : (g.at_ (vw s) t).hd = true).symm.trans q.1) (by decide)
                  · have q2 : (vw s).bf t = [(17, 0)] := q.2.1
                    rw [hb] at q2; exact absurd q2 (by simp)
                · intro e
                  injection e with e1 e2
                  exact absurd e1 (by decide)
      | false =>
        obtain ⟨n', o', r1, r2, ⟨r6, r7⟩, r8⟩ := sq_rd (r := (thM s t).regs) H ht' q1 q3 q4 ((hL.kd t _ ht').trans hwt) (hL.len t ht') hop
        refine ⟨g', upd pn t n', upd po t o', H', V.mv o1 o2 (by rw [o3]; decide) r2 r1, ?_⟩
        obtain ⟨v', hv'⟩ : ∃ v', execV t (vw s) (C.bs t (pn t) + po t) (thM s t).regs op = v' := ⟨_, rfl⟩
        rw [hv'] at o1 o2 o3 r2 r6 r7 r8 ⊢
        obtain ⟨hsum, hst2⟩ := rd_stay (n' := n') (o' := o') V H hL hwt o2 r6 r7
        by_cases hG : 0 < sumT C.nt (wkW C (vw s) pn po)
        · obtain ⟨a1, a2, a3⟩ := hst2 hG
          exact .inr ⟨a1, .inr ⟨a2, by rw [hx]; exact a3⟩⟩
        · -- the writers are through
          have hG0 : sumT C.nt (wkW C (vw s) pn po) = 0 := by omega
          have hh : g.h = none := by
            cases hh : g.h with
            | none => rfl
            | some u =>
              exfalso
              obtain ⟨hu, hwu⟩ := V.holder H hL hh
              have z := sumT_zero hG0 u hu
              unfold wkW at z
              rw [hwu, if_pos rfl] at z
              have hb : (vw s).bf u = [] := List.eq_nil_of_length_eq_zero (by omega)
              have hst : ((vw s).th u).st ≠ 0 := fun q => by
                have : nd ((vw s).th u) = 1 := if_neg (by rw [q]; decide)
                omega
              rcases ((V.over H hu hst).2.2 hwu).b with q | q
              · exact absurd ((decide_eq_true hh : (g.at_ (vw s) u).hd = true).symm.trans q.1) (by decide)
              · rw [hb] at q; exact absurd q.2.1 (by simp)
          have hodd : g.odd = false := by
            cases ho : g.odd with
            | false => rfl
            | true => exact absurd hh (H.od ho)
          have hev : (vw s).mem 16 % 2 = 0 := by
            have := H.m16
            rw [hodd] at this
            have e : b2n false = 0 := rfl
            rw [e] at this
            omega
          refine .inl ?_
          have n1 : nd (v'.th t) = 1 := if_neg (by rw [o3]; decide)
          have n0 : nd ((vw s).th t) = 1 := if_neg (by rw [q2]; decide)
          have hl := r8 hev
          have hl' : (C.bs t (C.sn t) - (C.bs t n' + o')) + pR (C.kd t) (C.sn t) n' o' (v'.th t).regs ((vw s).mem 16) < (C.bs t (C.sn t) - (C.bs t (pn t) + po t)) + pR (C.kd t) (C.sn t) (pn t) (po t) ((vw s).th t).regs ((vw s).mem 16) := hl
          have hlt : wkR C v' (upd pn t n') (upd po t o') t < wkR C (vw s) pn po t := by
            unfold wkR
            rw [hwt, if_neg (by decide), if_neg (by decide), upd_same, upd_same, n1, n0, r7]
            omega
          have := sumT_upd (W := C.nt) (t := t) (f := wkR C (vw s) pn po) (g := wkR C v' (upd pn t n') (upd po t o')) ht' (fun u _ hu => wkR_other o2 (by rw [r7]) hu)
          unfold muQ
          rw [hsum, if_neg hG, if_neg hG]
          omega
    · -- it ends
      have q2' := q2
      have hpc0 : (thM s t).pc = ((C.bs t (C.sn t) + 0 : Nat) : Int) := by
        have : ((vw s).th t).pc = _ := p1
        rw [q1, q2] at this
        exact this
      refine .inr ⟨by rw [(hC.2 t ht').len, hpc0]; exact Int.le_refl _, ?_⟩
      have H' := H.quiet ht' (th := ⟨(thM s t).pc, (thM s t).regs, 2⟩) (b := (vw s).bf t) (l := [⟨12, (t : Int), (thM s t).pc, 0, 0, 0, 0, false⟩]) (fun x hx => by rw [List.mem_singleton.1 hx]; exact ⟨(by decide : (12 : Int) ≠ 7), (by decide : (12 : Int) ≠ 6)⟩) ⟨C.sn t, 0, hpc0, .inr ⟨rfl, rfl, .inr rfl, q4⟩⟩
      obtain ⟨v', hv'⟩ : ∃ v', (vw s).mv t ⟨(thM s t).pc, (thM s t).regs, 2⟩ ((vw s).bf t) (vw s).mem [⟨12, (t : Int), (thM s t).pc, 0, 0, 0, 0, false⟩] = v' := ⟨_, rfl⟩
      have t1 : v'.th t = ⟨(thM s t).pc, (thM s t).regs, 2⟩ := by rw [<- hv']; exact upd_same _ _ _
      have t2 : v'.bf t = (vw s).bf t := by rw [<- hv']; exact upd_same _ _ _
      have o1 : v'.slp = (vw s).slp := by rw [<- hv']; rfl
      have o2 : ∀ u, u ≠ t -> v'.th u = (vw s).th u /\ v'.bf u = (vw s).bf u := fun u hu => by rw [<- hv']; exact ⟨upd_ne _ _ _ hu, upd_ne _ _ _ hu⟩
      have r7 : v'.mem = (vw s).mem := by rw [<- hv']; rfl
      have n1 : nd (v'.th t) = 0 := by rw [t1]; rfl
      have n0 : nd ((vw s).th t) = 1 := if_neg (by have : ((vw s).th t).st = 0 := hst; rw [this]; decide)
      rw [hv'] at H' ⊢
      refine ⟨g, upd pn t (pn t), upd po t (po t), H', V.mv o1 o2 (by rw [t1]; show (2 : Int) ≠ 1; decide) (by rw [t1]; exact p1) p2, ?_⟩
      cases hwt : C.isW t with
      | true =>
        refine .inl (wr_less hL h8 ht' o2 ?_)
        unfold wkW
        rw [hwt, if_pos rfl, if_pos rfl, upd_same, upd_same, n1, n0, t2, t1]
        show 2 * (C.bs t (C.sn t) - wpos (C.bs t) (C.kd t) (pn t) (po t) ((thM s t).regs 4)) + _ + 0 < 2 * (C.bs t (C.sn t) - wpos (C.bs t) (C.kd t) (pn t) (po t) ((thM s t).regs 4)) + _ + 1
        omega
      | false =>
        obtain ⟨hsum, hst2⟩ := rd_stay (n' := pn t) (o' := po t) V H hL hwt o2 t2 r7
        by_cases hG : 0 < sumT C.nt (wkW C (vw s) pn po)
        · obtain ⟨a1, a2, a3⟩ := hst2 hG
          exact .inr ⟨a1, .inr ⟨a2, by rw [hx]; exact a3⟩⟩
        · refine .inl ?_
          have hlt : wkR C v' (upd pn t (pn t)) (upd po t (po t)) t < wkR C (vw s) pn po t := by
            unfold wkR
            rw [hwt, if_neg (by decide), if_neg (by decide), upd_same, upd_same, n1, n0, r7, t1]
            show _ + pR (C.kd t) (C.sn t) (pn t) (po t) (thM s t).regs ((vw s).mem 16) + 0 < _ + pR (C.kd t) (C.sn t) (pn t) (po t) (thM s t).regs ((vw s).mem 16) + 1
            omega
          have := sumT_upd (W := C.nt) (t := t) (f := wkR C (vw s) pn po) (g := wkR C v' (upd pn t (pn t)) (upd po t (po t))) ht' (fun u _ hu => wkR_other o2 (by rw [r7]) hu)
          unfold muQ
          rw [hsum, if_neg hG, if_neg hG]
          omega
  · exfalso
    have h1 : s.slp = [] := V.slp
    rw [h1] at hr
    exact absurd hr (Nat.not_lt_zero _)
end
def SqR (C : SqC) (B : MB) (s : Mst) (m : Nat) (h : Int × Int) : Prop := Wf B s /\ ∃ g pn po, SqI C (vw s) g /\ SqV C (vw s) pn po /\ muQ C (vw s) pn po = m /\ hlpQ C (vw s) pn po = h
theorem sq_lives {C : SqC} {B : MB} (hB : MBok B) (hC : C.In B) (hL : C.Lv) : Helps B C.nt (fun _ => True) (SqR C B) := by
  refine ⟨fun {s m h} hR hm => ?_, fun {s m h x} hR _ => ?_⟩
  · obtain ⟨hw, g, pn, po, H, V, rfl, rfl⟩ := hR
    have h17 := H.h17
    unfold hlpQ
    by_cases hG : 0 < sumT C.nt (wkW C (vw s) pn po)
    · rw [if_pos hG]
      by_cases h0 : (vw s).mem 17 = 0
      · rw [if_pos h0]
        exact ⟨0, _, by decide, (fstT_yes hG).1, rfl⟩
      · rw [if_neg h0]
        cases hh : g.h with
        | none => exact absurd (h17.1.2 hh) h0
        | some u =>
          have e17 := h17.2 u hh
          have eu : (vw s).mem 17 - 1 = (u : Int) := by omega
          rw [eu]
          split
          · exact ⟨0, u, by decide, H.hlt u hh, rfl⟩
          · exact ⟨1, u, by decide, H.hlt u hh, rfl⟩
    · rw [if_neg hG]
      unfold muQ at hm
      rw [if_neg hG] at hm
      exact ⟨0, _, by decide, (fstT_yes hm).1, rfl⟩
  · obtain ⟨hw, g, pn, po, H, V, rfl, rfl⟩ := hR
    obtain ⟨g', pn', po', H', V', q⟩ := sq_helps hw hC hL H V x
    exact ⟨_, _, ⟨hw.pick hB x, g', pn', po', H', V', rfl, rfl⟩, q⟩
theorem SqR.done {C : SqC} {B : MB} (hL : C.Lv) {s : Mst} {h : Int × Int} (hR : SqR C B s 0 h) : ∀ t, t < C.nt -> (thM s t).st = 2 /\ bufM s t = [] := by
  obtain ⟨hw, g, pn, po, H, V, hm, _⟩ := hR
  intro t ht
  unfold muQ at hm
  split at hm
  · omega
  · rename_i hG
    have hG0 : sumT C.nt (wkW C (vw s) pn po) = 0 := by omega
    have hst : ∀ {k : Nat}, k + nd ((vw s).th t) = 0 -> (thM s t).st = 2 := fun {k} e => by
      by_cases c : (thM s t).st = 2
      · exact c
      · have : nd ((vw s).th t) = 1 := if_neg c
        omega
    cases hw : C.isW t with
    | true =>
      have z := sumT_zero hG0 t ht
      unfold wkW at z
      rw [hw, if_pos rfl] at z
      exact ⟨hst z, List.eq_nil_of_length_eq_zero (by show ((vw s).bf t).length = 0; omega)⟩
    | false =>
      have z := sumT_zero hm t ht
      unfold wkR at z
      rw [hw, if_neg (by decide)] at z
      exact ⟨hst z, (V.rd H hL ht hw).2⟩
theorem sqC_lv {N W R rd : Nat} (h3 : N <= 3) (hr3 : rd <= 3) : (sqC N W R rd).Lv := by
  refine ⟨fun t n ht => ?_, fun t ht => ?_⟩
  · unfold sqC
    dsimp only
    by_cases c : t < W
    · rw [if_pos c, decide_eq_true c]
      unfold sgW
      repeat' split
      all_goals rfl
    · rw [if_neg c, decide_eq_false c]
      unfold sgR
      repeat' split
      all_goals rfl
  · have h1 : (sqC N W R rd).sn t <= 24 := by
      unfold sqC
      dsimp only
      split
      · have := Nat.mul_le_mul hr3 (show N + 2 <= 5 by omega); omega
      · have := Nat.mul_le_mul hr3 (show 2 * N + 2 <= 8 by omega); omega
    have h2 : (sqC N W R rd).bs t ((sqC N W R rd).sn t) <= 17 * (sqC N W R rd).sn t := bsQ_le _ _
    omega
theorem sq_begin {C : SqC} {B : MB} {s : Mst} (hw : Wf B s) (hL : C.Lv) {g : SG} (H : SqI C (vw s) g) (h1 : ∀ t, (vw s).th t = tha) (h2 : ∀ t, (vw s).bf t = []) (h3 : (vw s).slp = []) : ∃ m h, m <= 50000 /\ SqR C B s m h := by
  have V : SqV C (vw s) (fun _ => 0) (fun _ => 0) := by
    refine ⟨h3, fun t _ => by rw [h1]; decide, fun t ht => ⟨by rw [h1, (H.ok.k t ht).b0]; rfl, ?_⟩⟩
    rcases Nat.eq_zero_or_pos (C.sn t) with c | c
    · exact .inr ⟨c.symm, rfl⟩
    · exact .inl ⟨c, sgLen_pos _⟩
  refine ⟨_, _, ?_, hw, g, _, _, H, V, rfl, rfl⟩
  have h8 := H.ok.n8
  have d := dQ_le (C := C) (v := vw s) (pn := fun _ => 0) (po := fun _ => 0)
  have r := wkR_le (v := vw s) (pn := fun _ => 0) (po := fun _ => 0) hL h8
  have w := sumT_le (W := C.nt) (f := wkW C (vw s) (fun _ => 0) (fun _ => 0)) (k := 1001) (fun t ht => by
    have := hL.len t ht
    unfold wkW nd
    rw [h2]
    split
    · show _ + 0 + _ <= _
      split <;> omega
    · omega)
  unfold muQ
  split <;> omega
theorem seq_begin {p : Pg} {B : MB} (hp : p.Ok) (hN : NewM p B) (hroom : B.room = p.room) (hr : 1 <= p.room /\ p.room <= 16) {N W R rd : Nat} (h1 : 1 <= N) (h3 : N <= 3) (hrd : 1 <= rd) (hrd3 : rd <= 3) (hW : W <= 2) (hR : R <= 2)
    (hm : p.m = 18 + N) (hZ : ∀ i, p.Z i = 0) (hn : p.n = W + R) (hcd : ∀ t, t < p.n -> (p.cd t).len = (sqT N rd t (decide (t < W))).length /\ (p.cd t).F = fun i => (sqT N rd t (decide (t < W))).getD i default) :
    (sqC N W R rd).In B /\ ∃ m h, m <= 50000 /\ SqR (sqC N W R rd) B (t0 p) m h := by
  have h0 := t0_ok hp hN
  have hw : Wf B (t0 p) := ⟨h0, by show ((List.range p.m).map p.Z).length = B.m; rw [List.length_map, List.length_range, hN.m], by rw [hroom]; exact hr.1⟩
  have hnc : B.codes.length = p.n := hN.n
  have hC : (sqC N W R rd).In B := by
    refine ⟨by rw [hnc, hn]; rfl, fun t ht => ?_⟩
    have ht' : t < p.n := by rw [hn]; exact ht
    have h1' := hN.cd t ht'
    have h2 := hcd t ht'
    have e1 : (sqC N W R rd).sn t = sqSn N rd (decide (t < W)) := by unfold sqC sqSn; dsimp only; by_cases c : t < W <;> simp [c]
    have e2 : (sqC N W R rd).bs t = bsQ (if decide (t < W) = true then sgW N else sgR N) := by unfold sqC; dsimp only; by_cases c : t < W <;> simp [c]
    have e3 : (fun n => sgL t ((sqC N W R rd).bs t n) ((sqC N W R rd).bs t ((sqC N W R rd).gn t n) + 1) ((sqC N W R rd).kd t n)) = sqPc N t (decide (t < W)) := by
      funext n
      rw [e2]
      unfold sqC sqPc; dsimp only; by_cases c : t < W <;> simp [c]
    rw [e1, e3, e2]
    refine coded_of rfl (fun n _ => sqPc_len N t _ n) (by rw [h1'.1, h2.1]; rfl) (by rw [h1'.2.1, h2.2]; rfl) (fun n hn' op hop => ?_) ?_ (by rw [hN.m, hm]; omega)
    · rw [hN.m, hm]
      exact sqPc_ok (by omega) h1 h3 hrd hn' op hop
    · have := bsQ_le (if decide (t < W) = true then sgW N else sgR N) (sqSn N rd (decide (t < W))); have := sqSn_le (N := N) h3 hrd3 (decide (t < W)); omega
  have hth : ∀ t, (vw (t0 p)).th t = tha := fun t => by
    show (List.replicate p.n tha).getD t tha = tha
    rw [List.getD_eq_getElem?_getD, List.getElem?_replicate]; split <;> rfl
  have hbf : ∀ t, (vw (t0 p)).bf t = [] := fun t => by
    show (List.replicate p.n ([] : List Ent)).getD t [] = []
    rw [List.getD_eq_getElem?_getD, List.getElem?_replicate]; split <;> rfl
  have hmem : ∀ a, (vw (t0 p)).mem a = 0 := fun a => by
    show ((List.range p.m).map p.Z).getD a 0 = 0
    rw [List.getD_eq_getElem?_getD, List.getElem?_map]
    cases (List.range p.m)[a]? with
    | none => rfl
    | some i => exact hZ i
  exact ⟨hC, sq_begin hw (sqC_lv h3 hrd3) (sq_start (sqC_ok h1 h3 hrd hrd3 hW hR) hth hbf hmem rfl) hth hbf rfl⟩
theorem doneM_of {s : Mst} (h : ∀ t, t < s.ths.length -> (thM s t).st = 2 /\ bufM s t = []) : doneM s = true := doneM_yes fun t ht => by
  obtain ⟨h1, h2⟩ := h t ht
  have h1' : (s.ths.getD t tha).st = 2 := h1
  have h2' : s.bufs.getD t [] = [] := h2
  unfold doneT
  rw [h1', h2']
  rfl
theorem range_getD_pk (L : List (Int × Int)) {n : Nat} (h : L.length = n) : ((List.range n).map fun i => L.getD i (0, 0)) = L := by
  subst h
  refine List.ext_getElem (by simp) fun i h1 h2 => ?_
  simp [List.getD_eq_getElem?_getD, List.getElem?_eq_getElem h2]
end Go.Proofs.YtmhfpjnkjlhbpaaGreatDoor
