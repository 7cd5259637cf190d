/- sc.Machine as a port; what its picks keep (plain). -/
import Derived.Test.YtjmnogpnjombgaaDoorScOps
import Derived.Test.YtjmnogpnjombgaaDoorMOk
namespace Go.Proofs.YtjmnogpnjombgaaDoor
open Go.ChangeShapes Go.WideShapes Go.ChangeAt Go.RowKit Go.Deep
set_option linter.unusedVariables false
set_option maxRecDepth 100000
set_option linter.unusedSimpArgs false

/-- The function values of a machine's port. -/
def sPv (B : MB) : Pv where
  load := ⟨75, #[.pointer (some ⟨B.mb, 0, none⟩)], #[]⟩
  room := ⟨76, #[], #[]⟩
  store := ⟨77, #[.pointer (some ⟨B.mb, 0, none⟩)], #[]⟩
  empty := ⟨76, #[], #[]⟩
  flush := ⟨78, #[], #[]⟩
  swap := ⟨79, #[.pointer (some ⟨B.mb, 0, none⟩)], #[]⟩
  sleep := ⟨80, #[.pointer (some ⟨B.mb, 0, none⟩)], #[]⟩
  wake := ⟨81, #[.pointer (some ⟨B.mb, 0, none⟩)], #[]⟩
  remote := ⟨78, #[], #[]⟩
  note := ⟨82, #[.pointer (some ⟨B.mb, 0, none⟩)], #[]⟩

theorem sc_port (B : MB) : PortOk (sOps B) (sPv B) (MInv scL B) (sCan B) where
  lt := fun s own W i h hi => h.lt i hi
  hi := fun s own W i h hi => h.lo i hi
  keep := MInv.keep scL B
  less := fun n s h => h.less
  cload := fun n s a h => h.less
  cstore := fun n s a v h => h.set a v
  cflush := fun n s h => h.less
  cswap := fun n s a v h => h.set a v
  csleep := fun n s a h => h.sleep a
  cwake := fun n s a v h => h.wake a v
  cremote := fun n s h => h.less
  cnote := fun n s x h => h.note x
  goes := ⟨fun _ _ => rfl, fun _ _ => rfl, fun _ _ => rfl, fun _ _ => rfl, fun _ _ => rfl, fun _ _ => rfl, fun _ _ => rfl, fun _ _ => rfl, fun _ _ => rfl, fun _ _ => rfl⟩
  load := fun n s own W a hc h ha => (sload_any B s own W h a ha).mono fun e W' ⟨he, hw⟩ => ⟨he, hw ▸ h.stay⟩
  room := fun n s own W hc h => (salways_any W).mono fun e W' ⟨he, hw⟩ => ⟨he, hw ▸ h.stay⟩
  store := fun n s own W a v hc h ha hr => sstore_any B s own W h a ha v
  empty := fun n s own W hc h => (salways_any W).mono fun e W' ⟨he, hw⟩ => ⟨he, hw ▸ h.stay⟩
  flush := fun n s own W hc h => (snothing_any W).mono fun e W' ⟨he, hw⟩ => ⟨he, hw ▸ h.stay⟩
  swap := fun n s own W a v hc h ha => sswap_any B s own W h a ha v
  sleep := fun n s own W a hc h => ssleep_any B s own W h (by have := hc.can.slp; omega) a
  wake := fun n s own W a v hc h h0 h1 => by
    obtain ⟨m, rfl⟩ : ∃ m : Nat, v = (m : Int) := ⟨v.toNat, by omega⟩
    exact swake_any B s own W h (by have := hc.can.slp; omega) hc.can.who a m (by omega)
  remote := fun n s own W hc h => (snothing_any W).mono fun e W' ⟨he, hw⟩ => ⟨he, hw ▸ h.stay⟩
  note := fun n s own W x hc h => snote_any B s own W h (by have := hc.can.evs; omega) x

/-- What of a machine's parts is right. -/
structure MBok (B : MB) : Prop where
  n8 : B.codes.length ≤ 8
  m : B.m ≤ 1024
  cods : ∀ c ∈ B.codes, c.Ok
/-- Who sleeps: each once, and one of so many. -/
structure SlpOk (nt : Nat) (l : List Slp) : Prop where
  nd : (l.map (·.1)).Nodup
  lo : ∀ x ∈ l, 0 ≤ x.1 ∧ x.1 < (nt : Int)
theorem nodup_le : ∀ (n : Nat) (l : List Int), l.Nodup → (∀ x ∈ l, 0 ≤ x ∧ x < (n : Int)) → l.length ≤ n
  | 0, [], _, _ => Nat.le_refl _
  | 0, x :: l, _, h => by have := h x (by simp); omega
  | n + 1, l, hn, h => by
    by_cases hm : (n : Int) ∈ l
    · have h1 := nodup_le n (l.erase (n : Int)) (hn.erase _) (fun x hx => by
        have h2 := (hn.mem_erase_iff).1 hx
        have h3 := h x h2.2
        have h4 : x ≠ (n : Int) := h2.1
        omega)
      rw [List.length_erase_of_mem hm] at h1
      omega
    · have := nodup_le n l hn (fun x hx => by
        have h3 := h x hx
        have h4 : x ≠ (n : Int) := fun e => hm (e ▸ hx)
        omega)
      omega
theorem SlpOk.len {nt : Nat} {l : List Slp} (h : SlpOk nt l) : l.length ≤ nt := by
  have := nodup_le nt (l.map (·.1)) h.nd (fun x hx => by
    obtain ⟨y, hy, rfl⟩ := List.mem_map.1 hx
    exact h.lo y hy)
  simpa using this
theorem SlpOk.sub {nt : Nat} {l r : List Slp} (h : SlpOk nt l) (hr : r.Sublist l) : SlpOk nt r := ⟨h.nd.sublist (hr.map _), fun x hx => h.lo x (hr.subset hx)⟩
theorem wk_sublist' (addr : Int) (n : Nat) : ∀ (l : List Slp) (s : List Slp × List Int), ∃ r, (l.foldl (wstep addr n) s).1 = s.1 ++ r ∧ r.Sublist l
  | [], s => ⟨[], by simp, List.Sublist.refl _⟩
  | y :: l, s => by
    obtain ⟨r, h1, h2⟩ := wk_sublist' addr n l (wstep addr n s y)
    rw [List.foldl_cons, h1]
    unfold wstep
    split
    · exact ⟨r, rfl, h2.cons _⟩
    · exact ⟨y :: r, by simp, h2.cons_cons _⟩
theorem wk_sublist (addr : Int) (n : Nat) (l : List Slp) : (wk addr n l).1.Sublist l := by
  obtain ⟨r, h1, h2⟩ := wk_sublist' addr n l ([], [])
  unfold wk
  rw [h1]
  exact h2
theorem fnd_none {l : List Slp} {who : Int} (h : ¬ fnd l who < l.length) : who ∉ l.map (·.1) := fun hm => by
  obtain ⟨x, hx, rfl⟩ := List.mem_map.1 hm
  apply h
  unfold fnd
  exact List.findIdx_lt_length_of_exists ⟨x, hx, by simp⟩
theorem SlpOk.snoc {nt : Nat} {l : List Slp} (h : SlpOk nt l) {t : Int} (a : Int) (h0 : 0 ≤ t) (h1 : t < (nt : Int)) (he : slpE l t = 0) : SlpOk nt (l ++ [(t, a)]) := by
  have hf : ¬ fnd l t < l.length := fun hf => by
    unfold slpE at he
    split at he
    · exact absurd he (by decide)
    · exact absurd he (by decide)
  refine ⟨?_, fun x hx => ?_⟩
  · rw [List.map_append, List.nodup_append]
    refine ⟨h.nd, by simp, fun x hx y hy e => ?_⟩
    simp at hy
    subst hy e
    exact fnd_none hf hx
  · rcases List.mem_append.1 hx with hx | hx
    · exact h.lo x hx
    · rw [List.mem_singleton.1 hx]; exact ⟨h0, h1⟩

/-- What all picks keep. -/
structure MOk (B : MB) (s : Mst) : Prop where
  nt : s.ths.length = B.codes.length
  regs : ∀ t ∈ s.ths, RegsOk t
  mem : ∀ z ∈ s.mem, RV z
  buf : ∀ b ∈ s.bufs, ∀ e ∈ b, (0 ≤ e.1 ∧ e.1 < (B.m : Int)) ∧ RV e.2
  slp : SlpOk s.ths.length s.slp
section
variable {B : MB} {s : Mst}
theorem mem_of_getD {l : List Int} {a : Nat} {d : Int} (h : ∀ z ∈ l, RV z) (hd : RV d) : RV (l.getD a d) := by
  rcases Nat.lt_or_ge a l.length with h1 | h1
  · exact h _ (getD_mem h1)
  · rw [getD_nil_of_ge l a d h1]; exact hd
theorem MOk.setMem (h : MOk B s) (a : Nat) {v : Int} (hv : RV v) : MOk B { s with mem := s.mem.set a v } :=
  ⟨h.nt, h.regs, fun z hz => (mem_set hz).elim (h.mem z) (fun e => e ▸ hv), h.buf, h.slp⟩
theorem MOk.sleep (h : MOk B s) (t : Int) (h0 : 0 ≤ t) (h1 : t < (s.ths.length : Int)) (a : Nat) : MOk B (sleepM t s a) := by
  unfold sleepM
  by_cases he : slpE s.slp t = 0
  · rw [if_pos he]
    exact ⟨h.nt, h.regs, h.mem, h.buf, h.slp.snoc (a : Int) h0 h1 he⟩
  · rw [if_neg he]
    exact h
theorem runT_mem (ths : List Th) (ws : List Int) (P : Th → Prop) (h0 : ∀ t ∈ ths, P t) (hs : ∀ t, P t → P { t with st := 0 }) (hd : P tha) : ∀ t ∈ runT ths ws, P t := by
  unfold runT
  induction ws generalizing ths with
  | nil => exact h0
  | cons w ws ih =>
    rw [List.foldl_cons]
    refine ih _ (fun t ht => ?_)
    rcases mem_set ht with ht | rfl
    · exact h0 t ht
    · refine hs _ ?_
      rcases Nat.lt_or_ge w.toNat ths.length with h1 | h1
      · exact h0 _ (getD_mem h1)
      · rw [getD_nil_of_ge _ _ _ h1]; exact hd
theorem tha_regs : RegsOk tha := fun _ => RV.zero
theorem MOk.wake (h : MOk B s) (a : Nat) (v : Int) : MOk B (wakeM s a v).2 :=
  ⟨(runT_len s.ths _).trans h.nt, runT_mem s.ths _ RegsOk h.regs (fun t ht => ht) tha_regs, h.mem, h.buf, by
    show SlpOk (runT s.ths _).length _
    rw [runT_len]
    exact h.slp.sub (wk_sublist _ _ _)⟩
theorem MOk.note (h : MOk B s) (t : Int) (x : Evt) : MOk B (noteM t s x) := ⟨h.nt, h.regs, h.mem, h.buf, h.slp⟩
theorem wakeM_rv (s : Mst) (a : Nat) (v : Int) (hs : s.slp.length ≤ 10000) : RV (wakeM s a v).1 := by
  have := wk_len (a : Int) v.toNat s.slp
  exact ⟨by show (0 : Int) ≤ ((wk (a : Int) v.toNat s.slp).2.length : Int); omega, by show ((wk (a : Int) v.toNat s.slp).2.length : Int) ≤ _; omega⟩
theorem MOk.who (h : MOk B s) (x : Int) : MOk B { s with who := x } := ⟨h.nt, h.regs, h.mem, h.buf, h.slp⟩
theorem MOk.setTh (h : MOk B s) (t : Nat) {x : Th} (hx : RegsOk x) : MOk B { s with ths := s.ths.set t x } :=
  ⟨(List.length_set ..).trans h.nt, fun y hy => (mem_set hy).elim (h.regs y) (fun e => e ▸ hx), h.mem, h.buf, by show SlpOk (s.ths.set t x).length s.slp; rw [List.length_set]; exact h.slp⟩
theorem MOk.getTh (h : MOk B s) (t : Nat) : RegsOk (s.ths.getD t tha) := by
  rcases Nat.lt_or_ge t s.ths.length with h1 | h1
  · exact h.regs _ (getD_mem h1)
  · rw [getD_nil_of_ge _ _ _ h1]; exact tha_regs
theorem MOk.rouse (h : MOk B s) (t : Nat) : MOk B (rouseM t s) := by
  unfold rouseM
  split
  · refine MOk.note ?_ _ _
    have h1 := h.setTh (x := { s.ths.getD t tha with st := 0 }) t (h.getTh t)
    exact ⟨h1.nt, h1.regs, h1.mem, h1.buf, h1.slp.sub (List.eraseIdx_sublist ..)⟩
  · exact h
/-- There is room for more, whatever sleeps. -/
theorem MOk.can (h : MOk B s) (hB : MBok B) {n : Nat} (hn : n ≤ 9000) (he : s.evs.length + tot s.bufs + n ≤ 1000000000) : mCan B n s :=
  ⟨he, by have h1 := h.slp.len; have h2 := h.nt; have h3 := hB.n8; omega, h.slp.lo, fun b hb e he => (h.buf b hb e he).1, by have h2 := h.nt; have h3 := hB.n8; omega⟩
end
/-- Kept by the functions of the port of a machine without buffers. -/
theorem sc_keep (B : MB) (hB : MBok B) (w : Int) (h0 : 0 ≤ w) (h1 : w < (B.codes.length : Int)) : OpsKeep (sOps B) (fun s => MOk B s ∧ s.who = w) where
  load := fun s a h => ⟨mem_of_getD h.1.mem RV.zero, h⟩
  store := fun s a v h hv => ⟨h.1.setMem a hv, h.2⟩
  flush := fun s h => h
  swap := fun s a v h hv => ⟨h.1.setMem a hv, h.2⟩
  sleep := fun s a h => ⟨h.1.sleep s.who (by rw [h.2]; exact h0) (by rw [h.2, h.1.nt]; exact h1) a, by show (sleepM s.who s a).who = w; rw [(sleepM_same s.who s a).2.2]; exact h.2⟩
  wake := fun s a v h => ⟨wakeM_rv s a v (by have h3 := h.1.slp.len; have h4 := h.1.nt; have h5 := hB.n8; omega), h.1.wake a v, h.2⟩
  remote := fun s h => h
  note := fun s x h => ⟨h.1.note s.who x, h.2⟩
theorem sPick_ok {B : MB} (hB : MBok B) {s : Mst} (h : MOk B s) (x : Int × Int) : MOk B (sPick B s x) := by
  unfold sPick
  split
  · exact h
  rename_i hx
  have hw := h.who x.2
  split
  · unfold sStep
    have hk := keep_step (sc_keep B hB x.2 (by omega) (by have := h.nt; omega)) (s := { s with who := x.2 }) ⟨hw, rfl⟩ (hw.getTh x.2.toNat) (c := B.codes.getD x.2.toNat cdd) (by
      have ht : x.2.toNat < B.codes.length := by have := h.nt; omega
      exact hB.cods _ (getD_mem ht))
    exact hk.2.1.setTh _ hk.1
  split
  · exact hw.rouse _
  · exact hw
theorem sCan.setTh {B : MB} {n : Nat} {s : Mst} (h : mCan B n s) (t : Nat) (x : Th) : mCan B n { s with ths := s.ths.set t x } :=
  ⟨h.evs, h.slp, fun y hy => by show _ ∧ y.1 < ((s.ths.set t x).length : Int); rw [List.length_set]; exact h.who y hy, h.buf, by show (s.ths.set t x).length ≤ 8; rw [List.length_set]; exact h.t8⟩
theorem mCan.rouse {B : MB} {n : Nat} {s : Mst} (h : mCan B (n + 1) s) (t : Nat) : mCan B n (rouseM t s) := by
  unfold rouseM
  split
  · refine mCan.note ?_ _ _
    have h1 := sCan.setTh h t { s.ths.getD t tha with st := 0 }
    exact ⟨h1.evs, by have := h1.slp; have := List.length_eraseIdx_le s.slp (fnd s.slp (t : Int)); show (s.slp.eraseIdx _).length + (n + 1) ≤ _; simp only at *; omega, fun y hy => h1.who y (List.mem_of_mem_eraseIdx hy), h1.buf, h1.t8⟩
  · exact h.less
theorem sPick_can {B : MB} {n : Nat} {s : Mst} (h : mCan B (n + 3) s) (x : Int × Int) : mCan B n (sPick B s x) := by
  unfold sPick
  split
  · exact h.less.less.less
  rename_i hx
  have hw : mCan B (n + 3) { s with who := x.2 } := ⟨h.evs, h.slp, h.who, h.buf, h.t8⟩
  split
  · have := can_step (sc_port B) (n := n) (s := { s with who := x.2 }) ⟨hw, by show 0 ≤ x.2; omega, by show x.2 < (s.ths.length : Int); omega⟩ (s.ths.getD x.2.toNat tha) (B.codes.getD x.2.toNat cdd)
    exact sCan.setTh this.can _ _
  split
  · exact mCan.rouse hw.less.less _
  · exact hw.less.less.less
end Go.Proofs.YtjmnogpnjombgaaDoor
