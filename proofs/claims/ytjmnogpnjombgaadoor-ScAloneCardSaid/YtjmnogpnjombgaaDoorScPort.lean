/- sc.Machine as a port; what its picks keep (plain). -/
import Derived.Test.YtjmnogpnjombgaaDoorScOps
import Derived.Test.YtjmnogpnjombgaaDoorMOk
namespace Go.Proofs.YtjmnogpnjombgaaDoor
open Go.ChangeShapes Go.WideShapes Go.ChangeAt Go.RowKit Go.Deep
set_option linter.unusedVariables false
set_option maxRecDepth 100000
set_option linter.unusedSimpArgs false

/-- The function values of a machine's port. -/
def sPv (B : MB) : Pv where
  load := ⟨75, #[.pointer (some ⟨B.mb, 0, none⟩)], #[]⟩
  room := ⟨76, #[], #[]⟩
  store := ⟨77, #[.pointer (some ⟨B.mb, 0, none⟩)], #[]⟩
  empty := ⟨76, #[], #[]⟩
  flush := ⟨78, #[], #[]⟩
  swap := ⟨79, #[.pointer (some ⟨B.mb, 0, none⟩)], #[]⟩
  sleep := ⟨80, #[.pointer (some ⟨B.mb, 0, none⟩)], #[]⟩
  wake := ⟨81, #[.pointer (some ⟨B.mb, 0, none⟩)], #[]⟩
  remote := ⟨78, #[], #[]⟩
  note := ⟨82, #[.pointer (some ⟨B.mb, 0, none⟩)], #[]⟩

theorem sc_port (B : MB) : PortOk (sOps B) (sPv B) (MInv scL B) (sCan B) where
  lt := fun s own W i h hi => h.lt i hi
  hi := fun s own W i h hi => h.lo i hi
  keep := MInv.keep scL B
  less := fun n s h => h.less
  cload := fun n s a h => h.less
  cstore := fun n s a v h => h.set a v
  cflush := fun n s h => h.less
  cswap := fun n s a v h => h.set a v
  csleep := fun n s a h => h.sleep a
  cwake := fun n s a v h => h.wake a v
  cremote := fun n s h => h.less
  cnote := fun n s x h => h.note x
  goes := ⟨fun _ _ => rfl, fun _ _ => rfl, fun _ _ => rfl, fun _ _ => rfl, fun _ _ => rfl, fun _ _ => rfl, fun _ _ => rfl, fun _ _ => rfl, fun _ _ => rfl, fun _ _ => rfl⟩
  load := fun n s own W a hc h ha => (sload_any B s own W h a ha).mono fun e W' ⟨he, hw⟩ => ⟨he, hw ▸ h.stay⟩
  room := fun n s own W hc h => (salways_any W).mono fun e W' ⟨he, hw⟩ => ⟨he, hw ▸ h.stay⟩
  store := fun n s own W a v hc h ha hr => sstore_any B s own W h a ha v
  empty := fun n s own W hc h => (salways_any W).mono fun e W' ⟨he, hw⟩ => ⟨he, hw ▸ h.stay⟩
  flush := fun n s own W hc h => (snothing_any W).mono fun e W' ⟨he, hw⟩ => ⟨he, hw ▸ h.stay⟩
  swap := fun n s own W a v hc h ha => sswap_any B s own W h a ha v
  sleep := fun n s own W a hc h => ssleep_any B s own W h (by have := hc.can.slp; omega) a
  wake := fun n s own W a v hc h h0 h1 => by
    obtain ⟨m, rfl⟩ : ∃ m : Nat, v = (m : Int) := ⟨v.toNat, by omega⟩
    exact swake_any B s own W h (by have := hc.can.slp; omega) hc.can.who a m (by omega)
  remote := fun n s own W hc h => (snothing_any W).mono fun e W' ⟨he, hw⟩ => ⟨he, hw ▸ h.stay⟩
  note := fun n s own W x hc h => snote_any B s own W h (by have := hc.can.evs; omega) x

/-- Kept by the functions of the port of a machine without buffers. -/
theorem sc_keep (B : MB) (hB : MBok B) (w : Int) (h0 : 0 ≤ w) (h1 : w < (B.codes.length : Int)) : OpsKeep (sOps B) (fun s => MOk B s ∧ s.who = w) where
  load := fun s a h => ⟨mem_of_getD h.1.mem RV.zero, h⟩
  store := fun s a v h hv => ⟨h.1.setMem a hv, h.2⟩
  flush := fun s h => h
  swap := fun s a v h hv => ⟨h.1.setMem a hv, h.2⟩
  sleep := fun s a h => ⟨h.1.sleep s.who (by rw [h.2]; exact h0) (by rw [h.2, h.1.nt]; exact h1) a, by show (sleepM s.who s a).who = w; rw [(sleepM_same s.who s a).2.2]; exact h.2⟩
  wake := fun s a v h => ⟨wakeM_rv s a v (by have h3 := h.1.slp.len; have h4 := h.1.nt; have h5 := hB.n8; omega), h.1.wake a v, h.2⟩
  remote := fun s h => h
  note := fun s x h => ⟨h.1.note s.who x, h.2⟩
theorem sPick_ok {B : MB} (hB : MBok B) {s : Mst} (h : MOk B s) (x : Int × Int) : MOk B (sPick B s x) := by
  unfold sPick
  split
  · exact h
  rename_i hx
  have hw := h.who x.2
  split
  · unfold sStep
    have hk := keep_step (sc_keep B hB x.2 (by omega) (by have := h.nt; omega)) (s := { s with who := x.2 }) ⟨hw, rfl⟩ (hw.getTh x.2.toNat) (c := B.codes.getD x.2.toNat cdd) (by
      have ht : x.2.toNat < B.codes.length := by have := h.nt; omega
      exact hB.cods _ (getD_mem ht))
    exact hk.2.1.setTh _ hk.1
  split
  · exact hw.rouse _
  · exact hw
theorem sPick_can {B : MB} {n : Nat} {s : Mst} (h : mCan B (n + 3) s) (x : Int × Int) : mCan B n (sPick B s x) := by
  unfold sPick
  split
  · exact h.less.less.less
  rename_i hx
  have hw : mCan B (n + 3) { s with who := x.2 } := ⟨h.evs, h.slp, h.who, h.buf, h.t8⟩
  split
  · have := can_step (sc_port B) (n := n) (s := { s with who := x.2 }) ⟨hw, by show 0 ≤ x.2; omega, by show x.2 < (s.ths.length : Int); omega⟩ (s.ths.getD x.2.toNat tha) (B.codes.getD x.2.toNat cdd)
    exact sCan.setTh this.can _ _
  split
  · exact mCan.rouse hw.less.less _
  · exact hw.less.less.less
end Go.Proofs.YtjmnogpnjombgaaDoor
