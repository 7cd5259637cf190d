/- core.Step over an abstract port: the whole. -/
import Derived.Test.YtmhfpjnkjlhbpaaGreatDoorCoreS2
import Derived.Test.YtmhfpjnkjlhbpaaGreatDoorCoreS3x
import Derived.Test.YtmhfpjnkjlhbpaaGreatDoorCoreS4x
import Derived.Test.YtmhfpjnkjlhbpaaGreatDoorCoreS5x
import Derived.Test.YtmhfpjnkjlhbpaaGreatDoorCoreS5y
namespace Go.Proofs.YtmhfpjnkjlhbpaaGreatDoor
open Go.ChangeShapes Go.WideShapes Go.ChangeAt Go.RowKit Go.Deep
set_option linter.unusedVariables false
set_option maxRecDepth 100000
set_option linter.unusedSimpArgs false

/-- A right instruction whose address, if it asks for one, lies in memory. -/
def insR {σ : Type} (O : Ops σ) (s : σ) (t : Th) (i : Ins) : Th × σ :=
  if DrainP i.op ∧ O.empty s = false then (t, O.flush s)
  else if i.op = 17 ∧ O.room s = false then (t, O.flush s)
  else if i.op = 0 then ({ t with st := 2 }, O.note s ⟨12, 0, t.pc, 0, 0, 0, 0, false⟩)
  else if jmpB i.op = true then ({ t with pc := if goesB i.op (t.regs i.a.toNat) = true then i.k else t.pc + 1 }, s)
  else if askB i.op = true then ({ (asksR O s t i.op i.a.toNat i.c.toNat (addrF t i).toNat).1 with pc := t.pc + 1 }, (asksR O s t i.op i.a.toNat i.c.toNat (addrF t i).toNat).2)
  else ({ (plainR O s t i.op.toNat i.a.toNat i.b.toNat i.c.toNat i.k 0).1 with pc := t.pc + 1 }, (plainR O s t i.op.toNat i.a.toNat i.b.toNat i.c.toNat i.k 0).2)
/-- What Step does. -/
def stepR {σ : Type} (O : Ops σ) (s : σ) (t : Th) (c : Cd) : Th × σ :=
  if t.st ≠ 0 then (t, s)
  else if t.pc < 0 ∨ (c.len : Int) ≤ t.pc then ({ t with st := 2 }, O.note s ⟨12, 0, t.pc, 0, 0, 0, 0, false⟩)
  else if rightB (c.F t.pc.toNat) c.len = false then ({ t with st := 3 }, O.note s ⟨13, 0, t.pc, 0, 0, 0, 0, false⟩)
  else if askB (c.F t.pc.toNat).op = true ∧ (O.size : Int) ≤ addrF t (c.F t.pc.toNat) then ({ t with st := 3 }, O.note s ⟨13, 0, t.pc, 0, 0, 0, 0, false⟩)
  else insR O s t (c.F t.pc.toNat)

theorem step_any {σ : Type} {O : Ops σ} {V : Pv} {Inv : σ → (Nat → Prop) → World → Prop} {can : Nat → σ → Prop} (hP : PortOk O V Inv can) (n : Nat) (s : σ) (own : Nat → Prop) (t : Th) (c : Cd) (W : World)
    (hI : Inv s own W) (hT : Tab W) (hca : c.At W) (hco : c.Ok) (hsz : (O.size : Int) ≤ 9223372036854775807) (hregs : ∀ r, 0 ≤ t.regs r ∧ t.regs r ≤ 4294967295) (hc : can (n + 3) s) :
    Calls Tryz.prog 126 #[t.val, c.val, V.val O.size] W fun e W' => e = .returned (stepR O s t c).1.val ∧ Moves Inv (stepR O s t c).2 own W W' := by
  have hc1 : can (n + 1) s := hP.less _ _ (hP.less _ _ hc)
  unfold stepR
  by_cases hst : t.st = 0
  case neg => rw [if_pos hst]; exact step_stopped hP n s own t c W hI hT hca hco hst
  rw [if_neg (not_not_intro hst)]
  by_cases hpc : t.pc < 0 ∨ (c.len : Int) ≤ t.pc
  case pos => rw [if_pos hpc]; exact step_out hP n s own t c W hI hT hca hco hst hpc hc1
  rw [if_neg hpc]
  obtain ⟨p, hp⟩ : ∃ p : Nat, t.pc = (p : Int) := ⟨t.pc.toNat, by omega⟩
  have hpl : p < c.len := by omega
  rw [show t.pc.toNat = p by omega]
  by_cases hr : rightB (c.F p) c.len = false
  case pos => rw [if_pos hr]; exact step_wrong hP n s own t c W hI hT hca hco hst p hp hpl hr hc1
  rw [if_neg hr]
  have hr : rightB (c.F p) c.len = true := by simpa using hr
  by_cases hk : askB (c.F p).op = true
  · by_cases hbig : (O.size : Int) ≤ addrF t (c.F p)
    · rw [if_pos ⟨hk, hbig⟩]; exact step_far hP n s own t c W hI hT hca hco hst p hp hpl hr hk hsz hbig hc1
    rw [if_neg (fun h => hbig h.2)]
    have hlt : addrF t (c.F p) < (O.size : Int) := by omega
    unfold insR
    have hk' := of_decide_eq_true hk
    have h0 : (c.F p).op ≠ 0 := by omega
    have hj : jmpB (c.F p).op = false := decide_eq_false (by omega)
    by_cases hdr : DrainP (c.F p).op
    · have h17 : (c.F p).op ≠ 17 := by unfold DrainP at hdr; omega
      cases hem : O.empty s
      · rw [if_pos ⟨hdr, rfl⟩]; exact step_drains_ask hP n s own t c W hI hT hca hco hst p hp hpl hr hk hsz hlt hdr hem hc1
      · rw [if_neg (fun h => by cases h.2), if_neg (fun h => h17 h.1), if_neg h0, if_neg (by simp [hj]), if_pos hk]
        exact step_ask_drained hP n s own t c W hI hT hca hco hst p hp hpl hr hk hsz hlt hdr hem h0 hj hregs hc
    · rw [if_neg (fun h => hdr h.1)]
      by_cases h17 : (c.F p).op = 17
      · cases hem : O.room s
        · rw [if_pos ⟨h17, rfl⟩]; exact step_full hP n s own t c W hI hT hca hco hst p hp hpl hr hk hsz hlt h17 hem hc1
        · rw [if_neg (fun h => by cases h.2), if_neg h0, if_neg (by simp [hj]), if_pos hk]
          exact step_ask_store hP n s own t c W hI hT hca hco hst p hp hpl hr hk hsz hlt h17 hem h0 hj hregs hc
      · rw [if_neg (fun h => h17 h.1), if_neg h0, if_neg (by simp [hj]), if_pos hk]
        exact step_ask hP n s own t c W hI hT hca hco hst p hp hpl hr hk hsz hlt hdr h17 h0 hj hregs hc
  · rw [if_neg (fun h => hk h.1)]
    have hk : askB (c.F p).op = false := by simpa using hk
    unfold insR
    have hk' := of_decide_eq_false hk
    by_cases hdr : DrainP (c.F p).op
    · have h17 : (c.F p).op ≠ 17 := by unfold DrainP at hdr; omega
      have h0 : (c.F p).op ≠ 0 := by unfold DrainP at hdr; omega
      have hj : jmpB (c.F p).op = false := decide_eq_false (by unfold DrainP at hdr; omega)
      cases hem : O.empty s
      · rw [if_pos ⟨hdr, rfl⟩]; exact step_drains_plain hP n s own t c W hI hT hca hco hst p hp hpl hr hk hdr hem hc1
      · rw [if_neg (fun h => by cases h.2), if_neg (fun h => h17 h.1), if_neg h0, if_neg (by simp [hj]), if_neg (by simp [hk])]
        exact step_plain_drained hP n s own t c W hI hT hca hco hst p hp hpl hr hk hdr hem h0 hj hregs hc
    · have h17 : (c.F p).op ≠ 17 := by omega
      rw [if_neg (fun h => hdr h.1), if_neg (fun h => h17 h.1)]
      by_cases h0 : (c.F p).op = 0
      · rw [if_pos h0]; exact step_halt hP n s own t c W hI hT hca hco hst p hp hpl hr hk hdr h17 h0 hc
      rw [if_neg h0]
      by_cases hj : jmpB (c.F p).op = true
      · rw [if_pos hj]
        by_cases hg : goesB (c.F p).op (t.regs (c.F p).a.toNat) = true
        · rw [if_pos hg]; exact step_jump_yes hP n s own t c W hI hT hca hco hst p hp hpl hr hk hdr h17 h0 hj hg hc
        · rw [if_neg hg]; exact step_jump_no hP n s own t c W hI hT hca hco hst p hp hpl hr hk hdr h17 h0 hj (by simpa using hg) hc
      · rw [if_neg hj, if_neg (by simp [hk])]
        exact step_plain hP n s own t c W hI hT hca hco hst p hp hpl hr hk hdr h17 h0 (by simpa using hj) hregs hc
end Go.Proofs.YtmhfpjnkjlhbpaaGreatDoor
