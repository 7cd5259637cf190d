/- ref19's Text (printed by gen/reft9.py). -/
import Derived.Test.YtmhfpjnkjlhbpaaDoorSeqT
import Derived.BigQuiet
namespace Go.Proofs.YtmhfpjnkjlhbpaaDoor
open Go.ChangeShapes Go.WideShapes Go.ChangeAt Go.RowKit Go.Deep
set_option linter.unusedVariables false
set_option maxRecDepth 100000
set_option linter.unusedSimpArgs false

theorem szT {a b : ByteArray} (h : (decide (a.size + b.size ≤ 9223372036854775807)) = true) : a.size + b.size ≤ 9223372036854775807 := of_decide_eq_true h
set_option maxHeartbeats 2000000 in
theorem r19_acq (n arg : Int) (w : World) : Calls Tryd.prog 11 #[.int .i64 1, .int .i64 n, .int .i64 arg] w fun e w' => e = .returned (.string (ba (tplT sAcqL))) ∧ Below w.heap.size w w' := by
  have hal := (Below.refl w.heap.size w).alloc (Nat.le_refl _) (.cells #[.string ⟨#[99]⟩, .string ⟨#[100]⟩, .string ⟨#[101]⟩] 9)
  go_enter Tryd.func11, Tryd.ntmps11
  go_wp2_with fail
  refine (r15_claim _).mono ?_
  rintro e W1 ⟨rfl, rfl⟩
  go_wp2_with fail
  refine (r15_end _).mono ?_
  rintro e W1 ⟨rfl, rfl⟩
  go_wp2_with fail
  go_ret
  exact ⟨congrArg (fun b => Ending.returned (.string b)) (ba_eqT (by decide +kernel)), hal⟩
set_option maxHeartbeats 2000000 in
theorem r19_rel (n arg : Int) (w : World) : Calls Tryd.prog 11 #[.int .i64 2, .int .i64 n, .int .i64 arg] w fun e w' => e = .returned (.string (ba (tplT sRelL))) ∧ Below w.heap.size w w' := by
  have hal := (Below.refl w.heap.size w).alloc (Nat.le_refl _) (.cells #[.string ⟨#[99]⟩, .string ⟨#[100]⟩, .string ⟨#[101]⟩] 9)
  go_enter Tryd.func11, Tryd.ntmps11
  go_wp2_with fail
  refine (r15_prove _).mono ?_
  rintro e W1 ⟨rfl, rfl⟩
  go_wp2_with fail
  refine (r15_end _).mono ?_
  rintro e W1 ⟨rfl, rfl⟩
  go_wp2_with fail
  go_ret
  exact ⟨congrArg (fun b => Ending.returned (.string b)) (ba_eqT (by decide +kernel)), hal⟩
/-- Letters' row. -/
def ltA : Array Value := #[.string ⟨#[99]⟩, .string ⟨#[100]⟩, .string ⟨#[101]⟩]
set_option maxHeartbeats 4000000 in
theorem r19_put (n a : Nat) (hn : a < n) (h3 : n ≤ 3) (w : World) : Calls Tryd.prog 11 #[.int .i64 4, .int .i64 (n : Int), .int .i64 (a : Int)] w fun e w' => e = .returned (.string (ba (tplT (sPutL a)))) ∧ Below w.heap.size w w' := by
  have hal := (Below.refl w.heap.size w).alloc (Nat.le_refl _) (.cells #[.string ⟨#[99]⟩, .string ⟨#[100]⟩, .string ⟨#[101]⟩] 9)
  have hq := (Blk.new w 9 #[.string ⟨#[99]⟩, .string ⟨#[100]⟩, .string ⟨#[101]⟩])
  obtain ⟨y, hy⟩ : ∃ y : List UInt8, y = [UInt8.ofNat (99 + a)] := ⟨_, rfl⟩
  have hc : (w.alloc (.cells #[.string ⟨#[99]⟩, .string ⟨#[100]⟩, .string ⟨#[101]⟩] 9)).cell? ⟨w.heap.size, a, none⟩ = some (.string (ba y)) := by
    subst hy
    have : a = 0 ∨ a = 1 ∨ a = 2 := by omega
    rcases this with rfl | rfl | rfl
    · exact (hq.cell 0).trans rfl
    · exact (hq.cell 1).trans rfl
    · exact (hq.cell 2).trans rfl
  have hi0 : (0 : Int) ≤ (a : Int) := by omega
  have f1 : decide ((a : Int) < 0) = false := decide_eq_false (by omega)
  have f2 : decide ((n : Int) ≤ (a : Int)) = false := decide_eq_false (by omega)
  have f3 : decide ((2 : Int) < (a : Int)) = false := decide_eq_false (by omega)
  have hl : ¬ (a : Int) < 0 := by omega
  have ha3 : (a : Int) < 3 := by omega
  have hyl : y.length = 1 := by rw [hy]; rfl
  have hres : Value.string ((ba proveT ++ ba [115, 116, 111, 114, 101, 32, 114, 48, 32, 91]) ++ ba y ++ ba [93, 10] ++ ba endT) = .string (ba (tplT (sPutL a))) := by
    subst hy
    have : a = 0 ∨ a = 1 ∨ a = 2 := by omega
    rcases this with rfl | rfl | rfl <;> exact congrArg Value.string (ba_eqT (by decide +kernel))
  have z1 : (ba proveT).size = proveT.length := ba_size _
  have z2 : (ba y).size = 1 := by rw [ba_size]; exact hyl
  have z3 : (ba endT).size = endT.length := ba_size _
  rw [show proveT.length = 74 from by decide +kernel] at z1
  rw [show endT.length = 14 from by decide +kernel] at z3
  have HR := Lib.hid (And.intro hal hres)
  clear hal hres hq hy hyl
  go_enter Tryd.func11, Tryd.ntmps11
  go_wp2_with fail
  obtain ⟨g, hg⟩ : ∃ g, w.heap.size = g := ⟨_, rfl⟩
  try rw [hg] at hc
  have hgl : g < (w.alloc (.cells #[.string ⟨#[99]⟩, .string ⟨#[100]⟩, .string ⟨#[101]⟩] 9)).heap.size := by rw [← hg]; simp
  have HG := Lib.hid hgl
  clear hgl
  generalize w.alloc (.cells #[.string ⟨#[99]⟩, .string ⟨#[100]⟩, .string ⟨#[101]⟩] 9) = V at HR HG hc ⊢
  try rw [hg]
  refine startG (fun W' => Below V.drew.heap.size V.drew W') 10 (by kernel_rfl) ?_
  have hW0 : Below V.heap.size V V.drew := ⟨rfl, rfl, rfl, Nat.le_refl _, fun _ _ => rfl⟩
  replace hc := keepAt hW0 HG.out hc
  have HG2 := Lib.hid (show g < V.drew.heap.size from HG.out)
  generalize V.drew = W0 at hW0 hc HG2 ⊢
  have hS0 : Below W0.heap.size W0 W0 := Below.refl _ _
  refine takeG0 (i := 2) (v := .slice (some ⟨g, 0, none⟩) 3 3) rfl (by kernel_rfl) (by kernel_rfl) (by kernel_rfl) (by kernel_rfl) (fun _ _ _ h => h) (Or.inl ⟨by rfl, fun W hW => by go_simp⟩) hS0 ?_
  simp only [Act.put, List.getElem_toArray, List.getElem_cons_zero, List.getElem_cons_succ, List.setIfInBounds_toArray, List.set_cons_zero, List.set_cons_succ]
  refine takeG0 (i := 3) (v := .int .i64 (a : Int)) rfl (by kernel_rfl) (by kernel_rfl) (by kernel_rfl) (by kernel_rfl) (fun _ _ _ h => h) (Or.inl ⟨by rfl, fun W hW => by go_simp⟩) hS0 ?_
  simp only [Act.put, List.getElem_toArray, List.getElem_cons_zero, List.getElem_cons_succ, List.setIfInBounds_toArray, List.set_cons_zero, List.set_cons_succ]
  refine takeG0 (i := 4) (v := .pointer (some ⟨g, a, none⟩)) rfl (by kernel_rfl) (by kernel_rfl) (by kernel_rfl) (by kernel_rfl) (fun _ _ _ h => h) (Or.inl ⟨by rfl, fun W hW => by go_simp⟩) hS0 ?_
  simp only [Act.put, List.getElem_toArray, List.getElem_cons_zero, List.getElem_cons_succ, List.setIfInBounds_toArray, List.set_cons_zero, List.set_cons_succ]
  refine takeG (i := 5) (v := .string (ba y)) rfl (by kernel_rfl) (by kernel_rfl) (by kernel_rfl) (by kernel_rfl) (fun _ _ _ h => h) (Or.inl ⟨by rfl, fun W hW => by have q := keepAt hW HG2.out hc; go_simp⟩) hS0 ?_
  simp only [Act.put, List.getElem_toArray, List.getElem_cons_zero, List.getElem_cons_succ, List.setIfInBounds_toArray, List.set_cons_zero, List.set_cons_succ]
  refine onlyG (i := 0) (by kernel_rfl) rfl (fun K hK => ?_)
  go_simp
  refine (r15_prove _).mono ?_
  rintro e W1 ⟨rfl, rfl⟩
  refine hK.out _ _ hS0 (fun _ => ?_)
  clear hK K
  refine takeG0 (i := 1) (v := .string (ba proveT ++ (⟨#[115, 116, 111, 114, 101, 32, 114, 48, 32, 91]⟩ : ByteArray))) rfl (by kernel_rfl) (by kernel_rfl) (by kernel_rfl) (by kernel_rfl) (fun _ _ _ h => h) (Or.inl ⟨by rfl, fun W hW => by go_simp⟩) hS0 ?_
  simp only [Act.put, List.getElem_toArray, List.getElem_cons_zero, List.getElem_cons_succ, List.setIfInBounds_toArray, List.set_cons_zero, List.set_cons_succ]
  refine takeG0 (i := 6) (v := .string (ba proveT ++ (⟨#[115, 116, 111, 114, 101, 32, 114, 48, 32, 91]⟩ : ByteArray) ++ ba y)) rfl (by kernel_rfl) (by kernel_rfl) (by kernel_rfl) (by kernel_rfl) (fun _ _ _ h => h) (Or.inl ⟨by rfl, fun W hW => by go_simp⟩) hS0 ?_
  simp only [Act.put, List.getElem_toArray, List.getElem_cons_zero, List.getElem_cons_succ, List.setIfInBounds_toArray, List.set_cons_zero, List.set_cons_succ]
  refine takeG0 (i := 7) (v := .string (ba proveT ++ (⟨#[115, 116, 111, 114, 101, 32, 114, 48, 32, 91]⟩ : ByteArray) ++ ba y ++ (⟨#[93, 10]⟩ : ByteArray))) rfl (by kernel_rfl) (by kernel_rfl) (by kernel_rfl) (by kernel_rfl) (fun _ _ _ h => h) (Or.inl ⟨by rfl, fun W hW => by go_simp⟩) hS0 ?_
  simp only [Act.put, List.getElem_toArray, List.getElem_cons_zero, List.getElem_cons_succ, List.setIfInBounds_toArray, List.set_cons_zero, List.set_cons_succ]
  refine onlyG (i := 8) (by kernel_rfl) rfl (fun K hK => ?_)
  go_simp
  refine (r15_end _).mono ?_
  rintro e W1 ⟨rfl, rfl⟩
  refine hK.out _ _ hS0 (fun _ => ?_)
  clear hK K
  refine takeG0 (i := 9) (v := .string (ba proveT ++ (⟨#[115, 116, 111, 114, 101, 32, 114, 48, 32, 91]⟩ : ByteArray) ++ ba y ++ (⟨#[93, 10]⟩ : ByteArray) ++ ba endT)) rfl (by kernel_rfl) (by kernel_rfl) (by kernel_rfl) (by kernel_rfl) (fun _ _ _ h => h) (Or.inl ⟨by rfl, fun W hW => by go_simp⟩) hS0 ?_
  simp only [Act.put, List.getElem_toArray, List.getElem_cons_zero, List.getElem_cons_succ, List.setIfInBounds_toArray, List.set_cons_zero, List.set_cons_succ]
  refine lastG (by kernel_rfl) rfl (by kernel_rfl) (fun K hK => ?_)
  go_simp
  refine hK.out _ _ ?_
  clear hK K
  go_wp2
  go_ret
  exact ⟨congrArg Ending.returned HR.out.2, step_below HR.out.1 hW0⟩

/-- The lines that read, ahead of the words'. -/
def sHeadL : List TLn := [.lab n_again, .ins 16 [.r 4, .adr 0], .ins 1 [.r 5, .n 1], .ins 6 [.r 6, .r 4, .r 5], .ins 15 [.r 6, .l n_again]]
def accR (k : Nat) : List UInt8 := tplT (sHeadL ++ (List.range k).map (fun i => TLn.ins 16 [.r i, .adr (2 + i)]))
theorem accR_succ (k : Nat) : accR (k + 1) = accR k ++ ((TLn.ins 16 [.r k, .adr (2 + k)]).txt ++ [10]) := by
  unfold accR tplT
  rw [List.range_succ, List.map_append, ← List.append_assoc, List.flatMap_append]
  simp
theorem accR_zero : Value.string (ba (accR 0)) = .string ⟨#[97, 103, 97, 105, 110, 58, 10, 108, 111, 97, 100, 32, 114, 52, 32, 91, 97, 93, 10, 115, 101, 116, 32, 114, 53, 32, 49, 10, 97, 110, 100, 32, 114, 54, 32, 114, 52, 32, 114, 53, 10, 115, 111, 109, 101, 32, 114, 54, 32, 64, 97, 103, 97, 105, 110, 10]⟩ := congrArg Value.string (ba_eqT (by decide +kernel)).symm
theorem accR_len (k : Nat) (hk : k ≤ 3) : (accR k).length ≤ 200 := by
  have : k = 0 ∨ k = 1 ∨ k = 2 ∨ k = 3 := by omega
  rcases this with rfl | rfl | rfl | rfl <;> decide +kernel
theorem line_ba (acc : List UInt8) (k : Nat) (hk : k < 3) : ba acc ++ (⟨#[108, 111, 97, 100, 32, 114]⟩ : ByteArray) ++ ba [dig k] ++ (⟨#[32, 91]⟩ : ByteArray) ++ ba [UInt8.ofNat (99 + k)] ++ (⟨#[93, 10]⟩ : ByteArray) = ba (acc ++ ((TLn.ins 16 [.r k, .adr (2 + k)]).txt ++ [10])) := by
  rw [show (⟨#[108, 111, 97, 100, 32, 114]⟩ : ByteArray) = ba [108, 111, 97, 100, 32, 114] from rfl, show (⟨#[32, 91]⟩ : ByteArray) = ba [32, 91] from rfl, show (⟨#[93, 10]⟩ : ByteArray) = ba [93, 10] from rfl]
  simp only [ba_app, List.append_assoc]
  have : [108, 111, 97, 100, 32, 114] ++ ([dig k] ++ ([32, 91] ++ ([UInt8.ofNat (99 + k)] ++ [93, 10]))) = (TLn.ins 16 [.r k, .adr (2 + k)]).txt ++ [10] := by
    have : k = 0 ∨ k = 1 ∨ k = 2 := by omega
    rcases this with rfl | rfl | rfl <;> decide +kernel
  rw [this]
theorem tail_ba (k : Nat) (hk : k ≤ 3) : ba (accR k) ++ (⟨#[108, 111, 97, 100, 32, 114, 53, 32, 91, 97, 93, 10, 115, 97, 109, 101, 32, 114, 54, 32, 114, 52, 32, 114, 53, 10, 122, 101, 114, 111, 32, 114, 54, 32, 64, 97, 103, 97, 105, 110, 10]⟩ : ByteArray) ++ ba endT = ba (tplT (sReadL k)) := by
  have : k = 0 ∨ k = 1 ∨ k = 2 ∨ k = 3 := by omega
  rcases this with rfl | rfl | rfl | rfl <;> exact ba_eqT (by decide +kernel)
set_option maxHeartbeats 4000000 in
theorem r19_read (n : Nat) (h3 : n ≤ 3) (arg : Int) (w : World) : Calls Tryd.prog 11 #[.int .i64 3, .int .i64 (n : Int), .int .i64 arg] w fun e w' => e = .returned (.string (ba (tplT (sReadL n)))) ∧ Below w.heap.size w w' := by
  have hal := (Below.refl w.heap.size w).alloc (Nat.le_refl _) (.cells #[.string ⟨#[99]⟩, .string ⟨#[100]⟩, .string ⟨#[101]⟩] 9)
  have hq := (Blk.new w 9 #[.string ⟨#[99]⟩, .string ⟨#[100]⟩, .string ⟨#[101]⟩])
  have hc : ∀ a : Nat, a < 3 → (w.alloc (.cells #[.string ⟨#[99]⟩, .string ⟨#[100]⟩, .string ⟨#[101]⟩] 9)).cell? ⟨w.heap.size, a, none⟩ = some (.string (ba [UInt8.ofNat (99 + a)])) := by
    intro a ha
    have : a = 0 ∨ a = 1 ∨ a = 2 := by omega
    rcases this with rfl | rfl | rfl
    · exact (hq.cell 0).trans rfl
    · exact (hq.cell 1).trans rfl
    · exact (hq.cell 2).trans rfl
  obtain ⟨g, hg⟩ : ∃ g, w.heap.size = g := ⟨_, rfl⟩
  have hgl : g < (w.alloc (.cells #[.string ⟨#[99]⟩, .string ⟨#[100]⟩, .string ⟨#[101]⟩] 9)).heap.size := by rw [← hg]; simp
  rw [hg] at hc
  have HR := Lib.hid (And.intro hal (And.intro hc hgl))
  clear hal hc hq hgl
  have h3i : (n : Int) ≤ 3 := by omega
  have a0 := accR_zero
  go_enter Tryd.func11, Tryd.ntmps11
  go_wp2_with fail
  generalize w.alloc (.cells #[.string ⟨#[99]⟩, .string ⟨#[100]⟩, .string ⟨#[101]⟩] 9) = V at HR ⊢
  try rw [hg]
  rw [← a0]
  clear a0
  go_loopw [8, 9] (fun v8 v9 wr => ∃ k : Nat, k ≤ n ∧ v9 = .int .i64 k ∧ v8 = .string (ba (accR k)) ∧ Below V.heap.size V wr) (fun _ v9 _ => n - (intOf v9).toNat)
  case atStart => exact ⟨0, Nat.zero_le _, rfl, rfl, Below.refl _ _⟩
  case round =>
    obtain ⟨k, hk, rfl, rfl, hB⟩ := hrel
    have hk0 : (0 : Int) ≤ (k : Int) := by omega
    have hlen := accR_len k (by omega)
    have hkx := accR_succ k
    have hke := tail_ba k (by omega)
    generalize accR k = acc at hlen hkx hke ⊢
    have hm : (ba acc).size ≤ 200 := by rw [ba_size]; exact hlen
    by_cases hkn : k < n
    · have f1 : decide ((k : Int) < (n : Int)) = true := decide_eq_true (by omega)
      have f2 : decide ((k : Int) < 3) = true := decide_eq_true (by omega)
      have hk3 : (k : Int) < 3 := by omega
      have hkl : k < 3 := by omega
      have hn := numL_lt (n := k) (by omega)
      have cN := fun W => r15_num k (by omega) W
      rw [hn] at cN
      have hy := HR.out.2.1 k hkl
      have hres := line_ba acc k hkl
      rw [← hkx] at hres
      have hz1 : (ba [dig k]).size = 1 := ba_size _
      have hz2 : (ba [UInt8.ofNat (99 + k)]).size = 1 := ba_size _
      obtain ⟨y, hyy⟩ : ∃ y, ba [UInt8.ofNat (99 + k)] = y := ⟨_, rfl⟩
      obtain ⟨d, hdd⟩ : ∃ d, [dig k] = d := ⟨_, rfl⟩
      rw [hyy] at hy hres hz2
      rw [hdd] at cN hres hz1
      replace hy := keepAt hB HR.out.2.2 hy
      have hgl := Nat.lt_of_lt_of_le HR.out.2.2 hB.size
      have HQ := Lib.hid (And.intro hB (And.intro cN (And.intro hres hgl)))
      clear hB cN hres hgl hyy hdd hn hkx hke hlen
      go_wp2_with fail
      refine startG (fun W' => Below wr.drew.heap.size wr.drew W') 12 (by kernel_rfl) ?_
      have hW0 : Below wr.heap.size wr wr.drew := ⟨rfl, rfl, rfl, Nat.le_refl _, fun _ _ => rfl⟩
      replace hy := keepAt hW0 HQ.out.2.2.2 hy
      have HG2 := Lib.hid (show g < wr.drew.heap.size from HQ.out.2.2.2)
      generalize wr.drew = W0 at hW0 hy HG2 ⊢
      have hS0 : Below W0.heap.size W0 W0 := Below.refl _ _
      refine takeG0 (i := 0) (v := .string (ba acc)) rfl (by kernel_rfl) (by kernel_rfl) (by kernel_rfl) (by kernel_rfl) (fun _ _ _ h => h) (Or.inl ⟨by rfl, fun W hW => by go_simp <;> (first | omega | rfl)⟩) hS0 ?_
      simp only [Act.put, List.getElem_toArray, List.getElem_cons_zero, List.getElem_cons_succ, List.setIfInBounds_toArray, List.set_cons_zero, List.set_cons_succ]
      refine takeG0 (i := 1) (v := .string (ba acc ++ (⟨#[108, 111, 97, 100, 32, 114]⟩ : ByteArray))) rfl (by kernel_rfl) (by kernel_rfl) (by kernel_rfl) (by kernel_rfl) (fun _ _ _ h => h) (Or.inl ⟨by rfl, fun W hW => by go_simp <;> (first | omega | rfl)⟩) hS0 ?_
      simp only [Act.put, List.getElem_toArray, List.getElem_cons_zero, List.getElem_cons_succ, List.setIfInBounds_toArray, List.set_cons_zero, List.set_cons_succ]
      refine takeG0 (i := 2) (v := .int .i64 (k : Int)) rfl (by kernel_rfl) (by kernel_rfl) (by kernel_rfl) (by kernel_rfl) (fun _ _ _ h => h) (Or.inl ⟨by rfl, fun W hW => by go_simp <;> (first | omega | rfl)⟩) hS0 ?_
      simp only [Act.put, List.getElem_toArray, List.getElem_cons_zero, List.getElem_cons_succ, List.setIfInBounds_toArray, List.set_cons_zero, List.set_cons_succ]
      refine takeG0 (i := 6) (v := .slice (some ⟨g, 0, none⟩) 3 3) rfl (by kernel_rfl) (by kernel_rfl) (by kernel_rfl) (by kernel_rfl) (fun _ _ _ h => h) (Or.inl ⟨by rfl, fun W hW => by go_simp <;> (first | omega | rfl)⟩) hS0 ?_
      simp only [Act.put, List.getElem_toArray, List.getElem_cons_zero, List.getElem_cons_succ, List.setIfInBounds_toArray, List.set_cons_zero, List.set_cons_succ]
      refine takeG0 (i := 7) (v := .int .i64 (k : Int)) rfl (by kernel_rfl) (by kernel_rfl) (by kernel_rfl) (by kernel_rfl) (fun _ _ _ h => h) (Or.inl ⟨by rfl, fun W hW => by go_simp <;> (first | omega | rfl)⟩) hS0 ?_
      simp only [Act.put, List.getElem_toArray, List.getElem_cons_zero, List.getElem_cons_succ, List.setIfInBounds_toArray, List.set_cons_zero, List.set_cons_succ]
      refine takeG0 (i := 8) (v := .pointer (some ⟨g, k, none⟩)) rfl (by kernel_rfl) (by kernel_rfl) (by kernel_rfl) (by kernel_rfl) (fun _ _ _ h => h) (Or.inl ⟨by rfl, fun W hW => by go_simp <;> (first | omega | rfl)⟩) hS0 ?_
      simp only [Act.put, List.getElem_toArray, List.getElem_cons_zero, List.getElem_cons_succ, List.setIfInBounds_toArray, List.set_cons_zero, List.set_cons_succ]
      refine takeG (i := 9) (v := .string y) rfl (by kernel_rfl) (by kernel_rfl) (by kernel_rfl) (by kernel_rfl) (fun _ _ _ h => h) (Or.inl ⟨by rfl, fun W hW => by have q := keepAt hW HG2.out hy; go_simp⟩) hS0 ?_
      simp only [Act.put, List.getElem_toArray, List.getElem_cons_zero, List.getElem_cons_succ, List.setIfInBounds_toArray, List.set_cons_zero, List.set_cons_succ]
      refine onlyG (i := 3) (by kernel_rfl) rfl (fun K hK => ?_)
      go_simp
      refine (HQ.out.2.1 W0).mono ?_
      rintro e W1 ⟨rfl, hB1⟩
      rw [str_ba]
      refine hK.out _ _ hB1 (fun _ => ?_)
      clear hK K
      refine takeG0 (i := 4) (v := .string (ba acc ++ (⟨#[108, 111, 97, 100, 32, 114]⟩ : ByteArray) ++ ba d)) rfl (by kernel_rfl) (by kernel_rfl) (by kernel_rfl) (by kernel_rfl) (fun _ _ _ h => h) (Or.inl ⟨by rfl, fun W hW => by go_simp <;> (first | omega | rfl)⟩) hB1 ?_
      simp only [Act.put, List.getElem_toArray, List.getElem_cons_zero, List.getElem_cons_succ, List.setIfInBounds_toArray, List.set_cons_zero, List.set_cons_succ]
      refine takeG0 (i := 5) (v := .string (ba acc ++ (⟨#[108, 111, 97, 100, 32, 114]⟩ : ByteArray) ++ ba d ++ (⟨#[32, 91]⟩ : ByteArray))) rfl (by kernel_rfl) (by kernel_rfl) (by kernel_rfl) (by kernel_rfl) (fun _ _ _ h => h) (Or.inl ⟨by rfl, fun W hW => by go_simp <;> (first | omega | rfl)⟩) hB1 ?_
      simp only [Act.put, List.getElem_toArray, List.getElem_cons_zero, List.getElem_cons_succ, List.setIfInBounds_toArray, List.set_cons_zero, List.set_cons_succ]
      refine takeG0 (i := 10) (v := .string (ba acc ++ (⟨#[108, 111, 97, 100, 32, 114]⟩ : ByteArray) ++ ba d ++ (⟨#[32, 91]⟩ : ByteArray) ++ y)) rfl (by kernel_rfl) (by kernel_rfl) (by kernel_rfl) (by kernel_rfl) (fun _ _ _ h => h) (Or.inl ⟨by rfl, fun W hW => by go_simp <;> (first | omega | rfl)⟩) hB1 ?_
      simp only [Act.put, List.getElem_toArray, List.getElem_cons_zero, List.getElem_cons_succ, List.setIfInBounds_toArray, List.set_cons_zero, List.set_cons_succ]
      refine takeG0 (i := 11) (v := .string (ba acc ++ (⟨#[108, 111, 97, 100, 32, 114]⟩ : ByteArray) ++ ba d ++ (⟨#[32, 91]⟩ : ByteArray) ++ y ++ (⟨#[93, 10]⟩ : ByteArray))) rfl (by kernel_rfl) (by kernel_rfl) (by kernel_rfl) (by kernel_rfl) (fun _ _ _ h => h) (Or.inl ⟨by rfl, fun W hW => by go_simp <;> (first | omega | rfl)⟩) hB1 ?_
      simp only [Act.put, List.getElem_toArray, List.getElem_cons_zero, List.getElem_cons_succ, List.setIfInBounds_toArray, List.set_cons_zero, List.set_cons_succ]
      refine lastG (by kernel_rfl) rfl (by kernel_rfl) (fun K hK => ?_)
      go_simp
      refine hK.out _ _ ?_
      clear hK K
      have HZ := Lib.hid (step_below HQ.out.1 (hW0.trans (hB1.mono hW0.size)))
      clear hW0 hy hS0 hB1
      go_wp2
      go_roundw
      case rel => exact ⟨k + 1, by omega, by go_num, congrArg Value.string HQ.out.2.2.1, HZ.out⟩
      case measure => simp [intOf]; omega
    · obtain rfl : k = n := by omega
      have f1 : decide ((k : Int) < (k : Int)) = false := decide_eq_false (by omega)
      have hz3 : (ba endT).size = 14 := ba_size _
      have HZ := Lib.hid (And.intro hB hke)
      clear hB hke hkx hlen
      have w1 : (ba acc).size + (⟨#[108, 111, 97, 100, 32, 114, 53, 32, 91, 97, 93, 10, 115, 97, 109, 101, 32, 114, 54, 32, 114, 52, 32, 114, 53, 10, 122, 101, 114, 111, 32, 114, 54, 32, 64, 97, 103, 97, 105, 110, 10]⟩ : ByteArray).size ≤ 9223372036854775807 := by
        rw [show (⟨#[108, 111, 97, 100, 32, 114, 53, 32, 91, 97, 93, 10, 115, 97, 109, 101, 32, 114, 54, 32, 114, 52, 32, 114, 53, 10, 122, 101, 114, 111, 32, 114, 54, 32, 64, 97, 103, 97, 105, 110, 10]⟩ : ByteArray).size = 41 from rfl]; omega
      go_wp2_with fail
      refine (r15_end _).mono ?_
      rintro e W1 ⟨rfl, rfl⟩
      go_wp2_with fail
      go_ret
      exact ⟨congrArg (fun b => Ending.returned (.string b)) HZ.out.2, step_below HR.out.1 HZ.out.1⟩
end Go.Proofs.YtmhfpjnkjlhbpaaDoor
