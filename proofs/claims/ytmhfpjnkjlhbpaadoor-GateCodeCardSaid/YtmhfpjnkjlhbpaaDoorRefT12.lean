/- ref21's Text (printed by gen/reft12.py). -/
import Derived.Test.YtmhfpjnkjlhbpaaDoorGateTx
import Derived.BigQuiet
namespace Go.Proofs.YtmhfpjnkjlhbpaaDoor
open Go.ChangeShapes Go.WideShapes Go.ChangeAt Go.RowKit Go.Deep
set_option linter.unusedVariables false
set_option maxRecDepth 100000
set_option linter.unusedSimpArgs false

theorem nm16 : nmB 16 = [108, 111, 97, 100] := by decide +kernel
theorem nm17 : nmB 17 = [115, 116, 111, 114, 101] := by decide +kernel
theorem nm23 : nmB 23 = [119, 97, 105, 116] := by decide +kernel
theorem nm1 : nmB 1 = [115, 101, 116] := by decide +kernel
theorem gTick_txt (own : Nat) : tplT (gTickL own) = [108, 111, 97, 100, 32, 114, 52, 32, 91, 97, 93, 10, 115, 116, 111, 114, 101, 32, 114, 52, 32] ++ ([91] ++ numL own ++ [93]) ++ [10] ++ endT := by
  simp [tplT, gTickL, endL, TLn.txt, Tp.txt, Tk.txt, Tp.m, Tp.r, Tp.n, nm16, nm17, nm1, numL_lt, dig, n_end, endT]
theorem gSlp_txt (own : Nat) : tplT (gSlpL own) = [108, 111, 97, 100, 32, 114, 52, 32] ++ ([91] ++ numL own ++ [93]) ++ [10, 119, 97, 105, 116, 32, 114, 52, 32, 91, 97, 93, 10] ++ endT := by
  simp [tplT, gSlpL, endL, TLn.txt, Tp.txt, Tk.txt, Tp.m, Tp.r, Tp.n, nm16, nm23, nm1, numL_lt, dig, n_end, endT]
set_option maxHeartbeats 2000000 in
theorem r21_tick (n arg : Int) (t base : Nat) (ht : t ≤ 1000) (hb : base ≤ 65535)  (w : World) : Calls Tryd.prog 15 #[.int .i64 12, .int .i64 5, .int .i64 n, .int .i64 (t : Int), .int .i64 (base : Int), .int .u32 arg] w fun e w' => e = .returned (.string (ba (tplT (gTickL (base + 1 + t))))) ∧ Below w.heap.size w w' := by
  have hti : (t : Int) ≤ 1000 := by omega
  have hbi : (base : Int) ≤ 65535 := by omega
  have ht0 : (0 : Int) ≤ (t : Int) := by omega
  have hb0 : (0 : Int) ≤ (base : Int) := by omega
  have cN : Calls Tryd.prog 40 #[.int .i64 ((base : Int) + 1 + (t : Int))] w fun e w' => e = .returned (str (numL (base + 1 + t))) ∧ Below w.heap.size w w' := r15_num (base + 1 + t) (by omega) w
  have hd := numL_ten (n := base + 1 + t) (by omega)
  have hz3 : (ba endT).size = 14 := ba_size _
  generalize hdd : numL (base + 1 + t) = d at cN hd
  have hds : (ba d).size ≤ 10 := by rw [ba_size]; exact hd
  clear hd
  go_enter Tryd.func15, Tryd.ntmps15
  go_wp2_with fail
  refine cN.mono ?_
  rintro e W1 ⟨rfl, hB⟩
  rw [str_ba]
  have HB := Lib.hid hB
  clear hB cN
  go_wp2_with fail
  refine (r15_end _).mono ?_
  rintro e W2 ⟨rfl, rfl⟩
  go_wp2_with fail
  go_ret
  exact ⟨congrArg (fun b => Ending.returned (.string b)) (by rw [gTick_txt, hdd, show (⟨#[108, 111, 97, 100, 32, 114, 52, 32, 91, 97, 93, 10, 115, 116, 111, 114, 101, 32, 114, 52, 32]⟩ : ByteArray) = ba [108, 111, 97, 100, 32, 114, 52, 32, 91, 97, 93, 10, 115, 116, 111, 114, 101, 32, 114, 52, 32] from rfl, show (⟨#[10]⟩ : ByteArray) = ba [10] from rfl, show (⟨#[91]⟩ : ByteArray) = ba [91] from rfl, show (⟨#[93]⟩ : ByteArray) = ba [93] from rfl]; simp only [ba_app]), HB.out⟩
set_option maxHeartbeats 2000000 in
theorem r21_slp (n arg : Int) (t base : Nat) (ht : t ≤ 1000) (hb : base ≤ 65535)  (w : World) : Calls Tryd.prog 15 #[.int .i64 12, .int .i64 6, .int .i64 n, .int .i64 (t : Int), .int .i64 (base : Int), .int .u32 arg] w fun e w' => e = .returned (.string (ba (tplT (gSlpL (base + 1 + t))))) ∧ Below w.heap.size w w' := by
  have hti : (t : Int) ≤ 1000 := by omega
  have hbi : (base : Int) ≤ 65535 := by omega
  have ht0 : (0 : Int) ≤ (t : Int) := by omega
  have hb0 : (0 : Int) ≤ (base : Int) := by omega
  have cN : Calls Tryd.prog 40 #[.int .i64 ((base : Int) + 1 + (t : Int))] w fun e w' => e = .returned (str (numL (base + 1 + t))) ∧ Below w.heap.size w w' := r15_num (base + 1 + t) (by omega) w
  have hd := numL_ten (n := base + 1 + t) (by omega)
  have hz3 : (ba endT).size = 14 := ba_size _
  generalize hdd : numL (base + 1 + t) = d at cN hd
  have hds : (ba d).size ≤ 10 := by rw [ba_size]; exact hd
  clear hd
  go_enter Tryd.func15, Tryd.ntmps15
  go_wp2_with fail
  refine cN.mono ?_
  rintro e W1 ⟨rfl, hB⟩
  rw [str_ba]
  have HB := Lib.hid hB
  clear hB cN
  go_wp2_with fail
  refine (r15_end _).mono ?_
  rintro e W2 ⟨rfl, rfl⟩
  go_wp2_with fail
  go_ret
  exact ⟨congrArg (fun b => Ending.returned (.string b)) (by rw [gSlp_txt, hdd, show (⟨#[108, 111, 97, 100, 32, 114, 52, 32]⟩ : ByteArray) = ba [108, 111, 97, 100, 32, 114, 52, 32] from rfl, show (⟨#[10, 119, 97, 105, 116, 32, 114, 52, 32, 91, 97, 93, 10]⟩ : ByteArray) = ba [10, 119, 97, 105, 116, 32, 114, 52, 32, 91, 97, 93, 10] from rfl, show (⟨#[91]⟩ : ByteArray) = ba [91] from rfl, show (⟨#[93]⟩ : ByteArray) = ba [93] from rfl]; simp only [ba_app]), HB.out⟩
set_option maxHeartbeats 2000000 in
theorem r21_sig (n arg : Int) (t base : Nat) (ht : t ≤ 1000) (hb : base ≤ 65535)  (w : World) : Calls Tryd.prog 15 #[.int .i64 12, .int .i64 7, .int .i64 n, .int .i64 (t : Int), .int .i64 (base : Int), .int .u32 arg] w fun e w' => e = .returned (.string (ba (tplT gSigL))) ∧ Below w.heap.size w w' := by
  have hti : (t : Int) ≤ 1000 := by omega
  have hbi : (base : Int) ≤ 65535 := by omega
  have ht0 : (0 : Int) ≤ (t : Int) := by omega
  have hb0 : (0 : Int) ≤ (base : Int) := by omega
  have cN : Calls Tryd.prog 40 #[.int .i64 ((base : Int) + 1 + (t : Int))] w fun e w' => e = .returned (str (numL (base + 1 + t))) ∧ Below w.heap.size w w' := r15_num (base + 1 + t) (by omega) w
  have hd := numL_ten (n := base + 1 + t) (by omega)
  generalize hdd : numL (base + 1 + t) = d at cN hd
  have hds : (ba d).size ≤ 10 := by rw [ba_size]; exact hd
  clear hd
  go_enter Tryd.func15, Tryd.ntmps15
  go_wp2_with fail
  refine cN.mono ?_
  rintro e W1 ⟨rfl, hB⟩
  rw [str_ba]
  have HB := Lib.hid hB
  clear hB cN
  go_wp2_with fail
  refine (r15_end _).mono ?_
  rintro e W2 ⟨rfl, rfl⟩
  go_wp2_with fail
  go_ret
  exact ⟨congrArg (fun b => Ending.returned (.string b)) (ba_eqT (by decide +kernel)), HB.out⟩
set_option maxHeartbeats 2000000 in
theorem r21_bro (n arg : Int) (t base : Nat) (ht : t ≤ 1000) (hb : base ≤ 65535)  (w : World) : Calls Tryd.prog 15 #[.int .i64 12, .int .i64 8, .int .i64 n, .int .i64 (t : Int), .int .i64 (base : Int), .int .u32 arg] w fun e w' => e = .returned (.string (ba (tplT gBroL))) ∧ Below w.heap.size w w' := by
  have hti : (t : Int) ≤ 1000 := by omega
  have hbi : (base : Int) ≤ 65535 := by omega
  have ht0 : (0 : Int) ≤ (t : Int) := by omega
  have hb0 : (0 : Int) ≤ (base : Int) := by omega
  have cN : Calls Tryd.prog 40 #[.int .i64 ((base : Int) + 1 + (t : Int))] w fun e w' => e = .returned (str (numL (base + 1 + t))) ∧ Below w.heap.size w w' := r15_num (base + 1 + t) (by omega) w
  have hd := numL_ten (n := base + 1 + t) (by omega)
  generalize hdd : numL (base + 1 + t) = d at cN hd
  have hds : (ba d).size ≤ 10 := by rw [ba_size]; exact hd
  clear hd
  go_enter Tryd.func15, Tryd.ntmps15
  go_wp2_with fail
  refine cN.mono ?_
  rintro e W1 ⟨rfl, hB⟩
  rw [str_ba]
  have HB := Lib.hid hB
  clear hB cN
  go_wp2_with fail
  refine (r15_end _).mono ?_
  rintro e W2 ⟨rfl, rfl⟩
  go_wp2_with fail
  go_ret
  exact ⟨congrArg (fun b => Ending.returned (.string b)) (ba_eqT (by decide +kernel)), HB.out⟩
set_option maxHeartbeats 2000000 in
theorem r21_str (n arg : Int) (t base : Nat) (ht : t ≤ 1000) (hb : base ≤ 65535) (hs : n ≤ (t : Int)) (w : World) : Calls Tryd.prog 15 #[.int .i64 13, .int .i64 9, .int .i64 n, .int .i64 (t : Int), .int .i64 (base : Int), .int .u32 arg] w fun e w' => e = .returned (.string (ba (tplT gStrL))) ∧ Below w.heap.size w w' := by
  have hti : (t : Int) ≤ 1000 := by omega
  have hbi : (base : Int) ≤ 65535 := by omega
  have ht0 : (0 : Int) ≤ (t : Int) := by omega
  have hb0 : (0 : Int) ≤ (base : Int) := by omega
  have cN : Calls Tryd.prog 40 #[.int .i64 ((base : Int) + 1 + (t : Int))] w fun e w' => e = .returned (str (numL (base + 1 + t))) ∧ Below w.heap.size w w' := r15_num (base + 1 + t) (by omega) w
  have hd := numL_ten (n := base + 1 + t) (by omega)
  generalize hdd : numL (base + 1 + t) = d at cN hd
  have hds : (ba d).size ≤ 10 := by rw [ba_size]; exact hd
  clear hd
  go_enter Tryd.func15, Tryd.ntmps15
  go_wp2_with fail
  refine cN.mono ?_
  rintro e W1 ⟨rfl, hB⟩
  rw [str_ba]
  have HB := Lib.hid hB
  clear hB cN
  go_wp2_with fail
  go_ret
  exact ⟨congrArg (fun b => Ending.returned (.string b)) (ba_eqT (by decide +kernel)), HB.out⟩
set_option maxHeartbeats 2000000 in
theorem r21_ovr1 (n arg : Int) (t base : Nat) (ht : t ≤ 1000) (hb : base ≤ 65535) (hs : ¬ n ≤ (t : Int)) (h8 : 8 < arg) (w : World) : Calls Tryd.prog 15 #[.int .i64 13, .int .i64 9, .int .i64 n, .int .i64 (t : Int), .int .i64 (base : Int), .int .u32 arg] w fun e w' => e = .returned (.string (ba (tplT gOvrL))) ∧ Below w.heap.size w w' := by
  have hti : (t : Int) ≤ 1000 := by omega
  have hbi : (base : Int) ≤ 65535 := by omega
  have ht0 : (0 : Int) ≤ (t : Int) := by omega
  have hb0 : (0 : Int) ≤ (base : Int) := by omega
  have cN : Calls Tryd.prog 40 #[.int .i64 ((base : Int) + 1 + (t : Int))] w fun e w' => e = .returned (str (numL (base + 1 + t))) ∧ Below w.heap.size w w' := r15_num (base + 1 + t) (by omega) w
  have hd := numL_ten (n := base + 1 + t) (by omega)
  have f1 : decide ((8 : Int) < arg) = true := decide_eq_true h8
  generalize hdd : numL (base + 1 + t) = d at cN hd
  have hds : (ba d).size ≤ 10 := by rw [ba_size]; exact hd
  clear hd
  go_enter Tryd.func15, Tryd.ntmps15
  go_wp2_with fail
  refine cN.mono ?_
  rintro e W1 ⟨rfl, hB⟩
  rw [str_ba]
  have HB := Lib.hid hB
  clear hB cN
  go_wp2_with fail
  go_ret
  exact ⟨congrArg (fun b => Ending.returned (.string b)) (ba_eqT (by decide +kernel)), HB.out⟩
set_option maxHeartbeats 2000000 in
theorem r21_ovr2 (n arg : Int) (t base : Nat) (ht : t ≤ 1000) (hb : base ≤ 65535) (hs : ¬ n ≤ (t : Int)) (h8 : ¬ 8 < arg) (ha : 0 ≤ arg) (hne : ¬ arg = n) (w : World) : Calls Tryd.prog 15 #[.int .i64 13, .int .i64 9, .int .i64 n, .int .i64 (t : Int), .int .i64 (base : Int), .int .u32 arg] w fun e w' => e = .returned (.string (ba (tplT gOvrL))) ∧ Below w.heap.size w w' := by
  have hti : (t : Int) ≤ 1000 := by omega
  have hbi : (base : Int) ≤ 65535 := by omega
  have ht0 : (0 : Int) ≤ (t : Int) := by omega
  have hb0 : (0 : Int) ≤ (base : Int) := by omega
  have cN : Calls Tryd.prog 40 #[.int .i64 ((base : Int) + 1 + (t : Int))] w fun e w' => e = .returned (str (numL (base + 1 + t))) ∧ Below w.heap.size w w' := r15_num (base + 1 + t) (by omega) w
  have hd := numL_ten (n := base + 1 + t) (by omega)
  have f1 : decide ((8 : Int) < arg) = false := decide_eq_false h8
  have f2 : (arg != n) = true := by simp [hne]
  have w1 : IntKind.i64.wrap arg = arg := IntWalk.i64_in _ (by omega)
  generalize hdd : numL (base + 1 + t) = d at cN hd
  have hds : (ba d).size ≤ 10 := by rw [ba_size]; exact hd
  clear hd
  go_enter Tryd.func15, Tryd.ntmps15
  go_wp2_with fail
  refine cN.mono ?_
  rintro e W1 ⟨rfl, hB⟩
  rw [str_ba]
  have HB := Lib.hid hB
  clear hB cN
  go_wp2_with fail
  go_ret
  exact ⟨congrArg (fun b => Ending.returned (.string b)) (ba_eqT (by decide +kernel)), HB.out⟩
set_option maxHeartbeats 2000000 in
theorem r21_ent (n arg : Int) (t base : Nat) (ht : t ≤ 1000) (hb : base ≤ 65535)  (w : World) : Calls Tryd.prog 15 #[.int .i64 15, .int .i64 9, .int .i64 n, .int .i64 (t : Int), .int .i64 (base : Int), .int .u32 arg] w fun e w' => e = .returned (.string (ba (tplT gEntL))) ∧ Below w.heap.size w w' := by
  have hti : (t : Int) ≤ 1000 := by omega
  have hbi : (base : Int) ≤ 65535 := by omega
  have ht0 : (0 : Int) ≤ (t : Int) := by omega
  have hb0 : (0 : Int) ≤ (base : Int) := by omega
  have cN : Calls Tryd.prog 40 #[.int .i64 ((base : Int) + 1 + (t : Int))] w fun e w' => e = .returned (str (numL (base + 1 + t))) ∧ Below w.heap.size w w' := r15_num (base + 1 + t) (by omega) w
  have hd := numL_ten (n := base + 1 + t) (by omega)
  generalize hdd : numL (base + 1 + t) = d at cN hd
  have hds : (ba d).size ≤ 10 := by rw [ba_size]; exact hd
  clear hd
  go_enter Tryd.func15, Tryd.ntmps15
  go_wp2_with fail
  refine cN.mono ?_
  rintro e W1 ⟨rfl, hB⟩
  rw [str_ba]
  have HB := Lib.hid hB
  clear hB cN
  go_wp2_with fail
  refine (r15_claim _).mono ?_
  rintro e W2 ⟨rfl, rfl⟩
  go_wp2_with fail
  refine (r15_end _).mono ?_
  rintro e W2 ⟨rfl, rfl⟩
  go_wp2_with fail
  go_ret
  exact ⟨congrArg (fun b => Ending.returned (.string b)) (ba_eqT (by decide +kernel)), HB.out⟩
set_option maxHeartbeats 2000000 in
theorem r21_don (n arg : Int) (t base : Nat) (ht : t ≤ 1000) (hb : base ≤ 65535)  (w : World) : Calls Tryd.prog 15 #[.int .i64 15, .int .i64 10, .int .i64 n, .int .i64 (t : Int), .int .i64 (base : Int), .int .u32 arg] w fun e w' => e = .returned (.string (ba (tplT gDonL))) ∧ Below w.heap.size w w' := by
  have hti : (t : Int) ≤ 1000 := by omega
  have hbi : (base : Int) ≤ 65535 := by omega
  have ht0 : (0 : Int) ≤ (t : Int) := by omega
  have hb0 : (0 : Int) ≤ (base : Int) := by omega
  have cN : Calls Tryd.prog 40 #[.int .i64 ((base : Int) + 1 + (t : Int))] w fun e w' => e = .returned (str (numL (base + 1 + t))) ∧ Below w.heap.size w w' := r15_num (base + 1 + t) (by omega) w
  have hd := numL_ten (n := base + 1 + t) (by omega)
  generalize hdd : numL (base + 1 + t) = d at cN hd
  have hds : (ba d).size ≤ 10 := by rw [ba_size]; exact hd
  clear hd
  go_enter Tryd.func15, Tryd.ntmps15
  go_wp2_with fail
  refine cN.mono ?_
  rintro e W1 ⟨rfl, hB⟩
  rw [str_ba]
  have HB := Lib.hid hB
  clear hB cN
  go_wp2_with fail
  refine (r15_prove _).mono ?_
  rintro e W2 ⟨rfl, rfl⟩
  go_wp2_with fail
  refine (r15_end _).mono ?_
  rintro e W2 ⟨rfl, rfl⟩
  go_wp2_with fail
  go_ret
  exact ⟨congrArg (fun b => Ending.returned (.string b)) (ba_eqT (by decide +kernel)), HB.out⟩
set_option maxHeartbeats 4000000 in
theorem r21_meet (m : Nat) (hm : m ≤ 7) (t base : Nat) (ht : t ≤ 1000) (hb : base ≤ 65535) (hs : ¬ (m : Int) + 1 ≤ (t : Int)) (w : World) : Calls Tryd.prog 15 #[.int .i64 13, .int .i64 9, .int .i64 ((m : Int) + 1), .int .i64 (t : Int), .int .i64 (base : Int), .int .u32 ((m : Int) + 1)] w fun e w' => e = .returned (.string (ba (tplT (gMeetL (m + 1))))) ∧ Below w.heap.size w w' := by
  have hti : (t : Int) ≤ 1000 := by omega
  have hbi : (base : Int) ≤ 65535 := by omega
  have ht0 : (0 : Int) ≤ (t : Int) := by omega
  have hb0 : (0 : Int) ≤ (base : Int) := by omega
  have hm0 : (0 : Int) ≤ (m : Int) := by omega
  have hm7 : (m : Int) ≤ 7 := by omega
  have cN : Calls Tryd.prog 40 #[.int .i64 ((base : Int) + 1 + (t : Int))] w fun e w' => e = .returned (str (numL (base + 1 + t))) ∧ Below w.heap.size w w' := r15_num (base + 1 + t) (by omega) w
  have hd := numL_ten (n := base + 1 + t) (by omega)
  generalize hdd : numL (base + 1 + t) = d at cN hd
  have hds : (ba d).size ≤ 10 := by rw [ba_size]; exact hd
  have cM := fun w => r15_num m (by omega) w
  rw [numL_lt (show m < 10 by omega)] at cM
  have f1 : decide ((8 : Int) < (m : Int) + 1) = false := decide_eq_false (by omega)
  have w1 : IntKind.i64.wrap ((m : Int) + 1) = (m : Int) + 1 := IntWalk.i64_in _ (by omega)
  have hz1 : (ba [dig m]).size = 1 := ba_size _
  have HC := Lib.hid cM
  clear hd hdd cM
  go_enter Tryd.func15, Tryd.ntmps15
  go_wp2_with fail
  refine cN.mono ?_
  rintro e W1 ⟨rfl, hB⟩
  rw [str_ba]
  have HB := Lib.hid hB
  clear hB cN
  go_wp2_with fail
  refine (HC.out _).mono ?_
  rintro e W2 ⟨rfl, hB2⟩
  rw [str_ba]
  have HB2 := Lib.hid (step_below HB.out hB2)
  have hz3 : (ba endT).size = 14 := ba_size _
  clear hB2 HB HC
  go_wp2_with fail
  refine (r15_end _).mono ?_
  rintro e W3 ⟨rfl, rfl⟩
  go_wp2_with fail
  go_ret
  refine ⟨congrArg (fun b => Ending.returned (.string b)) ?_, HB2.out⟩
  clear HB2 hz1 hz3 w1 f1 hds
  have h8 : m = 0 ∨ m = 1 ∨ m = 2 ∨ m = 3 ∨ m = 4 ∨ m = 5 ∨ m = 6 ∨ m = 7 := by omega
  rcases h8 with rfl | rfl | rfl | rfl | rfl | rfl | rfl | rfl <;> exact ba_eqT (by decide +kernel)
end Go.Proofs.YtmhfpjnkjlhbpaaDoor
