/- RwCode. -/
import Derived.Test.YtmhfpjnkjlhbpaaGreatDoorRefTd
import Derived.Test.YtmhfpjnkjlhbpaaGreatDoorRwC
import Derived.Test.YtmhfpjnkjlhbpaaGreatDoorRefTe
namespace Go.Proofs.YtmhfpjnkjlhbpaaGreatDoor
open Go.ChangeShapes Go.WideShapes Go.ChangeAt Go.RowKit Go.Deep
set_option linter.unusedVariables false
set_option maxRecDepth 100000
set_option linter.unusedSimpArgs false
def Tp.rg (i : Nat) : Tp := .tk (.reg i)
def Tp.nm (i : Nat) : Tp := .tk (.num i)
def Tp.lb (s : List UInt8) : Tp := .tk (.lab s)
def Tp.mm (n : Nat) : Tp := .tk (.mem n)
def rClaimL (own : Nat) : List TLn := [.ins 16 [.rg 4, .mm own], .ins 14 [.rg 4, .lb n_free], .ins 1 [.rg 7, .nm 1], .ins 13 [.lb n_end], .lab n_free, .lab n_again]
def rEndL : List TLn := [.ins 1 [.rg 7, .nm 0], .lab n_end]
def rWriteL (own : Nat) : List TLn := rClaimL own ++ [.ins 1 [.rg 4, .nm 0], .ins 1 [.rg 5, .nm 4294967295], .ins 21 [.rg 4, .rg 5, .adr 0], .ins 14 [.rg 4, .lb n_got], .ins 23 [.rg 4, .adr 0], .ins 13 [.lb n_again], .lab n_got, .ins 1 [.rg 4, .nm 2], .ins 17 [.rg 4, .mm own]] ++ rEndL
def rReadL (own : Nat) : List TLn := rClaimL own ++ [.ins 16 [.rg 4, .adr 0], .ins 1 [.rg 5, .nm 4294967295], .ins 12 [.rg 6, .rg 4, .rg 5], .ins 15 [.rg 6, .lb n_sleep], .ins 1 [.rg 5, .nm 1], .ins 3 [.rg 5, .rg 4, .rg 5], .ins 2 [.rg 6, .rg 4], .ins 21 [.rg 4, .rg 5, .adr 0], .ins 12 [.rg 6, .rg 4, .rg 6], .ins 14 [.rg 6, .lb n_again], .ins 1 [.rg 4, .nm 1], .ins 17 [.rg 4, .mm own], .ins 1 [.rg 7, .nm 0], .ins 13 [.lb n_end], .lab n_sleep, .ins 23 [.rg 4, .adr 0], .ins 13 [.lb n_again], .lab n_end]
def rRelL (own : Nat) : List TLn := [.ins 16 [.rg 4, .mm own], .ins 15 [.rg 4, .lb n_mine], .ins 1 [.rg 7, .nm 2], .ins 13 [.lb n_end], .lab n_mine, .ins 1 [.rg 5, .nm 1], .ins 12 [.rg 6, .rg 4, .rg 5], .ins 1 [.rg 4, .nm 0], .ins 17 [.rg 4, .mm own], .ins 15 [.rg 6, .lb n_reader], .ins 1 [.rg 4, .nm 0], .ins 19 [.rg 4, .adr 0], .ins 13 [.lb n_wake], .lab n_reader, .ins 1 [.rg 4, .nm 4294967295], .ins 20 [.rg 4, .adr 0], .ins 1 [.rg 5, .nm 1], .ins 12 [.rg 6, .rg 4, .rg 5], .ins 14 [.rg 6, .lb n_done], .lab n_wake, .ins 1 [.rg 4, .nm 4294967295], .ins 24 [.rg 4, .adr 0], .lab n_done] ++ rEndL
theorem rWrite_code (base t own : Nat) : codeT base t (rWriteL own) = (BB.rwrite BB.e (base : Int) (own : Int)).out := by kernel_rfl
theorem rRead_code (base t own : Nat) : codeT base t (rReadL own) = (BB.rread BB.e (base : Int) (own : Int)).out := by kernel_rfl
theorem rRel_code (base t own : Nat) : codeT base t (rRelL own) = (BB.rrel BB.e (base : Int) (own : Int)).out := by kernel_rfl
structure TOkR (base t : Nat) (T : List TLn) : Prop where
  pos : 0 < (tplT T).length
  len : (tplT T).length ≤ 2000
  ok : T.all TLn.okB = true
  good : goodB T = true
  once : onceB (T.map (TLn.inst base t)) = true
  there : thereB (T.map (TLn.inst base t)) = true
theorem nmr1 : nmB 1 = [115, 101, 116] := by decide +kernel
theorem nmr2 : nmB 2 = [109, 111, 118, 101] := by decide +kernel
theorem nmr3 : nmB 3 = [97, 100, 100] := by decide +kernel
theorem nmr12 : nmB 12 = [115, 97, 109, 101] := by decide +kernel
theorem nmr13 : nmB 13 = [106, 117, 109, 112] := by decide +kernel
theorem nmr14 : nmB 14 = [122, 101, 114, 111] := by decide +kernel
theorem nmr15 : nmB 15 = [115, 111, 109, 101] := by decide +kernel
theorem nmr16 : nmB 16 = [108, 111, 97, 100] := by decide +kernel
theorem nmr17 : nmB 17 = [115, 116, 111, 114, 101] := by decide +kernel
theorem nmr19 : nmB 19 = [115, 119, 97, 112] := by decide +kernel
theorem nmr20 : nmB 20 = [102, 101, 116, 99, 104] := by decide +kernel
theorem nmr21 : nmB 21 = [99, 97, 115] := by decide +kernel
theorem nmr23 : nmB 23 = [119, 97, 105, 116] := by decide +kernel
theorem nmr24 : nmB 24 = [119, 97, 107, 101] := by decide +kernel
theorem num_all : numL 4294967295 = [52, 50, 57, 52, 57, 54, 55, 50, 57, 53] := by decide +kernel
theorem rWrite_txt (own : Nat) : tplT (rWriteL own) = [108, 111, 97, 100, 32, 114, 52, 32] ++ (([91] ++ numL own ++ [93]) ++ ([10, 122, 101, 114, 111, 32, 114, 52, 32, 64, 102, 114, 101, 101, 10, 115, 101, 116, 32, 114, 55, 32, 49, 10, 106, 117, 109, 112, 32, 64, 101, 110, 100, 10, 102, 114, 101, 101, 58, 10, 97, 103, 97, 105, 110, 58, 10, 115, 101, 116, 32, 114, 52, 32, 48, 10, 115, 101, 116, 32, 114, 53, 32, 52, 50, 57, 52, 57, 54, 55, 50, 57, 53, 10, 99, 97, 115, 32, 114, 52, 32, 114, 53, 32, 91, 97, 93, 10, 122, 101, 114, 111, 32, 114, 52, 32, 64, 103, 111, 116, 10, 119, 97, 105, 116, 32, 114, 52, 32, 91, 97, 93, 10, 106, 117, 109, 112, 32, 64, 97, 103, 97, 105, 110, 10, 103, 111, 116, 58, 10, 115, 101, 116, 32, 114, 52, 32, 50, 10, 115, 116, 111, 114, 101, 32, 114, 52, 32] ++ (([91] ++ numL own ++ [93]) ++ [10, 115, 101, 116, 32, 114, 55, 32, 48, 10, 101, 110, 100, 58, 10]))) := by
  simp [tplT, rWriteL, rClaimL, rEndL, TLn.txt, Tp.txt, Tk.txt, Tp.rg, Tp.nm, Tp.lb, Tp.mm, nmr1, nmr2, nmr3, nmr12, nmr13, nmr14, nmr15, nmr16, nmr17, nmr19, nmr20, nmr21, nmr23, nmr24, num_all, numL_lt, dig, n_free, n_end, n_again, n_got, n_sleep, n_mine, n_reader, n_wake, n_done]
theorem rWrite_ok (base t own : Nat) (h : own ≤ 4294967295) : TOkR base t (rWriteL own) := by
  have hd : decide (own ≤ 4294967295) = true := decide_eq_true h
  have hl := numL_ten h
  have hf : fitB (flB 16) [Tp.rg 4, Tp.mm own] = decide (own ≤ 4294967295) := by kernel_rfl
  have hf2 : fitB (flB 17) [Tp.rg 4, Tp.mm own] = decide (own ≤ 4294967295) := by kernel_rfl
  rw [hd] at hf hf2
  refine ⟨?_, ?_, ?_, ?_, by kernel_rfl, by kernel_rfl⟩
  · rw [rWrite_txt, List.length_append]; simp; omega
  · rw [rWrite_txt]; simp; omega
  · simp [rWriteL, rClaimL, rEndL, TLn.okB, Tp.okB, Tp.rg, Tp.nm, Tp.lb, Tp.mm, h]; decide +kernel
  · unfold goodB; simp [rWriteL, rClaimL, rEndL, hf, hf2]; decide +kernel
theorem rRead_txt (own : Nat) : tplT (rReadL own) = [108, 111, 97, 100, 32, 114, 52, 32] ++ (([91] ++ numL own ++ [93]) ++ ([10, 122, 101, 114, 111, 32, 114, 52, 32, 64, 102, 114, 101, 101, 10, 115, 101, 116, 32, 114, 55, 32, 49, 10, 106, 117, 109, 112, 32, 64, 101, 110, 100, 10, 102, 114, 101, 101, 58, 10, 97, 103, 97, 105, 110, 58, 10, 108, 111, 97, 100, 32, 114, 52, 32, 91, 97, 93, 10, 115, 101, 116, 32, 114, 53, 32, 52, 50, 57, 52, 57, 54, 55, 50, 57, 53, 10, 115, 97, 109, 101, 32, 114, 54, 32, 114, 52, 32, 114, 53, 10, 115, 111, 109, 101, 32, 114, 54, 32, 64, 115, 108, 101, 101, 112, 10, 115, 101, 116, 32, 114, 53, 32, 49, 10, 97, 100, 100, 32, 114, 53, 32, 114, 52, 32, 114, 53, 10, 109, 111, 118, 101, 32, 114, 54, 32, 114, 52, 10, 99, 97, 115, 32, 114, 52, 32, 114, 53, 32, 91, 97, 93, 10, 115, 97, 109, 101, 32, 114, 54, 32, 114, 52, 32, 114, 54, 10, 122, 101, 114, 111, 32, 114, 54, 32, 64, 97, 103, 97, 105, 110, 10, 115, 101, 116, 32, 114, 52, 32, 49, 10, 115, 116, 111, 114, 101, 32, 114, 52, 32] ++ (([91] ++ numL own ++ [93]) ++ [10, 115, 101, 116, 32, 114, 55, 32, 48, 10, 106, 117, 109, 112, 32, 64, 101, 110, 100, 10, 115, 108, 101, 101, 112, 58, 10, 119, 97, 105, 116, 32, 114, 52, 32, 91, 97, 93, 10, 106, 117, 109, 112, 32, 64, 97, 103, 97, 105, 110, 10, 101, 110, 100, 58, 10]))) := by
  simp [tplT, rReadL, rClaimL, rEndL, TLn.txt, Tp.txt, Tk.txt, Tp.rg, Tp.nm, Tp.lb, Tp.mm, nmr1, nmr2, nmr3, nmr12, nmr13, nmr14, nmr15, nmr16, nmr17, nmr19, nmr20, nmr21, nmr23, nmr24, num_all, numL_lt, dig, n_free, n_end, n_again, n_got, n_sleep, n_mine, n_reader, n_wake, n_done]
theorem rRead_ok (base t own : Nat) (h : own ≤ 4294967295) : TOkR base t (rReadL own) := by
  have hd : decide (own ≤ 4294967295) = true := decide_eq_true h
  have hl := numL_ten h
  have hf : fitB (flB 16) [Tp.rg 4, Tp.mm own] = decide (own ≤ 4294967295) := by kernel_rfl
  have hf2 : fitB (flB 17) [Tp.rg 4, Tp.mm own] = decide (own ≤ 4294967295) := by kernel_rfl
  rw [hd] at hf hf2
  refine ⟨?_, ?_, ?_, ?_, by kernel_rfl, by kernel_rfl⟩
  · rw [rRead_txt, List.length_append]; simp; omega
  · rw [rRead_txt]; simp; omega
  · simp [rReadL, rClaimL, rEndL, TLn.okB, Tp.okB, Tp.rg, Tp.nm, Tp.lb, Tp.mm, h]; decide +kernel
  · unfold goodB; simp [rReadL, rClaimL, rEndL, hf, hf2]; decide +kernel
theorem rRel_txt (own : Nat) : tplT (rRelL own) = [108, 111, 97, 100, 32, 114, 52, 32] ++ (([91] ++ numL own ++ [93]) ++ ([10, 115, 111, 109, 101, 32, 114, 52, 32, 64, 109, 105, 110, 101, 10, 115, 101, 116, 32, 114, 55, 32, 50, 10, 106, 117, 109, 112, 32, 64, 101, 110, 100, 10, 109, 105, 110, 101, 58, 10, 115, 101, 116, 32, 114, 53, 32, 49, 10, 115, 97, 109, 101, 32, 114, 54, 32, 114, 52, 32, 114, 53, 10, 115, 101, 116, 32, 114, 52, 32, 48, 10, 115, 116, 111, 114, 101, 32, 114, 52, 32] ++ (([91] ++ numL own ++ [93]) ++ [10, 115, 111, 109, 101, 32, 114, 54, 32, 64, 114, 101, 97, 100, 101, 114, 10, 115, 101, 116, 32, 114, 52, 32, 48, 10, 115, 119, 97, 112, 32, 114, 52, 32, 91, 97, 93, 10, 106, 117, 109, 112, 32, 64, 119, 97, 107, 101, 10, 114, 101, 97, 100, 101, 114, 58, 10, 115, 101, 116, 32, 114, 52, 32, 52, 50, 57, 52, 57, 54, 55, 50, 57, 53, 10, 102, 101, 116, 99, 104, 32, 114, 52, 32, 91, 97, 93, 10, 115, 101, 116, 32, 114, 53, 32, 49, 10, 115, 97, 109, 101, 32, 114, 54, 32, 114, 52, 32, 114, 53, 10, 122, 101, 114, 111, 32, 114, 54, 32, 64, 100, 111, 110, 101, 10, 119, 97, 107, 101, 58, 10, 115, 101, 116, 32, 114, 52, 32, 52, 50, 57, 52, 57, 54, 55, 50, 57, 53, 10, 119, 97, 107, 101, 32, 114, 52, 32, 91, 97, 93, 10, 100, 111, 110, 101, 58, 10, 115, 101, 116, 32, 114, 55, 32, 48, 10, 101, 110, 100, 58, 10]))) := by
  simp [tplT, rRelL, rClaimL, rEndL, TLn.txt, Tp.txt, Tk.txt, Tp.rg, Tp.nm, Tp.lb, Tp.mm, nmr1, nmr2, nmr3, nmr12, nmr13, nmr14, nmr15, nmr16, nmr17, nmr19, nmr20, nmr21, nmr23, nmr24, num_all, numL_lt, dig, n_free, n_end, n_again, n_got, n_sleep, n_mine, n_reader, n_wake, n_done]
theorem rRel_ok (base t own : Nat) (h : own ≤ 4294967295) : TOkR base t (rRelL own) := by
  have hd : decide (own ≤ 4294967295) = true := decide_eq_true h
  have hl := numL_ten h
  have hf : fitB (flB 16) [Tp.rg 4, Tp.mm own] = decide (own ≤ 4294967295) := by kernel_rfl
  have hf2 : fitB (flB 17) [Tp.rg 4, Tp.mm own] = decide (own ≤ 4294967295) := by kernel_rfl
  rw [hd] at hf hf2
  refine ⟨?_, ?_, ?_, ?_, by kernel_rfl, by kernel_rfl⟩
  · rw [rRel_txt, List.length_append]; simp; omega
  · rw [rRel_txt]; simp; omega
  · simp [rRelL, rClaimL, rEndL, TLn.okB, Tp.okB, Tp.rg, Tp.nm, Tp.lb, Tp.mm, h]; decide +kernel
  · unfold goodB; simp [rRelL, rClaimL, rEndL, hf, hf2]; decide +kernel
set_option maxHeartbeats 4000000 in
theorem r22_write (t base : Nat) (ht : t ≤ 1000) (hb : base ≤ 65535) (w : World) : Calls Tryz.prog 27 #[.int .i64 1, .int .i64 (t : Int), .int .i64 (base : Int)] w fun e w' => e = .returned (.string (ba (tplT (rWriteL (base + 1 + t))))) ∧ Below w.heap.size w w' := by
  have hti : (t : Int) ≤ 1000 := by omega
  have hbi : (base : Int) ≤ 65535 := by omega
  have ht0 : (0 : Int) ≤ (t : Int) := by omega
  have hb0 : (0 : Int) ≤ (base : Int) := by omega
  have cN : Calls Tryz.prog 61 #[.int .i64 ((base : Int) + 1 + (t : Int))] w fun e w' => e = .returned (str (numL (base + 1 + t))) ∧ Below w.heap.size w w' := r15_num (base + 1 + t) (by omega) w
  have hd := numL_ten (n := base + 1 + t) (by omega)
  have hx := rWrite_txt (base + 1 + t)
  generalize hdd : numL (base + 1 + t) = d at cN hd hx
  generalize tplT (rWriteL (base + 1 + t)) = TX at hx ⊢
  have hds : (ba d).size ≤ 10 := by rw [ba_size]; exact hd
  have HX := Lib.hid hx
  clear hd hdd hx
  go_enter Tryz.func27, Tryz.ntmps27
  go_wp2_with fail
  refine cN.mono ?_
  rintro e W1 ⟨rfl, hB⟩
  rw [str_ba]
  have HB := Lib.hid hB
  have hz3 : (ba endT).size = 14 := ba_size _
  clear hB cN
  go_wp2_with fail
  refine (r15_end _).mono ?_
  rintro e W2 ⟨rfl, rfl⟩
  go_wp2_with fail
  go_ret
  refine ⟨congrArg (fun b => Ending.returned (.string b)) ?_, HB.out⟩
  rw [HX.out]
  refine ba_ext ?_
  simp [ba, endT]
set_option maxHeartbeats 4000000 in
theorem r22_read (t base : Nat) (ht : t ≤ 1000) (hb : base ≤ 65535) (w : World) : Calls Tryz.prog 27 #[.int .i64 3, .int .i64 (t : Int), .int .i64 (base : Int)] w fun e w' => e = .returned (.string (ba (tplT (rReadL (base + 1 + t))))) ∧ Below w.heap.size w w' := by
  have hti : (t : Int) ≤ 1000 := by omega
  have hbi : (base : Int) ≤ 65535 := by omega
  have ht0 : (0 : Int) ≤ (t : Int) := by omega
  have hb0 : (0 : Int) ≤ (base : Int) := by omega
  have cN : Calls Tryz.prog 61 #[.int .i64 ((base : Int) + 1 + (t : Int))] w fun e w' => e = .returned (str (numL (base + 1 + t))) ∧ Below w.heap.size w w' := r15_num (base + 1 + t) (by omega) w
  have hd := numL_ten (n := base + 1 + t) (by omega)
  have hx := rRead_txt (base + 1 + t)
  generalize hdd : numL (base + 1 + t) = d at cN hd hx
  generalize tplT (rReadL (base + 1 + t)) = TX at hx ⊢
  have hds : (ba d).size ≤ 10 := by rw [ba_size]; exact hd
  have HX := Lib.hid hx
  clear hd hdd hx
  go_enter Tryz.func27, Tryz.ntmps27
  go_wp2_with fail
  refine cN.mono ?_
  rintro e W1 ⟨rfl, hB⟩
  rw [str_ba]
  have HB := Lib.hid hB
  have hz3 : (ba endT).size = 14 := ba_size _
  clear hB cN
  go_wp2_with fail
  go_ret
  refine ⟨congrArg (fun b => Ending.returned (.string b)) ?_, HB.out⟩
  rw [HX.out]
  refine ba_ext ?_
  simp [ba, endT]
set_option maxHeartbeats 4000000 in
theorem r22_rel (t base : Nat) (ht : t ≤ 1000) (hb : base ≤ 65535) (w : World) : Calls Tryz.prog 27 #[.int .i64 2, .int .i64 (t : Int), .int .i64 (base : Int)] w fun e w' => e = .returned (.string (ba (tplT (rRelL (base + 1 + t))))) ∧ Below w.heap.size w w' := by
  have hti : (t : Int) ≤ 1000 := by omega
  have hbi : (base : Int) ≤ 65535 := by omega
  have ht0 : (0 : Int) ≤ (t : Int) := by omega
  have hb0 : (0 : Int) ≤ (base : Int) := by omega
  have cN : Calls Tryz.prog 61 #[.int .i64 ((base : Int) + 1 + (t : Int))] w fun e w' => e = .returned (str (numL (base + 1 + t))) ∧ Below w.heap.size w w' := r15_num (base + 1 + t) (by omega) w
  have hd := numL_ten (n := base + 1 + t) (by omega)
  have hx := rRel_txt (base + 1 + t)
  generalize hdd : numL (base + 1 + t) = d at cN hd hx
  generalize tplT (rRelL (base + 1 + t)) = TX at hx ⊢
  have hds : (ba d).size ≤ 10 := by rw [ba_size]; exact hd
  have HX := Lib.hid hx
  clear hd hdd hx
  go_enter Tryz.func27, Tryz.ntmps27
  go_wp2_with fail
  refine cN.mono ?_
  rintro e W1 ⟨rfl, hB⟩
  rw [str_ba]
  have HB := Lib.hid hB
  have hz3 : (ba endT).size = 14 := ba_size _
  clear hB cN
  go_wp2_with fail
  refine (r15_end _).mono ?_
  rintro e W2 ⟨rfl, rfl⟩
  go_wp2_with fail
  go_ret
  refine ⟨congrArg (fun b => Ending.returned (.string b)) ?_, HB.out⟩
  rw [HX.out]
  refine ba_ext ?_
  simp [ba, endT]
set_option maxHeartbeats 2000000 in
theorem rw_no (k n a b call th t base arg : Int) (h : may15 k n a b call th t = true → k ≠ 14) (W : World) (hO : ONam W) :
    Calls Tryz.prog 24 #[.agg #[.int .i64 k, .int .i64 n, .int .i64 a, .int .i64 b], .int .i64 call, .int .i64 th, .int .i64 t, .int .u32 base, .int .u32 arg] W fun e W' => e = .returned (.tuple #[.slice none 0 0, .bool false]) ∧ Below W.heap.size W W' := by
  have hq := Blk.new W 46 #[.int .i64 k, .int .i64 n, .int .i64 a, .int .i64 b]
  have hB := (Below.refl W.heap.size W).alloc (Nat.le_refl _) (.cells #[.int .i64 k, .int .i64 n, .int .i64 a, .int .i64 b] 46)
  have q0 := (hq.cell 0).trans rfl
  have q1 := (hq.cell 1).trans rfl
  have q2 := (hq.cell 2).trans rfl
  have q3 := (hq.cell 3).trans rfl
  by_cases hk : k = 14
  · subst k
    have hm : may15 14 n a b call th t = false := by
      rw [Bool.eq_false_iff]
      exact fun e => h e rfl
    have cM := may_rwA n a b call th t _ (hO.step hB)
    rw [hm] at cM
    clear h hm hO hq
    go_enter Tryz.func24, Tryz.ntmps24
    go_wp2_with fail
    refine cM.mono ?_
    rintro e V0 ⟨rfl, hB0⟩
    have hB1 := step_below hB hB0
    clear cM q0 q1 q2 q3 hB hB0
    go_wp2
    go_ret2
    exact ⟨rfl, hB1⟩
  · have hk' : (k != 14) = true := by simp [hk]
    clear hk h hq hO
    go_enter Tryz.func24, Tryz.ntmps24
    go_wp2
    go_ret2
    exact ⟨rfl, hB⟩
theorem OutI.sleR {W W' : World} {v : Value} {l : List Ins} (h : OutI W v l W') : ∃ A c, v = .slice A l.length c ∧ SlE W' A l.length 5 (fun i => (l.getD i default).cells) := by
  obtain ⟨og, cap, cs, rfl, hb, hs, hl, hc, ho, hi⟩ := h
  refine ⟨_, _, rfl, fun _ => ⟨og, 0, rfl, hb.lt, fun i hii j u hu => ?_⟩⟩
  rw [Nat.zero_add]
  exact (hb.cell _).trans (hi i hii j u hu)
theorem refR_code (T : List TLn) (base t : Nat) (hb : base ≤ 65535) (ht : t ≤ 8) (hT : TOkR base t T) (w : World) :
    Calls Tryz.prog 26 #[.string (ba (tplT T)), .int .i64 (base : Int), .int .i64 (t : Int)] w fun e w' => (∃ A c, e = .returned (.tuple #[.slice A (codeT base t T).length c, .int .i64 1]) ∧ SlE w' A (codeT base t T).length 5 (fun i => ((codeT base t T).getD i default).cells)) ∧ Below w.heap.size w w' := by
  refine (r15_code T base t (by omega) (by omega) hT.pos hT.len hT.ok hT.good hT.once hT.there w).mono ?_
  rintro e w' ⟨⟨v, rfl, hr⟩, hB⟩
  obtain ⟨A, c, rfl, _, h⟩ := own_sle Ins.cells (fun _ => rfl) default _ hr
  exact ⟨⟨A, c, rfl, h⟩, hB⟩
theorem TOkR.codeLen {base t : Nat} {T : List TLn} (h : TOkR base t T) : (codeT base t T).length ≤ 1000 := by
  have h := h.good
  unfold goodB at h
  simp only [Bool.and_eq_true, decide_eq_true_eq] at h
  have h2 : ∀ (L l : List Ln), (fixL L l).length ≤ l.length := fun L l => List.length_filterMap_le _ _
  have := h2 (T.map (TLn.inst base t)) (T.map (TLn.inst base t))
  rw [List.length_map] at this
  unfold codeT
  omega
theorem may15_rw {n a b call th t : Int} (h : may15 14 n a b call th t = true) : (1 ≤ th ∧ th ≤ 8) ∧ (0 ≤ t ∧ t < th) ∧ n = 0 ∧ a = 0 ∧ b = 0 ∧ 1 ≤ call ∧ call ≤ 3 := by
  unfold may15 right14 may14 at h
  simp only [Bool.and_eq_true, decide_eq_true_eq] at h
  omega
structure RBoth (call th arg : Int) (t base : Nat) (T : List TLn) : Prop where
  ok : TOkR base t T
  code : ∀ W, Tab W → ONam W → Calls Tryz.prog 24 #[.agg #[.int .i64 14, .int .i64 0, .int .i64 0, .int .i64 0], .int .i64 call, .int .i64 th, .int .i64 (t : Int), .int .u32 (base : Int), .int .u32 arg] W fun e W' => (∃ v, e = .returned (.tuple #[v, .bool true]) ∧ OutI W v (codeT base t T) W') ∧ Below W.heap.size W W'
  text : ∀ w, Calls Tryz.prog 27 #[.int .i64 call, .int .i64 (t : Int), .int .i64 (base : Int)] w fun e w' => e = .returned (.string (ba (tplT T))) ∧ Below w.heap.size w w'
theorem rw_both (call th arg : Int) (t base : Nat) (hm : may15 14 0 0 0 call th t = true) (hb : base ≤ 65535) : ∃ T, RBoth call th arg t base T := by
  obtain ⟨hth, ht, _, _, _, hc⟩ := may15_rw hm
  have hb2 : 0 ≤ (base : Int) ∧ (base : Int) ≤ 4294960000 := by omega
  have ht2 : t ≤ 1000 := by omega
  have h3 : call = 1 ∨ call = 2 ∨ call = 3 := by omega
  rcases h3 with rfl | rfl | rfl
  · refine ⟨rWriteL (base + 1 + t), rWrite_ok base t _ (by omega), fun W hT hO => ?_, fun w => r22_write t base ht2 hb w⟩
    rw [rWrite_code]
    exact code_rwrite th base t arg hth ht hb2 W hT hO
  · refine ⟨rRelL (base + 1 + t), rRel_ok base t _ (by omega), fun W hT hO => ?_, fun w => r22_rel t base ht2 hb w⟩
    rw [rRel_code]
    exact code_rrel th base t arg hth ht hb2 W hT hO
  · refine ⟨rReadL (base + 1 + t), rRead_ok base t _ (by omega), fun W hT hO => ?_, fun w => r22_read t base ht2 hb w⟩
    rw [rRead_code]
    exact code_rread th base t arg hth ht hb2 W hT hO
end Go.Proofs.YtmhfpjnkjlhbpaaGreatDoor
