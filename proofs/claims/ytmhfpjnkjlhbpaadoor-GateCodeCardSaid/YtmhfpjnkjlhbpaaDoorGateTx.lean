/- The document's lines for layer 21 (plain): what they come to is the builder's code. -/
import Derived.Test.YtmhfpjnkjlhbpaaDoorSeqT
import Derived.Test.YtmhfpjnkjlhbpaaDoorGateB
namespace Go.Proofs.YtmhfpjnkjlhbpaaDoor
open Go.ChangeShapes Go.WideShapes Go.ChangeAt Go.RowKit Go.Deep
set_option linter.unusedVariables false
set_option maxRecDepth 100000
set_option linter.unusedSimpArgs false

def BB.gmore (b : BB) (a : Int) : BB := (b.ins ⟨1, 4, 0, 0, 1⟩).ins ⟨20, 4, 8, 0, a⟩
def BB.gtick (b : BB) (base own : Int) : BB := ((b.ins ⟨16, 4, 8, 0, base⟩).ins ⟨17, 4, 8, 0, own⟩).close
def BB.gslp (b : BB) (base own : Int) : BB := ((b.ins ⟨16, 4, 8, 0, own⟩).ins ⟨23, 4, 8, 0, base⟩).close
def BB.gsig (b : BB) (base k : Int) : BB := ((b.gmore base).wake k base).close
def BB.gmeet (b : BB) (base k : Int) : BB := b |>.ins ⟨16, 5, 8, 0, base + 1⟩ |>.gmore base |>.ins ⟨1, 6, 0, 0, k⟩ |>.ins ⟨12, 6, 4, 6, 0⟩ |>.go 14 6 n_look |>.zero base |>.gmore (base + 1) |>.wake 4294967295 (base + 1) |>.go 13 0 n_done |>.at n_look |>.ins ⟨16, 4, 8, 0, base + 1⟩ |>.ins ⟨12, 6, 4, 5, 0⟩ |>.go 14 6 n_done |>.ins ⟨2, 4, 5, 0, 0⟩ |>.ins ⟨23, 4, 8, 0, base + 1⟩ |>.go 13 0 n_look |>.at n_done |>.close
def Tp.m (n : Nat) : Tp := .tk (.mem n)
def allL : TLn := .ins 1 [.r 4, .n 4294967295]
def gTickL (own : Nat) : List TLn := [.ins 16 [.r 4, .adr 0], .ins 17 [.r 4, .m own]] ++ endL
def gSlpL (own : Nat) : List TLn := [.ins 16 [.r 4, .m own], .ins 23 [.r 4, .adr 0]] ++ endL
def gSigL : List TLn := [.ins 1 [.r 4, .n 1], .ins 20 [.r 4, .adr 0], .ins 1 [.r 4, .n 1], .ins 24 [.r 4, .adr 0]] ++ endL
def gBroL : List TLn := [.ins 1 [.r 4, .n 1], .ins 20 [.r 4, .adr 0], allL, .ins 24 [.r 4, .adr 0]] ++ endL
def gStrL : List TLn := [.ins 1 [.r 7, .n 4]]
def gOvrL : List TLn := [.ins 1 [.r 7, .n 3]]
def gMeetL (n : Nat) : List TLn := [.ins 16 [.r 5, .adr 1], .ins 1 [.r 4, .n 1], .ins 20 [.r 4, .adr 0], .ins 1 [.r 6, .n (n - 1)], .ins 12 [.r 6, .r 4, .r 6], .ins 14 [.r 6, .l n_look], .ins 1 [.r 4, .n 0], .ins 17 [.r 4, .adr 0], .ins 1 [.r 4, .n 1], .ins 20 [.r 4, .adr 1], allL, .ins 24 [.r 4, .adr 1], .ins 13 [.l n_done], .lab n_look, .ins 16 [.r 4, .adr 1], .ins 12 [.r 6, .r 4, .r 5], .ins 14 [.r 6, .l n_done], .ins 2 [.r 4, .r 5], .ins 23 [.r 4, .adr 1], .ins 13 [.l n_look], .lab n_done] ++ endL
def gEntL : List TLn := claimL 1 ++ [.lab n_again, .ins 16 [.r 4, .adr 0], .ins 1 [.r 6, .n 2], .ins 12 [.r 6, .r 4, .r 6], .ins 15 [.r 6, .l n_done], .ins 1 [.r 4, .n 0], .ins 1 [.r 6, .n 1], .ins 21 [.r 4, .r 6, .adr 0], .ins 14 [.r 4, .l n_yours], .ins 1 [.r 6, .n 1], .ins 12 [.r 6, .r 4, .r 6], .ins 14 [.r 6, .l n_again], .ins 23 [.r 4, .adr 0], .ins 13 [.l n_again], .lab n_yours, .ins 17 [.r 5, .adr 1], .ins 1 [.r 7, .n 5], .ins 13 [.l n_end], .lab n_done] ++ endL
def gDonL : List TLn := proveL 1 ++ [.ins 1 [.r 4, .n 0], .ins 17 [.r 4, .adr 1], .ins 1 [.r 4, .n 2], .ins 19 [.r 4, .adr 0], allL, .ins 24 [.r 4, .adr 0]] ++ endL
theorem gTick_code (base t own : Nat) : codeT base t (gTickL own) = (BB.e.gtick (base : Int) (own : Int)).out := by kernel_rfl
theorem gSlp_code (base t own : Nat) : codeT base t (gSlpL own) = (BB.e.gslp (base : Int) (own : Int)).out := by kernel_rfl
theorem gSig_code (base t : Nat) : codeT base t gSigL = (BB.e.gsig (base : Int) 1).out := by kernel_rfl
theorem gBro_code (base t : Nat) : codeT base t gBroL = (BB.e.gsig (base : Int) 4294967295).out := by kernel_rfl
theorem gStr_code (base t : Nat) : codeT base t gStrL = (BB.e.ins ⟨1, 7, 0, 0, 4⟩).out := by kernel_rfl
theorem gOvr_code (base t : Nat) : codeT base t gOvrL = (BB.e.ins ⟨1, 7, 0, 0, 3⟩).out := by kernel_rfl
theorem gMeet_code (base t m : Nat) : codeT base t (gMeetL (m + 1)) = (BB.e.gmeet (base : Int) (m : Int)).out := by kernel_rfl
theorem gEnt_code (base t : Nat) : codeT base t gEntL = (BB.genter BB.e (base : Int) (t : Int)).out := by kernel_rfl
theorem gDon_code (base t : Nat) : codeT base t gDonL = (BB.gdone BB.e (base : Int) (t : Int)).out := by kernel_rfl
theorem gSig_ok (base t : Nat) : TOk base t gSigL := ⟨by decide +kernel, by decide +kernel, by kernel_rfl, by kernel_rfl, by kernel_rfl, by kernel_rfl⟩
theorem gBro_ok (base t : Nat) : TOk base t gBroL := ⟨by decide +kernel, by decide +kernel, by kernel_rfl, by kernel_rfl, by kernel_rfl, by kernel_rfl⟩
theorem gStr_ok (base t : Nat) : TOk base t gStrL := ⟨by decide +kernel, by decide +kernel, by kernel_rfl, by kernel_rfl, by kernel_rfl, by kernel_rfl⟩
theorem gOvr_ok (base t : Nat) : TOk base t gOvrL := ⟨by decide +kernel, by decide +kernel, by kernel_rfl, by kernel_rfl, by kernel_rfl, by kernel_rfl⟩
theorem gEnt_ok (base t : Nat) : TOk base t gEntL := ⟨by decide +kernel, by decide +kernel, by kernel_rfl, by kernel_rfl, by kernel_rfl, by kernel_rfl⟩
theorem gDon_ok (base t : Nat) : TOk base t gDonL := ⟨by decide +kernel, by decide +kernel, by kernel_rfl, by kernel_rfl, by kernel_rfl, by kernel_rfl⟩
theorem gMeet_ok (base t n : Nat) (hn : 1 ≤ n ∧ n ≤ 8) : TOk base t (gMeetL n) := by
  match n, hn with
  | 1, _ | 2, _ | 3, _ | 4, _ | 5, _ | 6, _ | 7, _ | 8, _ => exact ⟨by decide +kernel, by decide +kernel, by kernel_rfl, by kernel_rfl, by kernel_rfl, by kernel_rfl⟩
theorem gTick_ok (base t own : Nat) (h : own ≤ 4294967295) : TOk base t (gTickL own) := by
  have hd : decide (own ≤ 4294967295) = true := decide_eq_true h
  have hl := numL_ten h
  have hf : fitB (flB 17) [Tp.r 4, Tp.m own] = decide (own ≤ 4294967295) := by kernel_rfl
  rw [hd] at hf
  refine ⟨?_, ?_, ?_, ?_, by kernel_rfl, by kernel_rfl⟩
  · show 0 < (nmB 16 ++ _).length; rw [List.length_append]; have : (nmB 16).length = 4 := by decide +kernel
    omega
  · simp [tplT, gTickL, endL, TLn.txt, Tp.txt, Tk.txt, Tp.m, Tp.r, Tp.n, numL_lt]
    have e1 : (nmB 16).length = 4 := by decide +kernel
    have e2 : (nmB 17).length ≤ 11 := by decide +kernel
    have e3 : (nmB 1).length = 3 := by decide +kernel
    have e4 : n_end.length = 3 := by decide +kernel
    omega
  · simp [gTickL, endL, TLn.okB, Tp.okB, Tp.m, Tp.r, Tp.n, h]; decide +kernel
  · unfold goodB; simp [gTickL, endL, hf]; decide +kernel
theorem gSlp_ok (base t own : Nat) (h : own ≤ 4294967295) : TOk base t (gSlpL own) := by
  have hd : decide (own ≤ 4294967295) = true := decide_eq_true h
  have hl := numL_ten h
  have hf : fitB (flB 16) [Tp.r 4, Tp.m own] = decide (own ≤ 4294967295) := by kernel_rfl
  rw [hd] at hf
  refine ⟨?_, ?_, ?_, ?_, by kernel_rfl, by kernel_rfl⟩
  · show 0 < (nmB 16 ++ _).length; rw [List.length_append]; have : (nmB 16).length = 4 := by decide +kernel
    omega
  · simp [tplT, gSlpL, endL, TLn.txt, Tp.txt, Tk.txt, Tp.m, Tp.r, Tp.n, numL_lt]
    have e1 : (nmB 16).length = 4 := by decide +kernel
    have e2 : (nmB 23).length ≤ 11 := by decide +kernel
    have e3 : (nmB 1).length = 3 := by decide +kernel
    have e4 : n_end.length = 3 := by decide +kernel
    omega
  · simp [gSlpL, endL, TLn.okB, Tp.okB, Tp.m, Tp.r, Tp.n, h]; decide +kernel
  · unfold goodB; simp [gSlpL, endL, hf]; decide +kernel
end Go.Proofs.YtmhfpjnkjlhbpaaDoor
