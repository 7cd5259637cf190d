/- The document's lines for layer 19 (plain): what they come to is the builder's code. -/
import Derived.Test.YtmhfpjnkjlhbpaaDoorTpl
import Derived.Test.YtmhfpjnkjlhbpaaDoorRefT8
import Derived.Test.YtmhfpjnkjlhbpaaDoorSeqCode
namespace Go.Proofs.YtmhfpjnkjlhbpaaDoor
open Go.ChangeShapes Go.WideShapes Go.ChangeAt Go.RowKit Go.Deep
set_option linter.unusedVariables false
set_option maxRecDepth 100000
set_option linter.unusedSimpArgs false

def Tp.r (i : Nat) : Tp := .tk (.reg i)
def Tp.n (i : Nat) : Tp := .tk (.num i)
def Tp.l (s : List UInt8) : Tp := .tk (.lab s)
/-- What an acquire begins with; the owner's word j. -/
def claimL (j : Nat) : List TLn := [.ins 16 [.r 4, .adr j], .ins 1 [.r 5, .who], .ins 12 [.r 6, .r 4, .r 5], .ins 14 [.r 6, .l n_free], .ins 1 [.r 7, .n 1], .ins 13 [.l n_end], .lab n_free]
def proveL (j : Nat) : List TLn := [.ins 16 [.r 4, .adr j], .ins 1 [.r 5, .who], .ins 12 [.r 6, .r 4, .r 5], .ins 15 [.r 6, .l n_mine], .ins 1 [.r 7, .n 2], .ins 13 [.l n_end], .lab n_mine]
def endL : List TLn := [.ins 1 [.r 7, .n 0], .lab n_end]
def sAcqL : List TLn := claimL 1 ++ [.lab n_spin, .ins 1 [.r 4, .n 0], .ins 21 [.r 4, .r 5, .adr 1], .ins 15 [.r 4, .l n_spin], .ins 1 [.r 4, .n 1], .ins 20 [.r 4, .adr 0]] ++ endL
def sRelL : List TLn := proveL 1 ++ [.ins 1 [.r 4, .n 1], .ins 20 [.r 4, .adr 0], .ins 1 [.r 4, .n 0], .ins 17 [.r 4, .adr 1]] ++ endL
def sPutL (a : Nat) : List TLn := proveL 1 ++ [.ins 17 [.r 0, .adr (2 + a)]] ++ endL
def sReadL (n : Nat) : List TLn := [.lab n_again, .ins 16 [.r 4, .adr 0], .ins 1 [.r 5, .n 1], .ins 6 [.r 6, .r 4, .r 5], .ins 15 [.r 6, .l n_again]] ++ (List.range n).map (fun i => TLn.ins 16 [.r i, .adr (2 + i)]) ++ [.ins 16 [.r 5, .adr 0], .ins 12 [.r 6, .r 4, .r 5], .ins 14 [.r 6, .l n_again]] ++ endL
theorem sAcq_code (base t : Nat) : codeT base t sAcqL = (((BB.e.claim ((base : Int) + 1) t).sbegin base).close).out := by kernel_rfl
theorem sRel_code (base t : Nat) : codeT base t sRelL = ((((BB.e.prove ((base : Int) + 1) t).smore base).zero ((base : Int) + 1)).close).out := by kernel_rfl
theorem sPut_code0 (base t : Nat) : codeT base t (sPutL 0) = ((((BB.e.prove ((base : Int) + 1) t).ins ⟨17, 0, 8, 0, (base : Int) + 2 + ((0 : Nat) : Int)⟩)).close).out := by kernel_rfl
theorem sPut_code1 (base t : Nat) : codeT base t (sPutL 1) = ((((BB.e.prove ((base : Int) + 1) t).ins ⟨17, 0, 8, 0, (base : Int) + 2 + ((1 : Nat) : Int)⟩)).close).out := by kernel_rfl
theorem sPut_code2 (base t : Nat) : codeT base t (sPutL 2) = ((((BB.e.prove ((base : Int) + 1) t).ins ⟨17, 0, 8, 0, (base : Int) + 2 + ((2 : Nat) : Int)⟩)).close).out := by kernel_rfl
theorem sRead_code1 (base t : Nat) : codeT base t (sReadL 1) = ((BB.e.sread (base : Int) 1).close).out := by kernel_rfl
theorem sRead_code2 (base t : Nat) : codeT base t (sReadL 2) = ((BB.e.sread (base : Int) 2).close).out := by kernel_rfl
theorem sRead_code3 (base t : Nat) : codeT base t (sReadL 3) = ((BB.e.sread (base : Int) 3).close).out := by kernel_rfl
theorem sPut_code (base t a : Nat) (ha : a < 3) : codeT base t (sPutL a) = ((((BB.e.prove ((base : Int) + 1) t).ins ⟨17, 0, 8, 0, (base : Int) + 2 + (a : Int)⟩)).close).out := by
  match a, ha with
  | 0, _ => exact sPut_code0 base t
  | 1, _ => exact sPut_code1 base t
  | 2, _ => exact sPut_code2 base t
theorem sRead_code (base t n : Nat) (hn : 1 ≤ n ∧ n ≤ 3) : codeT base t (sReadL n) = ((BB.e.sread (base : Int) n).close).out := by
  match n, hn with
  | 1, _ => exact sRead_code1 base t
  | 2, _ => exact sRead_code2 base t
  | 3, _ => exact sRead_code3 base t
/-- A good text with gaps. -/
structure TOk (base t : Nat) (T : List TLn) : Prop where
  pos : 0 < (tplT T).length
  len : (tplT T).length ≤ 2000
  ok : T.all TLn.okB = true
  good : goodB T = true
  once : onceB (T.map (TLn.inst base t)) = true
  there : thereB (T.map (TLn.inst base t)) = true
theorem sAcq_ok (base t : Nat) : TOk base t sAcqL := ⟨by decide +kernel, by decide +kernel, by kernel_rfl, by kernel_rfl, by kernel_rfl, by kernel_rfl⟩
theorem sRel_ok (base t : Nat) : TOk base t sRelL := ⟨by decide +kernel, by decide +kernel, by kernel_rfl, by kernel_rfl, by kernel_rfl, by kernel_rfl⟩
theorem sPut_ok (base t a : Nat) (ha : a < 3) : TOk base t (sPutL a) := by
  have : a = 0 ∨ a = 1 ∨ a = 2 := by omega
  rcases this with rfl | rfl | rfl <;> exact ⟨by decide +kernel, by decide +kernel, by kernel_rfl, by kernel_rfl, by kernel_rfl, by kernel_rfl⟩
theorem sRead_ok (base t n : Nat) (hn : 1 ≤ n ∧ n ≤ 3) : TOk base t (sReadL n) := by
  have : n = 1 ∨ n = 2 ∨ n = 3 := by omega
  rcases this with rfl | rfl | rfl <;> exact ⟨by decide +kernel, by decide +kernel, by kernel_rfl, by kernel_rfl, by kernel_rfl, by kernel_rfl⟩
end Go.Proofs.YtmhfpjnkjlhbpaaDoor
