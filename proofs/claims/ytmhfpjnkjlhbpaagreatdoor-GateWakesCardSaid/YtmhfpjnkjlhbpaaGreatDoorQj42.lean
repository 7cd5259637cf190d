/- What is learned of an even script's row. -/
import Derived.Test.YtmhfpjnkjlhbpaaGreatDoorQj41
import Derived.Test.YtmhfpjnkjlhbpaaGreatDoorQj35
import Derived.Test.YtmhfpjnkjlhbpaaGreatDoorQj31
namespace Go.Proofs.YtmhfpjnkjlhbpaaGreatDoor
open Go.ChangeShapes Go.WideShapes Go.ChangeAt Go.RowKit Go.Deep
set_option linter.unusedVariables false
set_option maxRecDepth 100000
set_option linter.unusedSimpArgs false
theorem own_picks {w:World} {base n:Nat} {v:Value} {L:List Pk} (h:w.ownsRow base 78 2 v n (L.flatMap pkE)) (hn:L.length=n): ∃A cap,v= .slice A n cap/\n<=cap/\SlE w A n 2 (fun i=>pkE (L.getD i (0,0))):=by
 subst hn
 obtain ⟨A,cap,h1,h2,h3⟩:=own_sle pkE (fun _=>rfl) (0,0) L h
 exact ⟨A,cap,h1,h2,h3⟩
theorem read_picks {w w':World} {len:Nat} {cs:Array Value} {Z:Nat->Int} (h:Blk w' w.heap.size 78 cs) (hc: ∀i,i<len->cs[i*2]?=some (.int .i64 (Z i/8 % 3))/\cs[i*2+1]?=some (.int .i64 (Z i % 8))):
 SlE w' (some ⟨w.heap.size,0,none⟩) len 2 (fun i=>pkE (Z i/8 % 3,Z i % 8)):=fun _=>
 ⟨w.heap.size,0,rfl,h.lt,fun i hi j u hu=>by
  have hj:j<2:=(List.getElem?_eq_some_iff.1 hu).1
  obtain ⟨h0,h1⟩:=hc i hi
  rw [Nat.zero_add,h.cell]
  rcases (by omega:j=0∨j=1)with rfl|rfl
  ·rw [Nat.add_zero,h0];exact hu
  ·rw [h1];exact hu⟩
end Go.Proofs.YtmhfpjnkjlhbpaaGreatDoor
