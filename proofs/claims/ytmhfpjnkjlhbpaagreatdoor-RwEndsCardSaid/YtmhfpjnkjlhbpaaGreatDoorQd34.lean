/- rw (plain): the codes of law22's programs, as they are put together. -/
import Derived.Test.YtmhfpjnkjlhbpaaGreatDoorQd28
import Derived.Test.YtmhfpjnkjlhbpaaGreatDoorQd33
namespace Go.Proofs.YtmhfpjnkjlhbpaaGreatDoor
open Go.ChangeShapes Go.WideShapes Go.ChangeAt Go.RowKit Go.Deep
set_option linter.unusedVariables false
set_option maxRecDepth 100000
set_option linter.unusedSimpArgs false
def wriO (t:Nat):List Ins:=(BB.rwrite BB.e 16 (16+1+(t:Int))).out
def reaO (t:Nat):List Ins:=(BB.rread BB.e 16 (16+1+(t:Int))).out
def rerO (t:Nat):List Ins:=(BB.rrel BB.e 16 (16+1+(t:Int))).out
theorem wri_out (t:Nat):wriO t=[⟨16,4,8,0,16+1+(t:Int)⟩,⟨14,4,0,0,4⟩,⟨1,7,0,0,1⟩,⟨13,0,0,0,13⟩,⟨1,4,0,0,0⟩,⟨1,5,0,0,4294967295⟩,⟨21,4,8,5,16⟩,⟨14,4,0,0,10⟩,⟨23,4,8,0,16⟩,⟨13,0,0,0,4⟩,⟨1,4,0,0,2⟩,⟨17,4,8,0,16+1+(t:Int)⟩,⟨1,7,0,0,0⟩]:=by kernel_rfl
theorem rea_out (t:Nat):reaO t=[⟨16,4,8,0,16+1+(t:Int)⟩,⟨14,4,0,0,4⟩,⟨1,7,0,0,1⟩,⟨13,0,0,0,20⟩,⟨16,4,8,0,16⟩,⟨1,5,0,0,4294967295⟩,⟨12,6,4,5,0⟩,⟨15,6,0,0,18⟩,⟨1,5,0,0,1⟩,⟨3,5,4,5,0⟩,⟨2,6,4,0,0⟩,⟨21,4,8,5,16⟩,⟨12,6,4,6,0⟩,⟨14,6,0,0,4⟩,⟨1,4,0,0,1⟩,⟨17,4,8,0,16+1+(t:Int)⟩,⟨1,7,0,0,0⟩,⟨13,0,0,0,20⟩,⟨23,4,8,0,16⟩,⟨13,0,0,0,4⟩]:=by kernel_rfl
theorem rer_out (t:Nat):rerO t=[⟨16,4,8,0,16+1+(t:Int)⟩,⟨15,4,0,0,4⟩,⟨1,7,0,0,2⟩,⟨13,0,0,0,20⟩,⟨1,5,0,0,1⟩,⟨12,6,4,5,0⟩,⟨1,4,0,0,0⟩,⟨17,4,8,0,16+1+(t:Int)⟩,⟨15,6,0,0,12⟩,⟨1,4,0,0,0⟩,⟨19,4,8,0,16⟩,⟨13,0,0,0,17⟩,⟨1,4,0,0,4294967295⟩,⟨20,4,8,0,16⟩,⟨1,5,0,0,1⟩,⟨12,6,4,5,0⟩,⟨14,6,0,0,19⟩,⟨1,4,0,0,4294967295⟩,⟨24,4,8,0,16⟩,⟨1,7,0,0,0⟩]:=by kernel_rfl
theorem wri_ok (t:Nat) (ht:t<=8):(wriO t).length=13/\ ∀x∈wriO t,x.Ok:=by
 rw [wri_out]
 refine ⟨rfl,fun x hx=>?_⟩
 simp only [List.mem_cons,List.not_mem_nil,or_false]at hx
 rcases hx with rfl|rfl|rfl|rfl|rfl|rfl|rfl|rfl|rfl|rfl|rfl|rfl|rfl<;>exact insOk (by omega)
theorem rea_ok (t:Nat) (ht:t<=8):(reaO t).length=20/\ ∀x∈reaO t,x.Ok:=by
 rw [rea_out]
 refine ⟨rfl,fun x hx=>?_⟩
 simp only [List.mem_cons,List.not_mem_nil,or_false]at hx
 rcases hx with rfl|rfl|rfl|rfl|rfl|rfl|rfl|rfl|rfl|rfl|rfl|rfl|rfl|rfl|rfl|rfl|rfl|rfl|rfl|rfl<;>exact insOk (by omega)
theorem rer_ok (t:Nat) (ht:t<=8):(rerO t).length=20/\ ∀x∈rerO t,x.Ok:=by
 rw [rer_out]
 refine ⟨rfl,fun x hx=>?_⟩
 simp only [List.mem_cons,List.not_mem_nil,or_false]at hx
 rcases hx with rfl|rfl|rfl|rfl|rfl|rfl|rfl|rfl|rfl|rfl|rfl|rfl|rfl|rfl|rfl|rfl|rfl|rfl|rfl|rfl<;>exact insOk (by omega)
def callR (site L:Nat) (C:List Ins):List Ins:=⟨27,7,0,0,2*(site:Int)⟩::(C.map (movedI ((L:Int)+1))++[⟨27,7,0,0,2*(site:Int)+1⟩])
theorem wr_round (t L:Nat) (hL:L<=4000):(wrL t L).map Op.ins=callR 0 L (wriO t)++[⟨16,1,8,0,0⟩,⟨1,2,0,0,1⟩,⟨3,1,1,2,0⟩,⟨17,1,8,0,0⟩]++callR 1 (L+19) (rerO t):=by
 unfold callR
 rw [wri_out,rer_out]
 simp [wrL,Op.ins,movedI,jmpB,aluF_add]
 omega
theorem rd_round (t L:Nat) (hL:L<=4000):(rdL t L).map Op.ins=callR 2 L (reaO t)++[⟨16,1,8,0,0⟩,⟨22,1,0,0,0⟩,⟨16,1,8,0,0⟩,⟨22,1,0,0,0⟩]++callR 1 (L+26) (rerO t):=by
 unfold callR
 rw [rea_out,rer_out]
 simp [rdL,Op.ins,movedI,jmpB,aluF_add]
 omega
theorem rwT_len (t:Nat) (kd:Nat->Bool) (n:Nat):(rwT t kd n).length=rwB kd n:=by
 unfold rwT
 rw [List.length_map]
 exact codeOf_len rfl (fun n _=>by rw [rwRd_len];rfl)
theorem rwT_succ (t:Nat) (kd:Nat->Bool) (n:Nat):rwT t kd (n+1)=rwT t kd n++(rwRd t (kd n) (rwB kd n)).map Op.ins:=by
 unfold rwT
 rw [codeOf_succ,List.map_append]
theorem rwT_small (t:Nat) (kd:Nat->Bool) {n:Nat} (hn:n<=4):(rwT t kd n).length<=192:=by
 rw [rwT_len]
 have :=rwB_le kd n
 omega
theorem rwT_wr {t:Nat} {kd:Nat->Bool} {n:Nat} (hn:n<4) (hk:kd n=true):rwT t kd (n+1)=rwT t kd n++callR 0 (rwT t kd n).length (wriO t)++[⟨16,1,8,0,0⟩,⟨1,2,0,0,1⟩,⟨3,1,1,2,0⟩,⟨17,1,8,0,0⟩]++callR 1 ((rwT t kd n).length+19) (rerO t):=by
 have hs:=rwT_small t kd (show n<=4 by omega)
 rw [rwT_len]at hs⊢
 rw [rwT_succ]
 unfold rwRd
 rw [hk,if_pos rfl,wr_round _ _ (by omega)]
 simp only [List.append_assoc]
theorem rwT_rd {t:Nat} {kd:Nat->Bool} {n:Nat} (hn:n<4) (hk:kd n=false):rwT t kd (n+1)=rwT t kd n++callR 2 (rwT t kd n).length (reaO t)++[⟨16,1,8,0,0⟩,⟨22,1,0,0,0⟩,⟨16,1,8,0,0⟩,⟨22,1,0,0,0⟩]++callR 1 ((rwT t kd n).length+26) (rerO t):=by
 have hs:=rwT_small t kd (show n<=4 by omega)
 rw [rwT_len]at hs⊢
 rw [rwT_succ]
 unfold rwRd
 rw [hk,if_neg (by decide),rd_round _ _ (by omega)]
 simp only [List.append_assoc]
end Go.Proofs.YtmhfpjnkjlhbpaaGreatDoor
