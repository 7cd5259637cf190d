/- alu.Do at every op. core.Address. core.run.plain. core.run.asks. core.run.asks and plain at any op. -/
import Derived.Test.YtmhfpjnkjlhbpaaGreatDoorQd01
import Derived.Laws.EntriesVeiled
import Derived.Test.YtmhfpjnkjlhbpaaGreatDoorQd09
namespace Go.Proofs.YtmhfpjnkjlhbpaaGreatDoor
open Go.ChangeShapes Go.WideShapes Go.ChangeAt Go.RowKit
set_option linter.unusedVariables false
set_option maxRecDepth 100000
set_option linter.unusedSimpArgs false
open List renaming getElem_toArray->zA,getElem_cons_zero->zB,getElem_cons_succ->zC,setIfInBounds_toArray->zD,set_cons_zero->zE,set_cons_succ->zF
def aluF (op:Nat) (a b:Int):Int:=
 if op=3 then (a+b)% 4294967296
 else if op=4 then (a-b)% 4294967296
 else if op=5 then a*b % 4294967296
 else if op=6 then bits .and .u32 a b
 else if op=7 then bits .or .u32 a b
 else if op=8 then bits .xor .u32 a b
 else if op=9 then a*2^(b % 32).toNat % 4294967296
 else if op=10 then a/2^(b % 32).toNat
 else if op=11 then (if a<b then 1 else 0)
 else if op=12 then (if a=b then 1 else 0)
 else 0
theorem aluF_add (a b:Int):aluF 3 a b=(a+b)% 4294967296:=rfl
theorem aluF_less (a b:Int):aluF 11 a b=(if a<b then 1 else 0):=rfl
theorem aluF_same (a b:Int):aluF 12 a b=(if a=b then 1 else 0):=rfl
theorem alu_is (op:Int) (w:World):Calls Tryz.prog 115 #[.int .i64 op] w fun e w'=>e= .returned (.bool (decide (3<=op/\op<=12)))/\w=w':=by
 by_cases h:3<=op
 ·by_cases h2:op<=12
  ·rw [decide_eq_true (⟨h,h2⟩:3<=op/\op<=12)]
   go_enter Tryz.func115,Tryz.ntmps115
   go_wp2
   go_ret
   exact ⟨rfl,rfl⟩
  ·rw [decide_eq_false (fun h':3<=op/\op<=12=>h2 h'.2)]
   go_enter Tryz.func115,Tryz.ntmps115
   go_wp2
   go_ret
   exact ⟨rfl,rfl⟩
 ·rw [decide_eq_false (fun h':3<=op/\op<=12=>h h'.1)]
  go_enter Tryz.func115,Tryz.ntmps115
  go_wp2
  go_ret
  exact ⟨rfl,rfl⟩
theorem abit_any (q:Bool) (w:World):Calls Tryz.prog 145 #[.bool q] w fun e w'=>e= .returned (.int .u32 (if q=true then 1 else 0))/\w=w':=by
 cases q
 ·go_enter Tryz.func145,Tryz.ntmps145
  go_wp2
  go_ret
  exact ⟨rfl,rfl⟩
 ·go_enter Tryz.func145,Tryz.ntmps145
  go_wp2
  go_ret
  exact ⟨rfl,rfl⟩
theorem word_add (a b:Int) (h0:0<=b) (h1:b<=4294967295) (w:World):Calls Tryz.prog 116 #[.int .u32 a,.int .u32 b] w fun e w'=>e= .returned (.int .u32 (aluF 3 a b))/\w=w':=by
 go_enter Tryz.func116,Tryz.ntmps116
 go_wp2
 go_ret
 exact ⟨rfl,rfl⟩
theorem word_sub (a b:Int) (h0:0<=b) (h1:b<=4294967295) (w:World):Calls Tryz.prog 117 #[.int .u32 a,.int .u32 b] w fun e w'=>e= .returned (.int .u32 (aluF 4 a b))/\w=w':=by
 go_enter Tryz.func117,Tryz.ntmps117
 go_wp2
 go_ret
 exact ⟨rfl,rfl⟩
theorem word_mul (a b:Int) (h0:0<=b) (h1:b<=4294967295) (w:World):Calls Tryz.prog 118 #[.int .u32 a,.int .u32 b] w fun e w'=>e= .returned (.int .u32 (aluF 5 a b))/\w=w':=by
 go_enter Tryz.func118,Tryz.ntmps118
 go_wp2
 go_ret
 exact ⟨rfl,rfl⟩
theorem word_and (a b:Int) (h0:0<=b) (h1:b<=4294967295) (w:World):Calls Tryz.prog 119 #[.int .u32 a,.int .u32 b] w fun e w'=>e= .returned (.int .u32 (aluF 6 a b))/\w=w':=by
 go_enter Tryz.func119,Tryz.ntmps119
 go_wp2
 go_ret
 exact ⟨rfl,rfl⟩
theorem word_or (a b:Int) (h0:0<=b) (h1:b<=4294967295) (w:World):Calls Tryz.prog 120 #[.int .u32 a,.int .u32 b] w fun e w'=>e= .returned (.int .u32 (aluF 7 a b))/\w=w':=by
 go_enter Tryz.func120,Tryz.ntmps120
 go_wp2
 go_ret
 exact ⟨rfl,rfl⟩
theorem word_xor (a b:Int) (h0:0<=b) (h1:b<=4294967295) (w:World):Calls Tryz.prog 121 #[.int .u32 a,.int .u32 b] w fun e w'=>e= .returned (.int .u32 (aluF 8 a b))/\w=w':=by
 go_enter Tryz.func121,Tryz.ntmps121
 go_wp2
 go_ret
 exact ⟨rfl,rfl⟩
theorem word_shl (a b:Int) (h0:0<=b) (h1:b<=4294967295) (w:World):Calls Tryz.prog 122 #[.int .u32 a,.int .u32 b] w fun e w'=>e= .returned (.int .u32 (aluF 9 a b))/\w=w':=by
 go_enter Tryz.func122,Tryz.ntmps122
 go_wp2
 go_ret
 exact ⟨rfl,rfl⟩
theorem word_shr (a b:Int) (h0:0<=b) (h1:b<=4294967295) (w:World):Calls Tryz.prog 123 #[.int .u32 a,.int .u32 b] w fun e w'=>e= .returned (.int .u32 (aluF 10 a b))/\w=w':=by
 go_enter Tryz.func123,Tryz.ntmps123
 go_wp2
 go_ret
 exact ⟨rfl,rfl⟩
theorem word_less (a b:Int) (h0:0<=b) (h1:b<=4294967295) (w:World):Calls Tryz.prog 124 #[.int .u32 a,.int .u32 b] w fun e w'=>e= .returned (.int .u32 (aluF 11 a b))/\w=w':=by
 by_cases h:a<b
 ·have e1:aluF 11 a b=1:=by rw [aluF_less,if_pos h]
  have hb:decide (a<b)=true:=by simpa using h
  have HE:=Lib.hid e1
  clear h e1
  go_enter Tryz.func124,Tryz.ntmps124
  go_wp2_with fail
  refine (abit_any true _).mono ?_
  rintro e w1 ⟨rfl,rfl⟩
  go_wp2
  go_ret
  exact ⟨by rw [HE.out];rfl,rfl⟩
 ·have e1:aluF 11 a b=0:=by rw [aluF_less,if_neg h]
  have hb:decide (a<b)=false:=by simpa using h
  have HE:=Lib.hid e1
  clear h e1
  go_enter Tryz.func124,Tryz.ntmps124
  go_wp2_with fail
  refine (abit_any false _).mono ?_
  rintro e w1 ⟨rfl,rfl⟩
  go_wp2
  go_ret
  exact ⟨by rw [HE.out];rfl,rfl⟩
theorem word_same (a b:Int) (h0:0<=b) (h1:b<=4294967295) (w:World):Calls Tryz.prog 125 #[.int .u32 a,.int .u32 b] w fun e w'=>e= .returned (.int .u32 (aluF 12 a b))/\w=w':=by
 by_cases h:a=b
 ·have e1:aluF 12 a b=1:=by rw [aluF_same,if_pos h]
  have hb:(a==b)=true:=by simpa using h
  have HE:=Lib.hid e1
  clear h e1
  go_enter Tryz.func125,Tryz.ntmps125
  go_wp2_with fail
  refine (abit_any true _).mono ?_
  rintro e w1 ⟨rfl,rfl⟩
  go_wp2
  go_ret
  exact ⟨by rw [HE.out];rfl,rfl⟩
 ·have e1:aluF 12 a b=0:=by rw [aluF_same,if_neg h]
  have hb:(a==b)=false:=by simpa using h
  have HE:=Lib.hid e1
  clear h e1
  go_enter Tryz.func125,Tryz.ntmps125
  go_wp2_with fail
  refine (abit_any false _).mono ?_
  rintro e w1 ⟨rfl,rfl⟩
  go_wp2
  go_ret
  exact ⟨by rw [HE.out];rfl,rfl⟩
theorem do_3 (a b:Int) (h0:0<=b) (h1:b<=4294967295) (w:World):Calls Tryz.prog 73 #[.int .i64 3,.int .u32 a,.int .u32 b] w fun e w'=>e= .returned (.tuple #[.int .u32 (aluF 3 a b),.bool true])/\Below w.heap.size w w':=by
 have hw:=fun w'=>word_add a b h0 h1 w'
 generalize aluF 3 a b=r at hw⊢
 go_enter Tryz.func73,Tryz.ntmps73
 go_wp2_with fail
 refine (alu_is 3 _).mono ?_
 rintro e w' ⟨rfl,rfl⟩
 go_wp2_with fail
 refine (hw _).mono ?_
 rintro e w1 ⟨rfl,rfl⟩
 go_wp2
 go_ret2
 exact ⟨rfl,(Below.refl _ _).alloc (Nat.le_refl _) _⟩
theorem do_4 (a b:Int) (h0:0<=b) (h1:b<=4294967295) (w:World):Calls Tryz.prog 73 #[.int .i64 4,.int .u32 a,.int .u32 b] w fun e w'=>e= .returned (.tuple #[.int .u32 (aluF 4 a b),.bool true])/\Below w.heap.size w w':=by
 have hw:=fun w'=>word_sub a b h0 h1 w'
 generalize aluF 4 a b=r at hw⊢
 go_enter Tryz.func73,Tryz.ntmps73
 go_wp2_with fail
 refine (alu_is 4 _).mono ?_
 rintro e w' ⟨rfl,rfl⟩
 go_wp2_with fail
 refine (hw _).mono ?_
 rintro e w1 ⟨rfl,rfl⟩
 go_wp2
 go_ret2
 exact ⟨rfl,(Below.refl _ _).alloc (Nat.le_refl _) _⟩
theorem do_5 (a b:Int) (h0:0<=b) (h1:b<=4294967295) (w:World):Calls Tryz.prog 73 #[.int .i64 5,.int .u32 a,.int .u32 b] w fun e w'=>e= .returned (.tuple #[.int .u32 (aluF 5 a b),.bool true])/\Below w.heap.size w w':=by
 have hw:=fun w'=>word_mul a b h0 h1 w'
 generalize aluF 5 a b=r at hw⊢
 go_enter Tryz.func73,Tryz.ntmps73
 go_wp2_with fail
 refine (alu_is 5 _).mono ?_
 rintro e w' ⟨rfl,rfl⟩
 go_wp2_with fail
 refine (hw _).mono ?_
 rintro e w1 ⟨rfl,rfl⟩
 go_wp2
 go_ret2
 exact ⟨rfl,(Below.refl _ _).alloc (Nat.le_refl _) _⟩
theorem do_6 (a b:Int) (h0:0<=b) (h1:b<=4294967295) (w:World):Calls Tryz.prog 73 #[.int .i64 6,.int .u32 a,.int .u32 b] w fun e w'=>e= .returned (.tuple #[.int .u32 (aluF 6 a b),.bool true])/\Below w.heap.size w w':=by
 have hw:=fun w'=>word_and a b h0 h1 w'
 generalize aluF 6 a b=r at hw⊢
 go_enter Tryz.func73,Tryz.ntmps73
 go_wp2_with fail
 refine (alu_is 6 _).mono ?_
 rintro e w' ⟨rfl,rfl⟩
 go_wp2_with fail
 refine (hw _).mono ?_
 rintro e w1 ⟨rfl,rfl⟩
 go_wp2
 go_ret2
 exact ⟨rfl,(Below.refl _ _).alloc (Nat.le_refl _) _⟩
theorem do_7 (a b:Int) (h0:0<=b) (h1:b<=4294967295) (w:World):Calls Tryz.prog 73 #[.int .i64 7,.int .u32 a,.int .u32 b] w fun e w'=>e= .returned (.tuple #[.int .u32 (aluF 7 a b),.bool true])/\Below w.heap.size w w':=by
 have hw:=fun w'=>word_or a b h0 h1 w'
 generalize aluF 7 a b=r at hw⊢
 go_enter Tryz.func73,Tryz.ntmps73
 go_wp2_with fail
 refine (alu_is 7 _).mono ?_
 rintro e w' ⟨rfl,rfl⟩
 go_wp2_with fail
 refine (hw _).mono ?_
 rintro e w1 ⟨rfl,rfl⟩
 go_wp2
 go_ret2
 exact ⟨rfl,(Below.refl _ _).alloc (Nat.le_refl _) _⟩
theorem do_8 (a b:Int) (h0:0<=b) (h1:b<=4294967295) (w:World):Calls Tryz.prog 73 #[.int .i64 8,.int .u32 a,.int .u32 b] w fun e w'=>e= .returned (.tuple #[.int .u32 (aluF 8 a b),.bool true])/\Below w.heap.size w w':=by
 have hw:=fun w'=>word_xor a b h0 h1 w'
 generalize aluF 8 a b=r at hw⊢
 go_enter Tryz.func73,Tryz.ntmps73
 go_wp2_with fail
 refine (alu_is 8 _).mono ?_
 rintro e w' ⟨rfl,rfl⟩
 go_wp2_with fail
 refine (hw _).mono ?_
 rintro e w1 ⟨rfl,rfl⟩
 go_wp2
 go_ret2
 exact ⟨rfl,(Below.refl _ _).alloc (Nat.le_refl _) _⟩
theorem do_9 (a b:Int) (h0:0<=b) (h1:b<=4294967295) (w:World):Calls Tryz.prog 73 #[.int .i64 9,.int .u32 a,.int .u32 b] w fun e w'=>e= .returned (.tuple #[.int .u32 (aluF 9 a b),.bool true])/\Below w.heap.size w w':=by
 have hw:=fun w'=>word_shl a b h0 h1 w'
 generalize aluF 9 a b=r at hw⊢
 go_enter Tryz.func73,Tryz.ntmps73
 go_wp2_with fail
 refine (alu_is 9 _).mono ?_
 rintro e w' ⟨rfl,rfl⟩
 go_wp2_with fail
 refine (hw _).mono ?_
 rintro e w1 ⟨rfl,rfl⟩
 go_wp2
 go_ret2
 exact ⟨rfl,(Below.refl _ _).alloc (Nat.le_refl _) _⟩
theorem do_10 (a b:Int) (h0:0<=b) (h1:b<=4294967295) (w:World):Calls Tryz.prog 73 #[.int .i64 10,.int .u32 a,.int .u32 b] w fun e w'=>e= .returned (.tuple #[.int .u32 (aluF 10 a b),.bool true])/\Below w.heap.size w w':=by
 have hw:=fun w'=>word_shr a b h0 h1 w'
 generalize aluF 10 a b=r at hw⊢
 go_enter Tryz.func73,Tryz.ntmps73
 go_wp2_with fail
 refine (alu_is 10 _).mono ?_
 rintro e w' ⟨rfl,rfl⟩
 go_wp2_with fail
 refine (hw _).mono ?_
 rintro e w1 ⟨rfl,rfl⟩
 go_wp2
 go_ret2
 exact ⟨rfl,(Below.refl _ _).alloc (Nat.le_refl _) _⟩
theorem do_11 (a b:Int) (h0:0<=b) (h1:b<=4294967295) (w:World):Calls Tryz.prog 73 #[.int .i64 11,.int .u32 a,.int .u32 b] w fun e w'=>e= .returned (.tuple #[.int .u32 (aluF 11 a b),.bool true])/\Below w.heap.size w w':=by
 have hw:=fun w'=>word_less a b h0 h1 w'
 generalize aluF 11 a b=r at hw⊢
 go_enter Tryz.func73,Tryz.ntmps73
 go_wp2_with fail
 refine (alu_is 11 _).mono ?_
 rintro e w' ⟨rfl,rfl⟩
 go_wp2_with fail
 refine (hw _).mono ?_
 rintro e w1 ⟨rfl,rfl⟩
 go_wp2
 go_ret2
 exact ⟨rfl,(Below.refl _ _).alloc (Nat.le_refl _) _⟩
theorem do_12 (a b:Int) (h0:0<=b) (h1:b<=4294967295) (w:World):Calls Tryz.prog 73 #[.int .i64 12,.int .u32 a,.int .u32 b] w fun e w'=>e= .returned (.tuple #[.int .u32 (aluF 12 a b),.bool true])/\Below w.heap.size w w':=by
 have hw:=fun w'=>word_same a b h0 h1 w'
 generalize aluF 12 a b=r at hw⊢
 go_enter Tryz.func73,Tryz.ntmps73
 go_wp2_with fail
 refine (alu_is 12 _).mono ?_
 rintro e w' ⟨rfl,rfl⟩
 go_wp2_with fail
 refine (hw _).mono ?_
 rintro e w1 ⟨rfl,rfl⟩
 go_wp2
 go_ret2
 exact ⟨rfl,(Below.refl _ _).alloc (Nat.le_refl _) _⟩
theorem do_any (op:Nat) (h3:3<=op) (h12:op<=12) (a b:Int) (h0:0<=b) (h1:b<=4294967295) (w:World):Calls Tryz.prog 73 #[.int .i64 (op:Int),.int .u32 a,.int .u32 b] w fun e w'=>e= .returned (.tuple #[.int .u32 (aluF op a b),.bool true])/\Below w.heap.size w w':=by
 rcases (by omega:op=3∨op=4∨op=5∨op=6∨op=7∨op=8∨op=9∨op=10∨op=11∨op=12)with rfl|rfl|rfl|rfl|rfl|rfl|rfl|rfl|rfl|rfl
 ·exact do_3 a b h0 h1 w
 ·exact do_4 a b h0 h1 w
 ·exact do_5 a b h0 h1 w
 ·exact do_6 a b h0 h1 w
 ·exact do_7 a b h0 h1 w
 ·exact do_8 a b h0 h1 w
 ·exact do_9 a b h0 h1 w
 ·exact do_10 a b h0 h1 w
 ·exact do_11 a b h0 h1 w
 ·exact do_12 a b h0 h1 w
theorem do_no (op a b:Int) (h:op<3∨12<op) (w:World):Calls Tryz.prog 73 #[.int .i64 op,.int .u32 a,.int .u32 b] w fun e w'=>e= .returned (.tuple #[.int .u32 0,.bool false])/\w=w':=by
 have hb:decide (3<=op/\op<=12)=false:=decide_eq_false (by omega)
 go_enter Tryz.func73,Tryz.ntmps73
 go_wp2_with fail
 refine (alu_is op _).mono ?_
 rw [hb]
 rintro e w' ⟨rfl,rfl⟩
 go_wp2
 go_ret2
 exact ⟨rfl,rfl⟩
end Go.Proofs.YtmhfpjnkjlhbpaaGreatDoor
namespace Go.Proofs.YtmhfpjnkjlhbpaaGreatDoor
open Go.ChangeShapes Go.WideShapes Go.ChangeAt Go.RowKit Go.Deep
set_option linter.unusedVariables false
set_option maxRecDepth 100000
set_option linter.unusedSimpArgs false
open List renaming getElem_toArray->zA,getElem_cons_zero->zB,getElem_cons_succ->zC,setIfInBounds_toArray->zD,set_cons_zero->zE,set_cons_succ->zF
def addrF (t:Th) (i:Ins):Int:=if 0<=i.b/\i.b<8 then aluF 3 (t.regs i.b.toNat) i.k else i.k
theorem addrF_in (t:Th) (i:Ins) (b:Nat) (h:i.b=(b:Int)) (hb:b<8):addrF t i=aluF 3 (t.regs b) i.k:=by
 unfold addrF
 rw [if_pos (by omega),h,Int.toNat_natCast]
theorem addrF_out (t:Th) (i:Ins) (h:i.b<0∨8<=i.b):addrF t i=i.k:=by
 unfold addrF
 rw [if_neg (by omega)]
set_option maxHeartbeats 4000000 in
theorem address_any (t:Th) (i:Ins) (hk0:0<=i.k) (hk1:i.k<=4294967295) (W:World):
 Calls Tryz.prog 149 #[t.val,.agg #[.int .i64 i.op,.int .i64 i.a,.int .i64 i.b,.int .i64 i.c,.int .u32 i.k]] W fun e W'=>e= .returned (.int .u32 (addrF t i))/\Below W.heap.size W W':=by
 have hB1:=(Below.refl W.heap.size W).alloc (Nat.le_refl _) (.cells #[.int .i64 t.pc,.int .u32 (t.regs 0),.int .u32 (t.regs 1),.int .u32 (t.regs 2),.int .u32 (t.regs 3),.int .u32 (t.regs 4),.int .u32 (t.regs 5),.int .u32 (t.regs 6),.int .u32 (t.regs 7),.int .i64 t.st] 124)
 obtain ⟨iop,ia,ib,ic,ik⟩:=i
 dsimp only at hk0 hk1⊢
 have hB2:=hB1.alloc hB1.size (.cells #[.int .i64 iop,.int .i64 ia,.int .i64 ib,.int .i64 ic,.int .u32 ik] 75)
 unfold Th.val
 by_cases h:0<=ib/\ib<8
 ·obtain ⟨b,rfl⟩: ∃b:Nat,ib=(b:Int):=⟨ib.toNat,by omega⟩
  have hb8:b<8:=by omega
  rw [addrF_in t ⟨iop,ia,(b:Int),ic,ik⟩ b rfl hb8]
  have xt:=(Blk.new W 124 #[.int .i64 t.pc,.int .u32 (t.regs 0),.int .u32 (t.regs 1),.int .u32 (t.regs 2),.int .u32 (t.regs 3),.int .u32 (t.regs 4),.int .u32 (t.regs 5),.int .u32 (t.regs 6),.int .u32 (t.regs 7),.int .i64 t.st]).alloc (.cells #[.int .i64 iop,.int .i64 ia,.int .i64 (b:Int),.int .i64 ic,.int .u32 ik] 75)
  have xi:=Blk.new2 W (.cells #[.int .i64 t.pc,.int .u32 (t.regs 0),.int .u32 (t.regs 1),.int .u32 (t.regs 2),.int .u32 (t.regs 3),.int .u32 (t.regs 4),.int .u32 (t.regs 5),.int .u32 (t.regs 6),.int .u32 (t.regs 7),.int .i64 t.st] 124) 75 #[.int .i64 iop,.int .i64 ia,.int .i64 (b:Int),.int .i64 ic,.int .u32 ik]
  obtain ⟨rv,hrv⟩: ∃rv,t.regs b=rv:=⟨_,rfl⟩
  have tr:((W.alloc (.cells #[.int .i64 t.pc,.int .u32 (t.regs 0),.int .u32 (t.regs 1),.int .u32 (t.regs 2),.int .u32 (t.regs 3),.int .u32 (t.regs 4),.int .u32 (t.regs 5),.int .u32 (t.regs 6),.int .u32 (t.regs 7),.int .i64 t.st] 124)).alloc (.cells #[.int .i64 iop,.int .i64 ia,.int .i64 (b:Int),.int .i64 ic,.int .u32 ik] 75)).cell? ⟨W.heap.size,1+b,none⟩=some (.int .u32 rv):=by
   rw [xt.cell,<-hrv]
   rcases (by omega:b=0∨b=1∨b=2∨b=3∨b=4∨b=5∨b=6∨b=7)with rfl|rfl|rfl|rfl|rfl|rfl|rfl|rfl<;>rfl
  have i2:=(xi.cell 2).trans rfl
  have i4:=(xi.cell 4).trans rfl
  have n1: ¬(b:Int)<0:=by omega
  have n2: ¬(8:Int)<=(b:Int):=by omega
  have n3:(0:Int)<=(b:Int):=by omega
  have n4:(b:Int)<8:=by omega
  dsimp only
  rw [hrv]
  have HB:=hB2.drew
  have hil:=xi.lt
  have htl:=xt.lt
  simp only [List.getElem?_toArray,List.getElem?_cons_zero,List.getElem?_cons_succ]at i2 i4
  clear hB1 hB2 xt xi h hrv
  have HQ:=Lib.hid (And.intro tr (And.intro i2 (And.intro i4 (And.intro hil (And.intro htl HB)))))
  clear tr i2 i4 hil htl HB
  go_enter Tryz.func149,Tryz.ntmps149
  go_wp2
  refine startG (fun W'=>Below (((W.alloc (.cells #[.int .i64 t.pc,.int .u32 (t.regs 0),.int .u32 (t.regs 1),.int .u32 (t.regs 2),.int .u32 (t.regs 3),.int .u32 (t.regs 4),.int .u32 (t.regs 5),.int .u32 (t.regs 6),.int .u32 (t.regs 7),.int .i64 t.st] 124)).alloc (.cells #[.int .i64 iop,.int .i64 ia,.int .i64 (b:Int),.int .i64 ic,.int .u32 ik] 75)).drew).heap.size (((W.alloc (.cells #[.int .i64 t.pc,.int .u32 (t.regs 0),.int .u32 (t.regs 1),.int .u32 (t.regs 2),.int .u32 (t.regs 3),.int .u32 (t.regs 4),.int .u32 (t.regs 5),.int .u32 (t.regs 6),.int .u32 (t.regs 7),.int .i64 t.st] 124)).alloc (.cells #[.int .i64 iop,.int .i64 ia,.int .i64 (b:Int),.int .i64 ic,.int .u32 ik] 75)).drew) W') 12 (by kernel_rfl) ?_
  obtain ⟨tr,i2,i4,hil,htl,HB⟩:=HQ.out
  have tr':(((W.alloc (.cells #[.int .i64 t.pc,.int .u32 (t.regs 0),.int .u32 (t.regs 1),.int .u32 (t.regs 2),.int .u32 (t.regs 3),.int .u32 (t.regs 4),.int .u32 (t.regs 5),.int .u32 (t.regs 6),.int .u32 (t.regs 7),.int .i64 t.st] 124)).alloc (.cells #[.int .i64 iop,.int .i64 ia,.int .i64 (b:Int),.int .i64 ic,.int .u32 ik] 75)).drew).cell? ⟨W.heap.size,1+b,none⟩=some (.int .u32 rv):=tr
  have i2':(((W.alloc (.cells #[.int .i64 t.pc,.int .u32 (t.regs 0),.int .u32 (t.regs 1),.int .u32 (t.regs 2),.int .u32 (t.regs 3),.int .u32 (t.regs 4),.int .u32 (t.regs 5),.int .u32 (t.regs 6),.int .u32 (t.regs 7),.int .i64 t.st] 124)).alloc (.cells #[.int .i64 iop,.int .i64 ia,.int .i64 (b:Int),.int .i64 ic,.int .u32 ik] 75)).drew).cell? ⟨W.heap.size+1,2,none⟩=some (.int .i64 (b:Int)):=i2
  have i4':(((W.alloc (.cells #[.int .i64 t.pc,.int .u32 (t.regs 0),.int .u32 (t.regs 1),.int .u32 (t.regs 2),.int .u32 (t.regs 3),.int .u32 (t.regs 4),.int .u32 (t.regs 5),.int .u32 (t.regs 6),.int .u32 (t.regs 7),.int .i64 t.st] 124)).alloc (.cells #[.int .i64 iop,.int .i64 ia,.int .i64 (b:Int),.int .i64 ic,.int .u32 ik] 75)).drew).cell? ⟨W.heap.size+1,4,none⟩=some (.int .u32 ik):=i4
  have hil':W.heap.size+1<(((W.alloc (.cells #[.int .i64 t.pc,.int .u32 (t.regs 0),.int .u32 (t.regs 1),.int .u32 (t.regs 2),.int .u32 (t.regs 3),.int .u32 (t.regs 4),.int .u32 (t.regs 5),.int .u32 (t.regs 6),.int .u32 (t.regs 7),.int .i64 t.st] 124)).alloc (.cells #[.int .i64 iop,.int .i64 ia,.int .i64 (b:Int),.int .i64 ic,.int .u32 ik] 75)).drew).heap.size:=hil
  have htl':W.heap.size<(((W.alloc (.cells #[.int .i64 t.pc,.int .u32 (t.regs 0),.int .u32 (t.regs 1),.int .u32 (t.regs 2),.int .u32 (t.regs 3),.int .u32 (t.regs 4),.int .u32 (t.regs 5),.int .u32 (t.regs 6),.int .u32 (t.regs 7),.int .i64 t.st] 124)).alloc (.cells #[.int .i64 iop,.int .i64 ia,.int .i64 (b:Int),.int .i64 ic,.int .u32 ik] 75)).drew).heap.size:=htl
  clear tr i2 i4 hil htl HQ
  generalize ((W.alloc (.cells #[.int .i64 t.pc,.int .u32 (t.regs 0),.int .u32 (t.regs 1),.int .u32 (t.regs 2),.int .u32 (t.regs 3),.int .u32 (t.regs 4),.int .u32 (t.regs 5),.int .u32 (t.regs 6),.int .u32 (t.regs 7),.int .i64 t.st] 124)).alloc (.cells #[.int .i64 iop,.int .i64 ia,.int .i64 (b:Int),.int .i64 ic,.int .u32 ik] 75)).drew=W0 at tr' i2' i4' hil' htl' HB⊢
  have HBH:=Lib.hid HB
  clear HB
  obtain ⟨tb,htb⟩: ∃tb,W.heap.size=tb:=⟨_,rfl⟩
  obtain ⟨bi,hbi⟩: ∃bi,W.heap.size+1=bi:=⟨_,rfl⟩
  rw [hbi]at i2' i4' hil'⊢
  rw [htb]at tr' htl'⊢
  have HTB:=Lib.hid htb
  clear htb hbi
  have hH:=Below.refl W0.heap.size W0
  refine takeB (i:=0) (v:= .pointer (some ⟨bi,2,none⟩)) rfl (Or.inl ⟨by rfl,fun W hW=>by go_simp⟩) hH ?_
  simp only [Act.put,zA,zB,zC,zD,zE,zF]
  refine takeB (i:=1) (v:= .int .i64 (b:Int)) rfl (Or.inl ⟨by rfl,fun W hW=>by have q0:=keepAt hW hil' i2';go_simp⟩) hH ?_
  simp only [Act.put,zA,zB,zC,zD,zE,zF]
  refine takeB (i:=2) (v:= .pointer (some ⟨tb,1,none⟩)) rfl (Or.inl ⟨by rfl,fun W hW=>by go_simp⟩) hH ?_
  simp only [Act.put,zA,zB,zC,zD,zE,zF]
  refine takeB (i:=3) (v:= .pointer (some ⟨tb,1+b,none⟩)) rfl (Or.inl ⟨by rfl,fun W hW=>by go_simp⟩) hH ?_
  simp only [Act.put,zA,zB,zC,zD,zE,zF]
  refine takeB (i:=4) (v:= .int .u32 rv) rfl (Or.inl ⟨by rfl,fun W hW=>by have q0:=keepAt hW htl' tr';go_simp⟩) hH ?_
  simp only [Act.put,zA,zB,zC,zD,zE,zF]
  refine takeB (i:=5) (v:= .pointer (some ⟨bi,4,none⟩)) rfl (Or.inl ⟨by rfl,fun W hW=>by go_simp⟩) hH ?_
  simp only [Act.put,zA,zB,zC,zD,zE,zF]
  refine takeB (i:=6) (v:= .int .u32 ik) rfl (Or.inl ⟨by rfl,fun W hW=>by have q0:=keepAt hW hil' i4';go_simp⟩) hH ?_
  simp only [Act.put,zA,zB,zC,zD,zE,zF]
  refine onlyG (i:=7) (by kernel_rfl) rfl (fun K hK=>?_)
  go_simp
  refine (do_any 3 (by omega) (by omega) rv ik hk0 hk1 _).mono ?_
  rintro e W2 ⟨rfl,hb2⟩
  go_wp2_with fail
  refine hK.out _ _ hb2 (fun _=>?_)
  clear hK K
  try simp only [Act.put,zA,zB,zC,zD,zE,zF]
  refine takeB (i:=8) (v:= .tuple #[.int .u32 (aluF 3 rv ik),.bool true]) rfl (Or.inl ⟨by rfl,fun W hW=>by go_simp⟩) hb2 ?_
  simp only [Act.put,zA,zB,zC,zD,zE,zF]
  refine takeB (i:=9) (v:= .int .u32 (aluF 3 rv ik)) rfl (Or.inl ⟨by rfl,fun W hW=>by go_simp⟩) hb2 ?_
  simp only [Act.put,zA,zB,zC,zD,zE,zF]
  refine takeB (i:=10) (v:= .bool true) rfl (Or.inl ⟨by rfl,fun W hW=>by go_simp⟩) hb2 ?_
  simp only [Act.put,zA,zB,zC,zD,zE,zF]
  refine onlyG (i:=11) (by kernel_rfl) rfl (fun K hK=>?_)
  go_simp
  refine hK.out _ _ hb2 (fun _=>?_)
  clear hK K
  try simp only [Act.put,zA,zB,zC,zD,zE,zF]
  refine lastG (by kernel_rfl) rfl (by kernel_rfl) (fun K hK=>?_)
  go_simp
  refine hK.out _ _ ?_
  clear hK K
  go_wp2
  go_ret
  exact ⟨rfl,by have h0:=HTB.out;subst h0;exact HBH.out.trans (hb2.mono HBH.out.size)⟩
 ·rw [addrF_out t ⟨iop,ia,ib,ic,ik⟩ (by dsimp only;omega)]
  have hd:ib<0∨(0<=ib/\8<=ib):=by omega
  have HB:=Lib.hid hB2
  clear hB1 hB2 h
  rcases hd with hd|⟨hd,hd2⟩
  ·go_enter Tryz.func149,Tryz.ntmps149
   go_wp2
   go_ret
   exact ⟨rfl,HB.out⟩
  ·have hd': ¬ib<0:=by omega
   go_enter Tryz.func149,Tryz.ntmps149
   go_wp2
   go_ret
   exact ⟨rfl,HB.out⟩
def plainR {σ:Type} (O:Ops σ) (s:σ) (t:Th) (op a b c:Nat) (k addr:Int):Th×σ:=
 if op=1 then ({t with regs:=updR t.regs a k},s)
 else if op=2 then ({t with regs:=updR t.regs a (t.regs b)},s)
 else if op=18 then (t,O.note s ⟨5,0,t.pc,addr,0,0,0,false⟩)
 else if op=22 then (t,O.note s ⟨6,0,t.pc,addr,t.regs a,0,0,false⟩)
 else if op=27 then (t,O.note s ⟨7,0,t.pc,addr,t.regs a,0,k,false⟩)
 else if op=25 then (t,O.note (O.remote s) ⟨10,0,t.pc,addr,0,0,0,false⟩)
 else if 3<=op/\op<=12 then ({t with regs:=updR t.regs a (aluF op (t.regs b) (t.regs c))},s)
 else (t,s)
section
variable {σ:Type} {O:Ops σ} {V:Pv} {Inv:σ->(Nat->Prop)->World->Prop} {can:Nat->σ->Prop}
theorem reg_rb (hP:PortOk O V Inv can) {s:σ} {own:Nat->Prop} {rb:Nat} {t:Th} {i:Ins} {addr:Int} {W W1:World} (a:Nat) (ha:i.a=(a:Int)) (ha8:a<8) (h:RMoves Inv s own rb t i O.size V addr W W1):
 Calls Tryz.prog 166 #[.pointer (some ⟨rb,0,none⟩)] W1 fun e W2=>e= .returned (.pointer (some ⟨rb,1+a,none⟩))/\RMoves Inv s own rb t i O.size V addr W W2/\Below W1.heap.size W1 W2:=
 (reg_any rb t i O.size V addr a ha ha8 W1 h.rn).mono fun e W2 ⟨he,q,hq⟩=>⟨he,hq▸h.drewN hP q,hq▸(Below.refl _ _).grown (row:=none) ⟨rfl,rfl,rfl,Nat.le_refl _,fun _ _ _=>rfl⟩ (Nat.le_refl _) (fun r e=>by cases e)⟩
end
set_option maxHeartbeats 4000000 in
theorem plain_set {σ:Type} {O:Ops σ} {V:Pv} {Inv:σ->(Nat->Prop)->World->Prop} {can:Nat->σ->Prop} (hP:PortOk O V Inv can) (n:Nat) (s:σ) (own:Nat->Prop) (rb:Nat) (t:Th) (a b c:Nat) (ik addr:Int) (W W1:World)
 (hM:RMoves Inv s own rb t ⟨1,(a:Int),(b:Int),(c:Int),ik⟩ O.size V addr W W1) (hc:can (n+2) s) (hrb:rb<W.heap.size) (ha8:a<8) (hb8:b<8) (hc8:c<8):
 Calls Tryz.prog 153 #[.pointer (some ⟨rb,0,none⟩)] W1 fun e W'=>(∃u,e= .returned u)/\RMoves Inv s own rb {t with regs:=updR t.regs a ik} ⟨1,(a:Int),(b:Int),(c:Int),ik⟩ O.size V addr W W':=by
 have i0:=hM.rn.ic (j:=0) rfl
 have i1:=hM.rn.ic (j:=1) rfl
 have i2:=hM.rn.ic (j:=2) rfl
 have i3:=hM.rn.ic (j:=3) rfl
 have i4:=hM.rn.ic (j:=4) rfl
 have hlt:=hM.rn.lt
 dsimp only at i0 i1 i2 i3 i4
 have hM1:=hM.alloc hP (.cells #[.int .i64 1,.int .i64 (a:Int),.int .i64 (b:Int),.int .i64 (c:Int),.int .u32 ik] 75)
 have hX:=Blk.new W1 75 #[.int .i64 1,.int .i64 (a:Int),.int .i64 (b:Int),.int .i64 (c:Int),.int .u32 ik]
 have hM0:=hM1.drew hP
 have hX0:=hX.drew
 have HH:=Lib.hid (And.intro hM0 hX0)
 clear hM hM1 hX hM0 hX0
 go_enter Tryz.func153,Tryz.ntmps153
 go_wp2
 refine startG (fun W'=>Below ((W1.alloc (.cells #[.int .i64 1,.int .i64 (a:Int),.int .i64 (b:Int),.int .i64 (c:Int),.int .u32 ik] 75)).drew).heap.size ((W1.alloc (.cells #[.int .i64 1,.int .i64 (a:Int),.int .i64 (b:Int),.int .i64 (c:Int),.int .u32 ik] 75)).drew) W') 5 (by kernel_rfl) ?_
 obtain ⟨hM0,hX0⟩:=HH.out
 obtain ⟨xb,hxb⟩: ∃xb,W1.heap.size=xb:=⟨_,rfl⟩
 rw [hxb]at hX0⊢
 generalize (W1.alloc (.cells #[.int .i64 1,.int .i64 (a:Int),.int .i64 (b:Int),.int .i64 (c:Int),.int .u32 ik] 75)).drew=W0 at hM0 hX0⊢
 clear hxb HH i0 i1 i2 i3 i4
 have x1:=(hX0.cell 1).trans rfl
 have x2:=(hX0.cell 2).trans rfl
 have x3:=(hX0.cell 3).trans rfl
 have x0:=(hX0.cell 0).trans rfl
 have x4:=(hX0.cell 4).trans rfl
 simp only [List.getElem?_toArray,List.getElem?_cons_zero,List.getElem?_cons_succ]at x0 x1 x2 x3 x4
 have hxl:=hX0.lt
 have hH:=Below.refl W0.heap.size W0
 refine takeA (i:=0) (v:= .pointer (some ⟨rb,0,none⟩)) rfl hH ?_
 simp only [Act.put,zA,zB,zC,zD,zE,zF]
 refine takeB (i:=2) (v:= .pointer (some ⟨xb,4,none⟩)) rfl (Or.inl ⟨by rfl,fun W hW=>by go_simp⟩) hH ?_
 simp only [Act.put,zA,zB,zC,zD,zE,zF]
 refine takeB (i:=3) (v:= .int .u32 ik) rfl (Or.inl ⟨by rfl,fun W hW=>by have q0:=keepAt hW hxl x4;go_simp⟩) hH ?_
 simp only [Act.put,zA,zB,zC,zD,zE,zF]
 refine onlyG (i:=1) (by kernel_rfl) rfl (fun K hK=>?_)
 go_simp
 refine (reg_rb hP a rfl ha8 hM0).mono ?_
 rintro e W2 ⟨rfl,hM2,hb2⟩
 go_wp2_with fail
 refine hK.out _ _ hb2 (fun _=>?_)
 clear hK K
 try simp only [Act.put,zA,zB,zC,zD,zE,zF]
 refine takeA (i:=4) (v:= .pointer (some ⟨rb,1+a,none⟩)) rfl hb2 ?_
 simp only [Act.put,zA,zB,zC,zD,zE,zF]
 have c5:=hM2.rn.reg ha8
 have f5:=hM2.rn.fz (1+a)
 have HM5:=Lib.hid (hM2.set_ hP (1+a) (.int .u32 ik) (fun h=>h.setReg ha8 ik))
 refine lastG (by kernel_rfl) rfl (by kernel_rfl) (fun K hK=>?_)
 go_simp
 refine hK.out _ _ ?_
 clear hK K c5 f5
 go_wp2
 go_end0
 exact ⟨⟨_,rfl⟩,HM5.out⟩
set_option maxHeartbeats 4000000 in
theorem plain_move {σ:Type} {O:Ops σ} {V:Pv} {Inv:σ->(Nat->Prop)->World->Prop} {can:Nat->σ->Prop} (hP:PortOk O V Inv can) (n:Nat) (s:σ) (own:Nat->Prop) (rb:Nat) (t:Th) (a b c:Nat) (ik addr:Int) (W W1:World)
 (hM:RMoves Inv s own rb t ⟨2,(a:Int),(b:Int),(c:Int),ik⟩ O.size V addr W W1) (hc:can (n+2) s) (hrb:rb<W.heap.size) (ha8:a<8) (hb8:b<8) (hc8:c<8):
 Calls Tryz.prog 153 #[.pointer (some ⟨rb,0,none⟩)] W1 fun e W'=>(∃u,e= .returned u)/\RMoves Inv s own rb {t with regs:=updR t.regs a (t.regs b)} ⟨2,(a:Int),(b:Int),(c:Int),ik⟩ O.size V addr W W':=by
 have i0:=hM.rn.ic (j:=0) rfl
 have i1:=hM.rn.ic (j:=1) rfl
 have i2:=hM.rn.ic (j:=2) rfl
 have i3:=hM.rn.ic (j:=3) rfl
 have i4:=hM.rn.ic (j:=4) rfl
 have hlt:=hM.rn.lt
 dsimp only at i0 i1 i2 i3 i4
 have hM1:=hM.alloc hP (.cells #[.int .i64 2,.int .i64 (a:Int),.int .i64 (b:Int),.int .i64 (c:Int),.int .u32 ik] 75)
 have hX:=Blk.new W1 75 #[.int .i64 2,.int .i64 (a:Int),.int .i64 (b:Int),.int .i64 (c:Int),.int .u32 ik]
 have hM0:=hM1.drew hP
 have hX0:=hX.drew
 have HH:=Lib.hid (And.intro hM0 hX0)
 clear hM hM1 hX hM0 hX0
 go_enter Tryz.func153,Tryz.ntmps153
 go_wp2
 refine startG (fun W'=>Below ((W1.alloc (.cells #[.int .i64 2,.int .i64 (a:Int),.int .i64 (b:Int),.int .i64 (c:Int),.int .u32 ik] 75)).drew).heap.size ((W1.alloc (.cells #[.int .i64 2,.int .i64 (a:Int),.int .i64 (b:Int),.int .i64 (c:Int),.int .u32 ik] 75)).drew) W') 11 (by kernel_rfl) ?_
 obtain ⟨hM0,hX0⟩:=HH.out
 obtain ⟨xb,hxb⟩: ∃xb,W1.heap.size=xb:=⟨_,rfl⟩
 rw [hxb]at hX0⊢
 generalize (W1.alloc (.cells #[.int .i64 2,.int .i64 (a:Int),.int .i64 (b:Int),.int .i64 (c:Int),.int .u32 ik] 75)).drew=W0 at hM0 hX0⊢
 clear hxb HH i0 i1 i2 i3 i4
 have x1:=(hX0.cell 1).trans rfl
 have x2:=(hX0.cell 2).trans rfl
 have x3:=(hX0.cell 3).trans rfl
 have x0:=(hX0.cell 0).trans rfl
 have x4:=(hX0.cell 4).trans rfl
 simp only [List.getElem?_toArray,List.getElem?_cons_zero,List.getElem?_cons_succ]at x0 x1 x2 x3 x4
 have hxl:=hX0.lt
 have hH:=Below.refl W0.heap.size W0
 have rr:=hM0.rn.reg hb8
 have hrl:=hM0.rn.lt
 obtain ⟨rv,hrv⟩: ∃rv,t.regs b=rv:=⟨_,rfl⟩
 rw [hrv]at rr
 have HRV:=Lib.hid hrv
 have nb0:(0:Int)<=(b:Int):=by omega
 have nb8:(b:Int)<8:=by omega
 clear hrv
 refine takeA (i:=0) (v:= .pointer (some ⟨rb,0,none⟩)) rfl hH ?_
 simp only [Act.put,zA,zB,zC,zD,zE,zF]
 refine takeA (i:=2) (v:= .pointer (some ⟨rb,0,none⟩)) rfl hH ?_
 simp only [Act.put,zA,zB,zC,zD,zE,zF]
 refine takeB (i:=3) (v:= .pointer (some ⟨xb,2,none⟩)) rfl (Or.inl ⟨by rfl,fun W hW=>by go_simp⟩) hH ?_
 simp only [Act.put,zA,zB,zC,zD,zE,zF]
 refine takeB (i:=4) (v:= .int .i64 (b:Int)) rfl (Or.inl ⟨by rfl,fun W hW=>by have q0:=keepAt hW hxl x2;go_simp⟩) hH ?_
 simp only [Act.put,zA,zB,zC,zD,zE,zF]
 refine takeA (i:=5) (v:= .pointer (some ⟨rb,0,none⟩)) rfl hH ?_
 simp only [Act.put,zA,zB,zC,zD,zE,zF]
 refine takeA (i:=6) (v:= .pointer (some ⟨rb,0,none⟩)) rfl hH ?_
 simp only [Act.put,zA,zB,zC,zD,zE,zF]
 refine takeA (i:=7) (v:= .pointer (some ⟨rb,1,none⟩)) rfl hH ?_
 simp only [Act.put,zA,zB,zC,zD,zE,zF]
 refine takeA (i:=8) (v:= .pointer (some ⟨rb,1+b,none⟩)) rfl hH ?_
 simp only [Act.put,zA,zB,zC,zD,zE,zF]
 refine takeB (i:=9) (v:= .int .u32 rv) rfl (Or.inl ⟨by rfl,fun W hW=>by have q0:=keepAt hW hrl rr;go_simp⟩) hH ?_
 simp only [Act.put,zA,zB,zC,zD,zE,zF]
 refine onlyG (i:=1) (by kernel_rfl) rfl (fun K hK=>?_)
 go_simp
 refine (reg_rb hP a rfl ha8 hM0).mono ?_
 rintro e W2 ⟨rfl,hM2,hb2⟩
 go_wp2_with fail
 refine hK.out _ _ hb2 (fun _=>?_)
 clear hK K
 try simp only [Act.put,zA,zB,zC,zD,zE,zF]
 refine takeA (i:=10) (v:= .pointer (some ⟨rb,1+a,none⟩)) rfl hb2 ?_
 simp only [Act.put,zA,zB,zC,zD,zE,zF]
 have c5:=hM2.rn.reg ha8
 have f5:=hM2.rn.fz (1+a)
 have HM5:=Lib.hid (hM2.set_ hP (1+a) (.int .u32 rv) (fun h=>h.setReg ha8 rv))
 refine lastG (by kernel_rfl) rfl (by kernel_rfl) (fun K hK=>?_)
 go_simp
 refine hK.out _ _ ?_
 clear hK K c5 f5
 go_wp2
 go_end0
 rw [HRV.out]
 exact ⟨⟨_,rfl⟩,HM5.out⟩
set_option maxHeartbeats 4000000 in
theorem plain_fence {σ:Type} {O:Ops σ} {V:Pv} {Inv:σ->(Nat->Prop)->World->Prop} {can:Nat->σ->Prop} (hP:PortOk O V Inv can) (n:Nat) (s:σ) (own:Nat->Prop) (rb:Nat) (t:Th) (a b c:Nat) (ik addr:Int) (W W1:World)
 (hM:RMoves Inv s own rb t ⟨18,(a:Int),(b:Int),(c:Int),ik⟩ O.size V addr W W1) (hc:can (n+2) s) (hrb:rb<W.heap.size) (ha8:a<8) (hb8:b<8) (hc8:c<8):
 Calls Tryz.prog 153 #[.pointer (some ⟨rb,0,none⟩)] W1 fun e W'=>(∃u,e= .returned u)/\RMoves Inv (O.note s ⟨5,0,t.pc,addr,0,0,0,false⟩) own rb t ⟨18,(a:Int),(b:Int),(c:Int),ik⟩ O.size V addr W W':=by
 have i0:=hM.rn.ic (j:=0) rfl
 have i1:=hM.rn.ic (j:=1) rfl
 have i2:=hM.rn.ic (j:=2) rfl
 have i3:=hM.rn.ic (j:=3) rfl
 have i4:=hM.rn.ic (j:=4) rfl
 have hlt:=hM.rn.lt
 dsimp only at i0 i1 i2 i3 i4
 have hM1:=hM.alloc hP (.cells #[.int .i64 18,.int .i64 (a:Int),.int .i64 (b:Int),.int .i64 (c:Int),.int .u32 ik] 75)
 have hX:=Blk.new W1 75 #[.int .i64 18,.int .i64 (a:Int),.int .i64 (b:Int),.int .i64 (c:Int),.int .u32 ik]
 have hN:=note_r hP n (W:=W) ⟨5,0,0,0,0,0,0,false⟩ hM1 (hP.less (n+1) s hc) hrb
 clear hM hM1 hX
 go_enter Tryz.func153,Tryz.ntmps153
 go_wp2_with fail
 refine hN.mono ?_
 rintro e W2 ⟨⟨u,rfl⟩,hM2⟩
 have HM2:=Lib.hid hM2
 clear hN hM2 i0 i1 i2 i3 i4
 go_wp2
 go_end0
 exact ⟨⟨_,rfl⟩,HM2.out⟩
set_option maxHeartbeats 4000000 in
theorem plain_out {σ:Type} {O:Ops σ} {V:Pv} {Inv:σ->(Nat->Prop)->World->Prop} {can:Nat->σ->Prop} (hP:PortOk O V Inv can) (n:Nat) (s:σ) (own:Nat->Prop) (rb:Nat) (t:Th) (a b c:Nat) (ik addr:Int) (W W1:World)
 (hM:RMoves Inv s own rb t ⟨22,(a:Int),(b:Int),(c:Int),ik⟩ O.size V addr W W1) (hc:can (n+2) s) (hrb:rb<W.heap.size) (ha8:a<8) (hb8:b<8) (hc8:c<8):
 Calls Tryz.prog 153 #[.pointer (some ⟨rb,0,none⟩)] W1 fun e W'=>(∃u,e= .returned u)/\RMoves Inv (O.note s ⟨6,0,t.pc,addr,t.regs a,0,0,false⟩) own rb t ⟨22,(a:Int),(b:Int),(c:Int),ik⟩ O.size V addr W W':=by
 have i0:=hM.rn.ic (j:=0) rfl
 have i1:=hM.rn.ic (j:=1) rfl
 have i2:=hM.rn.ic (j:=2) rfl
 have i3:=hM.rn.ic (j:=3) rfl
 have i4:=hM.rn.ic (j:=4) rfl
 have hlt:=hM.rn.lt
 dsimp only at i0 i1 i2 i3 i4
 have hM1:=hM.alloc hP (.cells #[.int .i64 22,.int .i64 (a:Int),.int .i64 (b:Int),.int .i64 (c:Int),.int .u32 ik] 75)
 have hX:=Blk.new W1 75 #[.int .i64 22,.int .i64 (a:Int),.int .i64 (b:Int),.int .i64 (c:Int),.int .u32 ik]
 have hr:=reg_r hP a rfl ha8 hM1
 have HC:=Lib.hid (hP.less (n+1) s hc)
 clear hM hM1 hX
 go_enter Tryz.func153,Tryz.ntmps153
 go_wp2_with fail
 refine hr.mono ?_
 rintro e W2 ⟨rfl,hM2⟩
 have c2:=hM2.rn.reg ha8
 obtain ⟨rv,hrv⟩: ∃rv,t.regs a=rv:=⟨_,rfl⟩
 rw [hrv]at c2
 have HRV:=Lib.hid hrv
 have hN:=note_r hP n (W:=W) ⟨6,0,0,0,rv,0,0,false⟩ hM2 HC.out hrb
 clear hr hM2 i0 i1 i2 i3 i4 hrv
 go_wp2_with fail
 refine hN.mono ?_
 rintro e W3 ⟨⟨u,rfl⟩,hM3⟩
 have HM3:=Lib.hid hM3
 clear hN hM3 c2
 go_wp2
 go_end0
 rw [HRV.out]
 exact ⟨⟨_,rfl⟩,HM3.out⟩
set_option maxHeartbeats 4000000 in
theorem plain_remote {σ:Type} {O:Ops σ} {V:Pv} {Inv:σ->(Nat->Prop)->World->Prop} {can:Nat->σ->Prop} (hP:PortOk O V Inv can) (n:Nat) (s:σ) (own:Nat->Prop) (rb:Nat) (t:Th) (a b c:Nat) (ik addr:Int) (W W1:World)
 (hM:RMoves Inv s own rb t ⟨25,(a:Int),(b:Int),(c:Int),ik⟩ O.size V addr W W1) (hc:can (n+2) s) (hrb:rb<W.heap.size) (ha8:a<8) (hb8:b<8) (hc8:c<8):
 Calls Tryz.prog 153 #[.pointer (some ⟨rb,0,none⟩)] W1 fun e W'=>(∃u,e= .returned u)/\RMoves Inv (O.note (O.remote s) ⟨10,0,t.pc,addr,0,0,0,false⟩) own rb t ⟨25,(a:Int),(b:Int),(c:Int),ik⟩ O.size V addr W W':=by
 have i0:=hM.rn.ic (j:=0) rfl
 have i1:=hM.rn.ic (j:=1) rfl
 have i2:=hM.rn.ic (j:=2) rfl
 have i3:=hM.rn.ic (j:=3) rfl
 have i4:=hM.rn.ic (j:=4) rfl
 have hlt:=hM.rn.lt
 dsimp only at i0 i1 i2 i3 i4
 have hM1:=hM.alloc hP (.cells #[.int .i64 25,.int .i64 (a:Int),.int .i64 (b:Int),.int .i64 (c:Int),.int .u32 ik] 75)
 have hX:=Blk.new W1 75 #[.int .i64 25,.int .i64 (a:Int),.int .i64 (b:Int),.int .i64 (c:Int),.int .u32 ik]
 obtain ⟨c15,c16,c17,c18,c19,c20,c21,c22,c23,c24,c25,c26⟩:=hM1.rn.pt
 have hG:=hP.goes.2.2.2.2.2.2.2.2.1
 unfold Goes at hG
 unfold Fv.val at c24
 have hS:=remote_r hP (n+1) hM1 hc hrb
 have HC:=Lib.hid (hP.cremote (n+1) s hc)
 have hgo:=fun arr=>hG arr (W1.alloc (.cells #[.int .i64 25,.int .i64 (a:Int),.int .i64 (b:Int),.int .i64 (c:Int),.int .u32 ik] 75))
 clear hM hM1 hX c15 c16 c17 c18 c19 c20 c21 c22 c23 c25 c26 hG
 go_enter Tryz.func153,Tryz.ntmps153
 go_wp2_with fail
 refine hS.mono ?_
 rintro e W2 ⟨⟨u,rfl⟩,hM2⟩
 have hN:=note_r hP n (W:=W) ⟨10,0,0,0,0,0,0,false⟩ hM2 HC.out hrb
 clear hS hM2 i0 i1 i2 i3 i4 c24 hgo
 go_wp2_with fail
 refine hN.mono ?_
 rintro e W3 ⟨⟨u,rfl⟩,hM3⟩
 have HM3:=Lib.hid hM3
 clear hN hM3
 go_wp2
 go_end0
 exact ⟨⟨_,rfl⟩,HM3.out⟩
set_option maxHeartbeats 4000000 in
theorem plain_mark {σ:Type} {O:Ops σ} {V:Pv} {Inv:σ->(Nat->Prop)->World->Prop} {can:Nat->σ->Prop} (hP:PortOk O V Inv can) (n:Nat) (s:σ) (own:Nat->Prop) (rb:Nat) (t:Th) (a b c:Nat) (ik addr:Int) (W W1:World)
 (hM:RMoves Inv s own rb t ⟨27,(a:Int),(b:Int),(c:Int),ik⟩ O.size V addr W W1) (hc:can (n+2) s) (hrb:rb<W.heap.size) (ha8:a<8) (hb8:b<8) (hc8:c<8):
 Calls Tryz.prog 153 #[.pointer (some ⟨rb,0,none⟩)] W1 fun e W'=>(∃u,e= .returned u)/\RMoves Inv (O.note s ⟨7,0,t.pc,addr,t.regs a,0,ik,false⟩) own rb t ⟨27,(a:Int),(b:Int),(c:Int),ik⟩ O.size V addr W W':=by
 have HC:=Lib.hid (hP.less (n+1) s hc)
 have i0:=hM.rn.ic (j:=0) rfl
 have i1:=hM.rn.ic (j:=1) rfl
 have i2:=hM.rn.ic (j:=2) rfl
 have i3:=hM.rn.ic (j:=3) rfl
 have i4:=hM.rn.ic (j:=4) rfl
 have hlt:=hM.rn.lt
 dsimp only at i0 i1 i2 i3 i4
 have hM1:=hM.alloc hP (.cells #[.int .i64 27,.int .i64 (a:Int),.int .i64 (b:Int),.int .i64 (c:Int),.int .u32 ik] 75)
 have hX:=Blk.new W1 75 #[.int .i64 27,.int .i64 (a:Int),.int .i64 (b:Int),.int .i64 (c:Int),.int .u32 ik]
 have hM0:=hM1.drew hP
 have hX0:=hX.drew
 have HH:=Lib.hid (And.intro hM0 hX0)
 clear hM hM1 hX hM0 hX0
 go_enter Tryz.func153,Tryz.ntmps153
 go_wp2
 refine startG (fun W'=>Below ((W1.alloc (.cells #[.int .i64 27,.int .i64 (a:Int),.int .i64 (b:Int),.int .i64 (c:Int),.int .u32 ik] 75)).drew).heap.size ((W1.alloc (.cells #[.int .i64 27,.int .i64 (a:Int),.int .i64 (b:Int),.int .i64 (c:Int),.int .u32 ik] 75)).drew) W') 8 (by kernel_rfl) ?_
 obtain ⟨hM0,hX0⟩:=HH.out
 obtain ⟨xb,hxb⟩: ∃xb,W1.heap.size=xb:=⟨_,rfl⟩
 rw [hxb]at hX0⊢
 generalize (W1.alloc (.cells #[.int .i64 27,.int .i64 (a:Int),.int .i64 (b:Int),.int .i64 (c:Int),.int .u32 ik] 75)).drew=W0 at hM0 hX0⊢
 clear hxb HH i0 i1 i2 i3 i4
 have x1:=(hX0.cell 1).trans rfl
 have x2:=(hX0.cell 2).trans rfl
 have x3:=(hX0.cell 3).trans rfl
 have x0:=(hX0.cell 0).trans rfl
 have x4:=(hX0.cell 4).trans rfl
 simp only [List.getElem?_toArray,List.getElem?_cons_zero,List.getElem?_cons_succ]at x0 x1 x2 x3 x4
 have hxl:=hX0.lt
 have hH:=Below.refl W0.heap.size W0
 have rr:=hM0.rn.reg ha8
 have hrl:=hM0.rn.lt
 obtain ⟨rv,hrv⟩: ∃rv,t.regs a=rv:=⟨_,rfl⟩
 rw [hrv]at rr
 have HRV:=Lib.hid hrv
 clear hrv
 refine takeA (i:=0) (v:= .pointer (some ⟨rb,0,none⟩)) rfl hH ?_
 simp only [Act.put,zA,zB,zC,zD,zE,zF]
 refine takeA (i:=1) (v:= .pointer (some ⟨rb,0,none⟩)) rfl hH ?_
 simp only [Act.put,zA,zB,zC,zD,zE,zF]
 refine takeA (i:=5) (v:= .pointer (some ⟨xb,4,none⟩)) rfl hH ?_
 simp only [Act.put,zA,zB,zC,zD,zE,zF]
 refine takeB (i:=6) (v:= .int .u32 ik) rfl (Or.inl ⟨by rfl,fun W hW=>by have q0:=keepAt hW hxl x4;go_simp⟩) hH ?_
 simp only [Act.put,zA,zB,zC,zD,zE,zF]
 refine onlyG (i:=2) (by kernel_rfl) rfl (fun K hK=>?_)
 go_simp
 refine (reg_rb hP a rfl ha8 hM0).mono ?_
 rintro e W2 ⟨rfl,hM2,hb2⟩
 go_wp2_with fail
 refine hK.out _ _ hb2 (fun _=>?_)
 clear hK K
 try simp only [Act.put,zA,zB,zC,zD,zE,zF]
 refine takeA (i:=3) (v:= .pointer (some ⟨rb,1+a,none⟩)) rfl hb2 ?_
 simp only [Act.put,zA,zB,zC,zD,zE,zF]
 refine takeB (i:=4) (v:= .int .u32 rv) rfl (Or.inl ⟨by rfl,fun W hW=>by have q0:=keepAt hW hrl rr;go_simp⟩) hb2 ?_
 simp only [Act.put,zA,zB,zC,zD,zE,zF]
 refine takeA (i:=7) (v:= .agg #[.int .i64 7,.int .i64 0,.int .i64 0,.int .i64 0,.int .u32 rv,.int .u32 0,.int .u32 ik,.bool false]) rfl hb2 ?_
 simp only [Act.put,zA,zB,zC,zD,zE,zF]
 refine lastG (by kernel_rfl) rfl (by kernel_rfl) (fun K hK=>?_)
 go_simp
 refine (note_r hP n (W:=W) ⟨7,0,0,0,rv,0,ik,false⟩ hM2 HC.out hrb).mono ?_
 rintro e W3 ⟨⟨u,rfl⟩,hM3⟩
 go_wp2_with fail
 refine hK.out _ _ ?_
 clear hK K
 have HM3:=Lib.hid hM3
 clear hM3
 go_wp2
 go_end0
 rw [HRV.out]
 exact ⟨⟨_,rfl⟩,HM3.out⟩
set_option maxHeartbeats 4000000 in
theorem plain_alu {σ:Type} {O:Ops σ} {V:Pv} {Inv:σ->(Nat->Prop)->World->Prop} {can:Nat->σ->Prop} (hP:PortOk O V Inv can) (n:Nat) (s:σ) (own:Nat->Prop) (rb:Nat) (t:Th) (a b c:Nat) (ik addr:Int) (opn:Nat) (h3:3<=opn) (h12:opn<=12) (W W1:World)
 (hM:RMoves Inv s own rb t ⟨(opn:Int),(a:Int),(b:Int),(c:Int),ik⟩ O.size V addr W W1) (hc:can (n+2) s) (hrb:rb<W.heap.size) (ha8:a<8) (hb8:b<8) (hc8:c<8) (hk0: ∀r,0<=t.regs r/\t.regs r<=4294967295):
 Calls Tryz.prog 153 #[.pointer (some ⟨rb,0,none⟩)] W1 fun e W'=>(∃u,e= .returned u)/\RMoves Inv s own rb {t with regs:=updR t.regs a (aluF opn (t.regs b) (t.regs c))} ⟨(opn:Int),(a:Int),(b:Int),(c:Int),ik⟩ O.size V addr W W':=by
 obtain ⟨aw,haw⟩: ∃aw,aluF opn (t.regs b) (t.regs c)=aw:=⟨_,rfl⟩
 have hdo:=fun W=>do_any opn h3 h12 (t.regs b) (t.regs c) (hk0 c).1 (hk0 c).2 W
 rw [haw]at hdo
 have HAW:=Lib.hid haw
 have hne:((opn:Int)==1)=false/\((opn:Int)==2)=false/\((opn:Int)==18)=false/\((opn:Int)==22)=false/\((opn:Int)==27)=false/\((opn:Int)==25)=false:=by
  refine ⟨?_,?_,?_,?_,?_,?_⟩<;>(simp;omega)
 obtain ⟨z1,z2,z3,z4,z5,z6⟩:=hne
 have HDO:=Lib.hid hdo
 clear hdo haw
 have i0:=hM.rn.ic (j:=0) rfl
 have i1:=hM.rn.ic (j:=1) rfl
 have i2:=hM.rn.ic (j:=2) rfl
 have i3:=hM.rn.ic (j:=3) rfl
 have i4:=hM.rn.ic (j:=4) rfl
 have hlt:=hM.rn.lt
 dsimp only at i0 i1 i2 i3 i4
 have hM1:=hM.alloc hP (.cells #[.int .i64 (opn:Int),.int .i64 (a:Int),.int .i64 (b:Int),.int .i64 (c:Int),.int .u32 ik] 75)
 have hX:=Blk.new W1 75 #[.int .i64 (opn:Int),.int .i64 (a:Int),.int .i64 (b:Int),.int .i64 (c:Int),.int .u32 ik]
 have hM0:=hM1.drew hP
 have hX0:=hX.drew
 have HH:=Lib.hid (And.intro hM0 hX0)
 clear hM hM1 hX hM0 hX0
 go_enter Tryz.func153,Tryz.ntmps153
 go_wp2
 refine startG (fun W'=>Below ((W1.alloc (.cells #[.int .i64 (opn:Int),.int .i64 (a:Int),.int .i64 (b:Int),.int .i64 (c:Int),.int .u32 ik] 75)).drew).heap.size ((W1.alloc (.cells #[.int .i64 (opn:Int),.int .i64 (a:Int),.int .i64 (b:Int),.int .i64 (c:Int),.int .u32 ik] 75)).drew) W') 23 (by kernel_rfl) ?_
 obtain ⟨hM0,hX0⟩:=HH.out
 obtain ⟨xb,hxb⟩: ∃xb,W1.heap.size=xb:=⟨_,rfl⟩
 rw [hxb]at hX0⊢
 generalize (W1.alloc (.cells #[.int .i64 (opn:Int),.int .i64 (a:Int),.int .i64 (b:Int),.int .i64 (c:Int),.int .u32 ik] 75)).drew=W0 at hM0 hX0⊢
 clear hxb HH i0 i1 i2 i3 i4
 have x1:=(hX0.cell 1).trans rfl
 have x2:=(hX0.cell 2).trans rfl
 have x3:=(hX0.cell 3).trans rfl
 have x0:=(hX0.cell 0).trans rfl
 have x4:=(hX0.cell 4).trans rfl
 simp only [List.getElem?_toArray,List.getElem?_cons_zero,List.getElem?_cons_succ]at x0 x1 x2 x3 x4
 have hxl:=hX0.lt
 have hH:=Below.refl W0.heap.size W0
 have rr:=hM0.rn.reg hb8
 have rs:=hM0.rn.reg hc8
 have hrl:=hM0.rn.lt
 obtain ⟨rv,hrv⟩: ∃rv,t.regs b=rv:=⟨_,rfl⟩
 obtain ⟨rw',hrw⟩: ∃rv,t.regs c=rv:=⟨_,rfl⟩
 rw [hrv]at rr
 rw [hrw]at rs
 have HRV:=Lib.hid (And.intro hrv hrw)
 have nb0:(0:Int)<=(b:Int):=by omega
 have nb8:(b:Int)<8:=by omega
 have nc0:(0:Int)<=(c:Int):=by omega
 have nc8:(c:Int)<8:=by omega
 clear hrv hrw
 refine takeB (i:=0) (v:= .pointer (some ⟨xb,0,none⟩)) rfl (Or.inl ⟨by rfl,fun W hW=>by go_simp⟩) hH ?_
 simp only [Act.put,zA,zB,zC,zD,zE,zF]
 refine takeB (i:=1) (v:= .int .i64 (opn:Int)) rfl (Or.inl ⟨by rfl,fun W hW=>by have q0:=keepAt hW hxl x0;go_simp⟩) hH ?_
 simp only [Act.put,zA,zB,zC,zD,zE,zF]
 refine takeB (i:=2) (v:= .pointer (some ⟨rb,0,none⟩)) rfl (Or.inl ⟨by rfl,fun W hW=>by go_simp⟩) hH ?_
 simp only [Act.put,zA,zB,zC,zD,zE,zF]
 refine takeB (i:=3) (v:= .pointer (some ⟨xb,2,none⟩)) rfl (Or.inl ⟨by rfl,fun W hW=>by go_simp⟩) hH ?_
 simp only [Act.put,zA,zB,zC,zD,zE,zF]
 refine takeB (i:=4) (v:= .int .i64 (b:Int)) rfl (Or.inl ⟨by rfl,fun W hW=>by have q0:=keepAt hW hxl x2;go_simp⟩) hH ?_
 simp only [Act.put,zA,zB,zC,zD,zE,zF]
 refine takeB (i:=5) (v:= .pointer (some ⟨rb,0,none⟩)) rfl (Or.inl ⟨by rfl,fun W hW=>by go_simp⟩) hH ?_
 simp only [Act.put,zA,zB,zC,zD,zE,zF]
 refine takeB (i:=6) (v:= .pointer (some ⟨rb,0,none⟩)) rfl (Or.inl ⟨by rfl,fun W hW=>by go_simp⟩) hH ?_
 simp only [Act.put,zA,zB,zC,zD,zE,zF]
 refine takeB (i:=7) (v:= .pointer (some ⟨rb,1,none⟩)) rfl (Or.inl ⟨by rfl,fun W hW=>by go_simp⟩) hH ?_
 simp only [Act.put,zA,zB,zC,zD,zE,zF]
 refine takeB (i:=8) (v:= .pointer (some ⟨rb,1+b,none⟩)) rfl (Or.inl ⟨by rfl,fun W hW=>by go_simp⟩) hH ?_
 simp only [Act.put,zA,zB,zC,zD,zE,zF]
 refine takeB (i:=9) (v:= .int .u32 rv) rfl (Or.inl ⟨by rfl,fun W hW=>by have q0:=keepAt hW hrl rr;go_simp⟩) hH ?_
 simp only [Act.put,zA,zB,zC,zD,zE,zF]
 refine takeB (i:=10) (v:= .pointer (some ⟨rb,0,none⟩)) rfl (Or.inl ⟨by rfl,fun W hW=>by go_simp⟩) hH ?_
 simp only [Act.put,zA,zB,zC,zD,zE,zF]
 refine takeB (i:=11) (v:= .pointer (some ⟨xb,3,none⟩)) rfl (Or.inl ⟨by rfl,fun W hW=>by go_simp⟩) hH ?_
 simp only [Act.put,zA,zB,zC,zD,zE,zF]
 refine takeB (i:=12) (v:= .int .i64 (c:Int)) rfl (Or.inl ⟨by rfl,fun W hW=>by have q0:=keepAt hW hxl x3;go_simp⟩) hH ?_
 simp only [Act.put,zA,zB,zC,zD,zE,zF]
 refine takeB (i:=13) (v:= .pointer (some ⟨rb,0,none⟩)) rfl (Or.inl ⟨by rfl,fun W hW=>by go_simp⟩) hH ?_
 simp only [Act.put,zA,zB,zC,zD,zE,zF]
 refine takeB (i:=14) (v:= .pointer (some ⟨rb,0,none⟩)) rfl (Or.inl ⟨by rfl,fun W hW=>by go_simp⟩) hH ?_
 simp only [Act.put,zA,zB,zC,zD,zE,zF]
 refine takeB (i:=15) (v:= .pointer (some ⟨rb,1,none⟩)) rfl (Or.inl ⟨by rfl,fun W hW=>by go_simp⟩) hH ?_
 simp only [Act.put,zA,zB,zC,zD,zE,zF]
 refine takeB (i:=16) (v:= .pointer (some ⟨rb,1+c,none⟩)) rfl (Or.inl ⟨by rfl,fun W hW=>by go_simp⟩) hH ?_
 simp only [Act.put,zA,zB,zC,zD,zE,zF]
 refine takeB (i:=17) (v:= .int .u32 rw') rfl (Or.inl ⟨by rfl,fun W hW=>by have q0:=keepAt hW hrl rs;go_simp⟩) hH ?_
 simp only [Act.put,zA,zB,zC,zD,zE,zF]
 refine onlyG (i:=18) (by kernel_rfl) rfl (fun K hK=>?_)
 go_simp
 have h0:=HDO.out W0
 rw [HRV.out.1,HRV.out.2]at h0
 refine h0.mono ?_
 rintro e W2 ⟨rfl,hb2⟩
 go_wp2_with fail
 refine hK.out _ _ hb2 (fun _=>?_)
 clear hK K
 try simp only [Act.put,zA,zB,zC,zD,zE,zF]
 refine takeB (i:=19) (v:= .tuple #[.int .u32 aw,.bool true]) rfl (Or.inl ⟨by rfl,fun W hW=>by go_simp⟩) hb2 ?_
 simp only [Act.put,zA,zB,zC,zD,zE,zF]
 refine takeB (i:=20) (v:= .int .u32 aw) rfl (Or.inl ⟨by rfl,fun W hW=>by go_simp⟩) hb2 ?_
 simp only [Act.put,zA,zB,zC,zD,zE,zF]
 refine takeB (i:=21) (v:= .bool true) rfl (Or.inl ⟨by rfl,fun W hW=>by go_simp⟩) hb2 ?_
 simp only [Act.put,zA,zB,zC,zD,zE,zF]
 refine onlyG (i:=22) (by kernel_rfl) rfl (fun K hK=>?_)
 go_simp
 refine hK.out _ _ hb2 (fun _=>?_)
 clear hK K
 try simp only [Act.put,zA,zB,zC,zD,zE,zF]
 have HM2:=Lib.hid (hM0.below hP hb2)
 refine lastG (by kernel_rfl) rfl (by kernel_rfl) (fun K hK=>?_)
 go_simp
 refine hK.out _ _ ?_
 clear hK K x0 x1 x2 x3 x4 rr rs
 have hr:=reg_r hP a rfl ha8 HM2.out
 go_wp2_with fail
 refine hr.mono ?_
 rintro e W3 ⟨rfl,hM3⟩
 have c5:=hM3.rn.reg ha8
 have f5:=hM3.rn.fz (1+a)
 have HM5:=Lib.hid (hM3.set_ hP (1+a) (.int .u32 aw) (fun h=>h.setReg ha8 aw))
 clear hr hM3
 go_wp2
 go_end0
 rw [HAW.out]
 exact ⟨⟨_,rfl⟩,HM5.out⟩
set_option maxHeartbeats 4000000 in
theorem plain_yield {σ:Type} {O:Ops σ} {V:Pv} {Inv:σ->(Nat->Prop)->World->Prop} {can:Nat->σ->Prop} (hP:PortOk O V Inv can) (n:Nat) (s:σ) (own:Nat->Prop) (rb:Nat) (t:Th) (a b c:Nat) (ik addr:Int) (W W1:World)
 (hM:RMoves Inv s own rb t ⟨26,(a:Int),(b:Int),(c:Int),ik⟩ O.size V addr W W1) (hc:can (n+2) s) (hrb:rb<W.heap.size) (ha8:a<8) (hb8:b<8) (hc8:c<8):
 Calls Tryz.prog 153 #[.pointer (some ⟨rb,0,none⟩)] W1 fun e W'=>(∃u,e= .returned u)/\RMoves Inv s own rb t ⟨26,(a:Int),(b:Int),(c:Int),ik⟩ O.size V addr W W':=by
 have i0:=hM.rn.ic (j:=0) rfl
 have i1:=hM.rn.ic (j:=1) rfl
 have i2:=hM.rn.ic (j:=2) rfl
 have i3:=hM.rn.ic (j:=3) rfl
 have i4:=hM.rn.ic (j:=4) rfl
 have hlt:=hM.rn.lt
 dsimp only at i0 i1 i2 i3 i4
 have hM1:=hM.alloc hP (.cells #[.int .i64 26,.int .i64 (a:Int),.int .i64 (b:Int),.int .i64 (c:Int),.int .u32 ik] 75)
 have hX:=Blk.new W1 75 #[.int .i64 26,.int .i64 (a:Int),.int .i64 (b:Int),.int .i64 (c:Int),.int .u32 ik]
 have hM0:=hM1.drew hP
 have hX0:=hX.drew
 have HH:=Lib.hid (And.intro hM0 hX0)
 clear hM hM1 hX hM0 hX0
 go_enter Tryz.func153,Tryz.ntmps153
 go_wp2
 refine startG (fun W'=>Below ((W1.alloc (.cells #[.int .i64 26,.int .i64 (a:Int),.int .i64 (b:Int),.int .i64 (c:Int),.int .u32 ik] 75)).drew).heap.size ((W1.alloc (.cells #[.int .i64 26,.int .i64 (a:Int),.int .i64 (b:Int),.int .i64 (c:Int),.int .u32 ik] 75)).drew) W') 23 (by kernel_rfl) ?_
 obtain ⟨hM0,hX0⟩:=HH.out
 obtain ⟨xb,hxb⟩: ∃xb,W1.heap.size=xb:=⟨_,rfl⟩
 rw [hxb]at hX0⊢
 generalize (W1.alloc (.cells #[.int .i64 26,.int .i64 (a:Int),.int .i64 (b:Int),.int .i64 (c:Int),.int .u32 ik] 75)).drew=W0 at hM0 hX0⊢
 clear hxb HH i0 i1 i2 i3 i4
 have x1:=(hX0.cell 1).trans rfl
 have x2:=(hX0.cell 2).trans rfl
 have x3:=(hX0.cell 3).trans rfl
 have x0:=(hX0.cell 0).trans rfl
 have x4:=(hX0.cell 4).trans rfl
 simp only [List.getElem?_toArray,List.getElem?_cons_zero,List.getElem?_cons_succ]at x0 x1 x2 x3 x4
 have hxl:=hX0.lt
 have hH:=Below.refl W0.heap.size W0
 have rr:=hM0.rn.reg hb8
 have rs:=hM0.rn.reg hc8
 have hrl:=hM0.rn.lt
 obtain ⟨rv,hrv⟩: ∃rv,t.regs b=rv:=⟨_,rfl⟩
 obtain ⟨rw',hrw⟩: ∃rv,t.regs c=rv:=⟨_,rfl⟩
 rw [hrv]at rr
 rw [hrw]at rs
 have HRV:=Lib.hid (And.intro hrv hrw)
 have nb0:(0:Int)<=(b:Int):=by omega
 have nb8:(b:Int)<8:=by omega
 have nc0:(0:Int)<=(c:Int):=by omega
 have nc8:(c:Int)<8:=by omega
 clear hrv hrw
 refine takeB (i:=0) (v:= .pointer (some ⟨xb,0,none⟩)) rfl (Or.inl ⟨by rfl,fun W hW=>by go_simp⟩) hH ?_
 simp only [Act.put,zA,zB,zC,zD,zE,zF]
 refine takeB (i:=1) (v:= .int .i64 26) rfl (Or.inl ⟨by rfl,fun W hW=>by have q0:=keepAt hW hxl x0;go_simp⟩) hH ?_
 simp only [Act.put,zA,zB,zC,zD,zE,zF]
 refine takeB (i:=2) (v:= .pointer (some ⟨rb,0,none⟩)) rfl (Or.inl ⟨by rfl,fun W hW=>by go_simp⟩) hH ?_
 simp only [Act.put,zA,zB,zC,zD,zE,zF]
 refine takeB (i:=3) (v:= .pointer (some ⟨xb,2,none⟩)) rfl (Or.inl ⟨by rfl,fun W hW=>by go_simp⟩) hH ?_
 simp only [Act.put,zA,zB,zC,zD,zE,zF]
 refine takeB (i:=4) (v:= .int .i64 (b:Int)) rfl (Or.inl ⟨by rfl,fun W hW=>by have q0:=keepAt hW hxl x2;go_simp⟩) hH ?_
 simp only [Act.put,zA,zB,zC,zD,zE,zF]
 refine takeB (i:=5) (v:= .pointer (some ⟨rb,0,none⟩)) rfl (Or.inl ⟨by rfl,fun W hW=>by go_simp⟩) hH ?_
 simp only [Act.put,zA,zB,zC,zD,zE,zF]
 refine takeB (i:=6) (v:= .pointer (some ⟨rb,0,none⟩)) rfl (Or.inl ⟨by rfl,fun W hW=>by go_simp⟩) hH ?_
 simp only [Act.put,zA,zB,zC,zD,zE,zF]
 refine takeB (i:=7) (v:= .pointer (some ⟨rb,1,none⟩)) rfl (Or.inl ⟨by rfl,fun W hW=>by go_simp⟩) hH ?_
 simp only [Act.put,zA,zB,zC,zD,zE,zF]
 refine takeB (i:=8) (v:= .pointer (some ⟨rb,1+b,none⟩)) rfl (Or.inl ⟨by rfl,fun W hW=>by go_simp⟩) hH ?_
 simp only [Act.put,zA,zB,zC,zD,zE,zF]
 refine takeB (i:=9) (v:= .int .u32 rv) rfl (Or.inl ⟨by rfl,fun W hW=>by have q0:=keepAt hW hrl rr;go_simp⟩) hH ?_
 simp only [Act.put,zA,zB,zC,zD,zE,zF]
 refine takeB (i:=10) (v:= .pointer (some ⟨rb,0,none⟩)) rfl (Or.inl ⟨by rfl,fun W hW=>by go_simp⟩) hH ?_
 simp only [Act.put,zA,zB,zC,zD,zE,zF]
 refine takeB (i:=11) (v:= .pointer (some ⟨xb,3,none⟩)) rfl (Or.inl ⟨by rfl,fun W hW=>by go_simp⟩) hH ?_
 simp only [Act.put,zA,zB,zC,zD,zE,zF]
 refine takeB (i:=12) (v:= .int .i64 (c:Int)) rfl (Or.inl ⟨by rfl,fun W hW=>by have q0:=keepAt hW hxl x3;go_simp⟩) hH ?_
 simp only [Act.put,zA,zB,zC,zD,zE,zF]
 refine takeB (i:=13) (v:= .pointer (some ⟨rb,0,none⟩)) rfl (Or.inl ⟨by rfl,fun W hW=>by go_simp⟩) hH ?_
 simp only [Act.put,zA,zB,zC,zD,zE,zF]
 refine takeB (i:=14) (v:= .pointer (some ⟨rb,0,none⟩)) rfl (Or.inl ⟨by rfl,fun W hW=>by go_simp⟩) hH ?_
 simp only [Act.put,zA,zB,zC,zD,zE,zF]
 refine takeB (i:=15) (v:= .pointer (some ⟨rb,1,none⟩)) rfl (Or.inl ⟨by rfl,fun W hW=>by go_simp⟩) hH ?_
 simp only [Act.put,zA,zB,zC,zD,zE,zF]
 refine takeB (i:=16) (v:= .pointer (some ⟨rb,1+c,none⟩)) rfl (Or.inl ⟨by rfl,fun W hW=>by go_simp⟩) hH ?_
 simp only [Act.put,zA,zB,zC,zD,zE,zF]
 refine takeB (i:=17) (v:= .int .u32 rw') rfl (Or.inl ⟨by rfl,fun W hW=>by have q0:=keepAt hW hrl rs;go_simp⟩) hH ?_
 simp only [Act.put,zA,zB,zC,zD,zE,zF]
 refine onlyG (i:=18) (by kernel_rfl) rfl (fun K hK=>?_)
 go_simp
 refine (do_no 26 rv rw' (by omega) W0).mono ?_
 rintro e W2 ⟨rfl,hb2⟩
 have hb2:Below W0.heap.size W0 W2:=hb2▸hH
 go_wp2_with fail
 refine hK.out _ _ hb2 (fun _=>?_)
 clear hK K
 try simp only [Act.put,zA,zB,zC,zD,zE,zF]
 refine takeB (i:=19) (v:= .tuple #[.int .u32 0,.bool false]) rfl (Or.inl ⟨by rfl,fun W hW=>by go_simp⟩) hb2 ?_
 simp only [Act.put,zA,zB,zC,zD,zE,zF]
 refine takeB (i:=20) (v:= .int .u32 0) rfl (Or.inl ⟨by rfl,fun W hW=>by go_simp⟩) hb2 ?_
 simp only [Act.put,zA,zB,zC,zD,zE,zF]
 refine takeB (i:=21) (v:= .bool false) rfl (Or.inl ⟨by rfl,fun W hW=>by go_simp⟩) hb2 ?_
 simp only [Act.put,zA,zB,zC,zD,zE,zF]
 refine onlyG (i:=22) (by kernel_rfl) rfl (fun K hK=>?_)
 go_simp
 refine hK.out _ _ hb2 (fun _=>?_)
 clear hK K
 try simp only [Act.put,zA,zB,zC,zD,zE,zF]
 have HM2:=Lib.hid (hM0.below hP hb2)
 refine lastG (by kernel_rfl) rfl (by kernel_rfl) (fun K hK=>?_)
 go_simp
 refine hK.out _ _ ?_
 clear hK K x0 x1 x2 x3 x4 rr rs
 have HM3:=HM2.out
 have HM4:=Lib.hid HM3
 clear HM3
 go_wp2
 go_end0
 exact ⟨⟨_,rfl⟩,HM4.out⟩
set_option maxHeartbeats 4000000 in
theorem asks_load {σ:Type} {O:Ops σ} {V:Pv} {Inv:σ->(Nat->Prop)->World->Prop} {can:Nat->σ->Prop} (hP:PortOk O V Inv can) (n:Nat) (s:σ) (own:Nat->Prop) (rb:Nat) (t:Th) (a c m:Nat) (ib ik:Int) (W W1:World)
 (hM:RMoves Inv s own rb t ⟨16,(a:Int),ib,(c:Int),ik⟩ O.size V (m:Int) W W1) (hc:can (n+2) s) (hrb:rb<W.heap.size) (ha8:a<8) (hc8:c<8) (hm:m<O.size):
 Calls Tryz.prog 152 #[.pointer (some ⟨rb,0,none⟩)] W1 fun e W'=>(∃u,e= .returned u)/\RMoves Inv (O.note (O.load s m).2 ⟨1,0,t.pc,(m:Int),(O.load s m).1,0,0,false⟩) own rb {t with regs:=updR t.regs a (O.load s m).1} ⟨16,(a:Int),ib,(c:Int),ik⟩ O.size V (m:Int) W W':=by
 obtain ⟨ra,hra⟩: ∃ra,t.regs a=ra:=⟨_,rfl⟩
 have HRA:=Lib.hid hra
 clear hra
 obtain ⟨v,hv⟩: ∃v,(O.load s m).1=v:=⟨_,rfl⟩
 obtain ⟨s1,hs1⟩: ∃s1,(O.load s m).2=s1:=⟨_,rfl⟩
 have hcl:=hP.cload _ s m hc
 rw [hs1]at hcl
 have HL:=Lib.hid (And.intro hv (And.intro hs1 (And.intro hc hcl)))
 clear hv hs1 hc hcl
 have hr1:=reg_r hP a rfl ha8 hM
 clear hM
 go_enter Tryz.func152,Tryz.ntmps152
 go_wp2_with fail
 refine hr1.mono ?_
 rintro e W2 ⟨rfl,hM2⟩
 have i0:=hM2.rn.ic (j:=0) rfl
 dsimp only at i0
 have hlt:=hM2.rn.lt
 clear hr1
 have r2:=hM2.rn.reg ha8
 rw [HRA.out]at r2
 obtain ⟨c15,c16,c17,c18,c19,c20,c21,c22,c23,c24,c25,c26⟩:=hM2.rn.pt
 have hG:=hP.goes.1
 unfold Goes at hG
 unfold Fv.val at c16
 have HM:=Lib.hid hM2
 clear c15 c17 c18 c19 c20 c21 c22 c23 c24 c25 hM2
 go_wp2
 refine startG (fun W'=>W'.cell? ⟨rb,16,none⟩=some (.func (.func V.load.k) V.load.f V.load.c)/\W'.cell? ⟨rb,26,none⟩=some (.int .i64 (m:Int))/\W'.cell? ⟨rb,1+a,none⟩=some (.int .u32 ra)) 12 (by kernel_rfl) ?_
 have hH:(fun W'=>W'.cell? ⟨rb,16,none⟩=some (.func (.func V.load.k) V.load.f V.load.c)/\W'.cell? ⟨rb,26,none⟩=some (.int .i64 (m:Int))/\W'.cell? ⟨rb,1+a,none⟩=some (.int .u32 ra)) W2.drew:=⟨c16,c26,r2⟩
 have hS:=load_r hP (n+1) m (HM.out.drew hP) HL.out.2.2.1 hrb hm
 rw [HL.out.1,HL.out.2.1]at hS
 clear c16 c26 r2 i0
 generalize W2.drew=W3 at hH hS⊢
 refine takeA (i:=0) (v:= .pointer (some ⟨rb,1+a,none⟩)) rfl hH ?_
 simp only [Act.put,zA,zB,zC,zD,zE,zF]
 refine takeA (i:=1) (v:= .pointer (some ⟨rb,0,none⟩)) rfl hH ?_
 simp only [Act.put,zA,zB,zC,zD,zE,zF]
 refine takeA (i:=2) (v:= .pointer (some ⟨rb,0,none⟩)) rfl hH ?_
 simp only [Act.put,zA,zB,zC,zD,zE,zF]
 refine takeA (i:=3) (v:= .pointer (some ⟨rb,15,none⟩)) rfl hH ?_
 simp only [Act.put,zA,zB,zC,zD,zE,zF]
 refine takeA (i:=4) (v:= .pointer (some ⟨rb,16,none⟩)) rfl hH ?_
 simp only [Act.put,zA,zB,zC,zD,zE,zF]
 refine takeB (i:=5) (v:= .func (.func V.load.k) V.load.f V.load.c) rfl (Or.inl ⟨by rfl,fun W hW=>by obtain ⟨q0,q1,q2⟩:=hW;go_simp⟩) hH ?_
 simp only [Act.put,zA,zB,zC,zD,zE,zF]
 refine takeA (i:=6) (v:= .pointer (some ⟨rb,0,none⟩)) rfl hH ?_
 simp only [Act.put,zA,zB,zC,zD,zE,zF]
 refine takeA (i:=7) (v:= .pointer (some ⟨rb,0,none⟩)) rfl hH ?_
 simp only [Act.put,zA,zB,zC,zD,zE,zF]
 refine takeA (i:=8) (v:= .pointer (some ⟨rb,26,none⟩)) rfl hH ?_
 simp only [Act.put,zA,zB,zC,zD,zE,zF]
 refine takeB (i:=9) (v:= .int .i64 (m:Int)) rfl (Or.inl ⟨by rfl,fun W hW=>by obtain ⟨q0,q1,q2⟩:=hW;go_simp⟩) hH ?_
 simp only [Act.put,zA,zB,zC,zD,zE,zF]
 refine onlyG (i:=10) (by kernel_rfl) rfl (fun K hK=>?_)
 have hgo:=fun arr=>hG arr W3
 go_simp
 refine hS.mono ?_
 rintro e W4 ⟨rfl,hM4⟩
 go_wp2_with fail
 obtain ⟨d15,d16,d17,d18,d19,d20,d21,d22,d23,d24,d25,d26⟩:=hM4.rn.pt
 have d4:=hM4.rn.reg ha8
 rw [HRA.out]at d4
 have hH4:=And.intro d16 (And.intro d26 d4)
 refine hK.out _ _ hH4 (fun _=>?_)
 clear hK K d15 d16 d17 d18 d19 d20 d21 d22 d23 d24 d25 d26 d4 hgo
 try simp only [Act.put,zA,zB,zC,zD,zE,zF]
 refine takeA (i:=11) (v:= .pointer (some ⟨rb,1+a,none⟩)) rfl hH4 ?_
 simp only [Act.put,zA,zB,zC,zD,zE,zF]
 have c4:=hM4.rn.reg ha8
 have f4:=hM4.rn.fz (1+a)
 have hM5:=hM4.set_ hP (1+a) (.int .u32 v) (fun h=>h.setReg ha8 v)
 have hN:=note_r hP n (W:=W) ⟨1,0,0,0,v,0,0,false⟩ hM5 HL.out.2.2.2 hrb
 clear hM4 hM5
 refine lastG (by kernel_rfl) rfl (by kernel_rfl) (fun K hK=>?_)
 go_simp
 refine hK.out _ _ ?_
 clear hK K
 go_wp2_with fail
 refine hN.mono ?_
 rintro e W6 ⟨⟨u,rfl⟩,hM6⟩
 have HM6:=Lib.hid hM6
 clear hN hM6 c4 f4
 go_wp2
 go_end0
 rw [HL.out.1,HL.out.2.1]
 exact ⟨⟨_,rfl⟩,HM6.out⟩
set_option maxHeartbeats 4000000 in
theorem asks_store {σ:Type} {O:Ops σ} {V:Pv} {Inv:σ->(Nat->Prop)->World->Prop} {can:Nat->σ->Prop} (hP:PortOk O V Inv can) (n:Nat) (s:σ) (own:Nat->Prop) (rb:Nat) (t:Th) (a c m:Nat) (ib ik:Int) (W W1:World)
 (hM:RMoves Inv s own rb t ⟨17,(a:Int),ib,(c:Int),ik⟩ O.size V (m:Int) W W1) (hc:can (n+2) s) (hrb:rb<W.heap.size) (ha8:a<8) (hc8:c<8) (hm:m<O.size) (hroom:O.room s=true):
 Calls Tryz.prog 152 #[.pointer (some ⟨rb,0,none⟩)] W1 fun e W'=>(∃u,e= .returned u)/\RMoves Inv (O.note (O.store s m (t.regs a)) ⟨2,0,t.pc,(m:Int),t.regs a,0,0,false⟩) own rb t ⟨17,(a:Int),ib,(c:Int),ik⟩ O.size V (m:Int) W W':=by
 obtain ⟨ra,hra⟩: ∃ra,t.regs a=ra:=⟨_,rfl⟩
 have HRA:=Lib.hid hra
 clear hra
 have HC:=Lib.hid (And.intro hc (And.intro (hP.cstore (n+1) s m ra hc) hroom))
 clear hc hroom
 have hr1:=reg_r hP a rfl ha8 hM
 clear hM
 go_enter Tryz.func152,Tryz.ntmps152
 go_wp2_with fail
 refine hr1.mono ?_
 rintro e W2 ⟨rfl,hM2⟩
 have i0:=hM2.rn.ic (j:=0) rfl
 dsimp only at i0
 have hlt:=hM2.rn.lt
 clear hr1
 have r2:=hM2.rn.reg ha8
 rw [HRA.out]at r2
 obtain ⟨c15,c16,c17,c18,c19,c20,c21,c22,c23,c24,c25,c26⟩:=hM2.rn.pt
 have hG:=hP.goes.2.2.1
 unfold Goes at hG
 unfold Fv.val at c18
 have HM:=Lib.hid hM2
 clear c15 c16 c17 c19 c20 c21 c22 c23 c24 c25 hM2
 go_wp2
 go_still_tail 12,(by kernel_rfl)
 change wpList _ _ _ _ _ W2.drew
 have hgo:=fun arr=>hG arr W2.drew
 have hS:=store_r hP (n+1) m ra (HM.out.drew hP) HC.out.1 hrb hm HC.out.2.2
 clear hG c18 r2 c26 i0
 generalize W2.drew=W3 at hgo hS⊢
 go_wp2_with fail
 refine hS.mono ?_
 rintro e W4 ⟨⟨u,rfl⟩,hM4⟩
 have c4:=hM4.rn.reg ha8
 rw [HRA.out]at c4
 have hN:=note_r hP n (W:=W) ⟨2,0,0,0,ra,0,0,false⟩ hM4 HC.out.2.1 hrb
 clear hS hgo hM4
 go_wp2_with fail
 refine hN.mono ?_
 rintro e W6 ⟨⟨u,rfl⟩,hM6⟩
 have HM6:=Lib.hid hM6
 clear hN hM6 c4
 go_wp2
 go_end0
 rw [HRA.out]
 exact ⟨⟨_,rfl⟩,HM6.out⟩
set_option maxHeartbeats 4000000 in
theorem asks_fetch {σ:Type} {O:Ops σ} {V:Pv} {Inv:σ->(Nat->Prop)->World->Prop} {can:Nat->σ->Prop} (hP:PortOk O V Inv can) (n:Nat) (s:σ) (own:Nat->Prop) (rb:Nat) (t:Th) (a c m:Nat) (ib ik:Int) (W W1:World)
 (hM:RMoves Inv s own rb t ⟨20,(a:Int),ib,(c:Int),ik⟩ O.size V (m:Int) W W1) (hc:can (n+3) s) (hrb:rb<W.heap.size) (ha8:a<8) (hc8:c<8) (hm:m<O.size):
 Calls Tryz.prog 152 #[.pointer (some ⟨rb,0,none⟩)] W1 fun e W'=>(∃u,e= .returned u)/\RMoves Inv (lockS O (O.load s m).2 t.pc m (O.load s m).1 (((O.load s m).1+t.regs a)% 4294967296) true) own rb {t with regs:=updR t.regs a (O.load s m).1} ⟨20,(a:Int),ib,(c:Int),ik⟩ O.size V (m:Int) W W':=by
 obtain ⟨ra,hra⟩: ∃ra,t.regs a=ra:=⟨_,rfl⟩
 have HRA:=Lib.hid hra
 clear hra
 obtain ⟨v,hv⟩: ∃v,(O.load s m).1=v:=⟨_,rfl⟩
 obtain ⟨s1,hs1⟩: ∃s1,(O.load s m).2=s1:=⟨_,rfl⟩
 have hcl:=hP.cload _ s m hc
 rw [hs1]at hcl
 have HL:=Lib.hid (And.intro hv (And.intro hs1 (And.intro hc hcl)))
 clear hv hs1 hc hcl
 have hr1:=reg_r hP a rfl ha8 hM
 clear hM
 go_enter Tryz.func152,Tryz.ntmps152
 go_wp2_with fail
 refine hr1.mono ?_
 rintro e W2 ⟨rfl,hM2⟩
 have i0:=hM2.rn.ic (j:=0) rfl
 dsimp only at i0
 have hlt:=hM2.rn.lt
 clear hr1
 obtain ⟨c15,c16,c17,c18,c19,c20,c21,c22,c23,c24,c25,c26⟩:=hM2.rn.pt
 have hG:=hP.goes.1
 unfold Goes at hG
 unfold Fv.val at c16
 have HM:=Lib.hid hM2
 clear c15 c17 c18 c19 c20 c21 c22 c23 c24 c25 hM2
 go_wp2
 go_still_tail 9,(by kernel_rfl)
 change wpList _ _ _ _ _ W2.drew
 have hgo:=fun arr=>hG arr W2.drew
 have hS:=load_r hP (n+2) m (HM.out.drew hP) HL.out.2.2.1 hrb hm
 rw [HL.out.1,HL.out.2.1]at hS
 clear hG c16 c26 i0
 generalize W2.drew=W3 at hgo hS⊢
 go_wp2_with fail
 refine hS.mono ?_
 rintro e W4 ⟨rfl,hM4⟩
 have c4:=hM4.rn.reg ha8
 rw [HRA.out]at c4
 have hK:=locked_any hP n s1 own rb t ⟨20,(a:Int),ib,(c:Int),ik⟩ m a v ((v+ra)% 4294967296) true W W4 hM4 HL.out.2.2.2 hrb hm rfl ha8
 clear hS hgo hM4
 go_wp2_with fail
 refine hK.mono ?_
 rintro e W6 ⟨⟨u,rfl⟩,hM6⟩
 have HM6:=Lib.hid hM6
 clear hK hM6 c4
 go_wp2
 go_end0
 rw [HL.out.1,HL.out.2.1,HRA.out]
 exact ⟨⟨_,rfl⟩,HM6.out⟩
set_option maxHeartbeats 4000000 in
theorem asks_cas {σ:Type} {O:Ops σ} {V:Pv} {Inv:σ->(Nat->Prop)->World->Prop} {can:Nat->σ->Prop} (hP:PortOk O V Inv can) (n:Nat) (s:σ) (own:Nat->Prop) (rb:Nat) (t:Th) (a c m:Nat) (ib ik:Int) (W W1:World)
 (hM:RMoves Inv s own rb t ⟨21,(a:Int),ib,(c:Int),ik⟩ O.size V (m:Int) W W1) (hc:can (n+3) s) (hrb:rb<W.heap.size) (ha8:a<8) (hc8:c<8) (hm:m<O.size):
 Calls Tryz.prog 152 #[.pointer (some ⟨rb,0,none⟩)] W1 fun e W'=>(∃u,e= .returned u)/\RMoves Inv (lockS O (O.load s m).2 t.pc m (O.load s m).1 (t.regs c) ((O.load s m).1==t.regs a)) own rb {t with regs:=updR t.regs a (O.load s m).1} ⟨21,(a:Int),ib,(c:Int),ik⟩ O.size V (m:Int) W W':=by
 obtain ⟨ra,hra⟩: ∃ra,t.regs a=ra:=⟨_,rfl⟩
 have HRA:=Lib.hid hra
 clear hra
 obtain ⟨rc,hrc⟩: ∃rc,t.regs c=rc:=⟨_,rfl⟩
 have HRC:=Lib.hid hrc
 clear hrc
 obtain ⟨v,hv⟩: ∃v,(O.load s m).1=v:=⟨_,rfl⟩
 obtain ⟨s1,hs1⟩: ∃s1,(O.load s m).2=s1:=⟨_,rfl⟩
 have hcl:=hP.cload _ s m hc
 rw [hs1]at hcl
 have HL:=Lib.hid (And.intro hv (And.intro hs1 (And.intro hc hcl)))
 clear hv hs1 hc hcl
 have hr1:=reg_r hP a rfl ha8 hM
 clear hM
 go_enter Tryz.func152,Tryz.ntmps152
 go_wp2_with fail
 refine hr1.mono ?_
 rintro e W2 ⟨rfl,hM2⟩
 have i0:=hM2.rn.ic (j:=0) rfl
 dsimp only at i0
 have hlt:=hM2.rn.lt
 clear hr1
 obtain ⟨c15,c16,c17,c18,c19,c20,c21,c22,c23,c24,c25,c26⟩:=hM2.rn.pt
 have hG:=hP.goes.1
 unfold Goes at hG
 unfold Fv.val at c16
 have HM:=Lib.hid hM2
 clear c15 c17 c18 c19 c20 c21 c22 c23 c24 c25 hM2
 go_wp2
 go_still_tail 9,(by kernel_rfl)
 change wpList _ _ _ _ _ W2.drew
 have hgo:=fun arr=>hG arr W2.drew
 have hS:=load_r hP (n+2) m (HM.out.drew hP) HL.out.2.2.1 hrb hm
 rw [HL.out.1,HL.out.2.1]at hS
 clear hG c16 c26 i0
 generalize W2.drew=W3 at hgo hS⊢
 go_wp2_with fail
 refine hS.mono ?_
 rintro e W4 ⟨rfl,hM4⟩
 have c4:=hM4.rn.reg ha8
 rw [HRA.out]at c4
 have d4:=hM4.rn.reg hc8
 rw [HRC.out]at d4
 have e4:=hM4.rn.ic (j:=3) rfl
 dsimp only at e4
 have nc0:(0:Int)<=(c:Int):=by omega
 have nc8:(c:Int)<8:=by omega
 have HM4:=Lib.hid hM4
 clear hS hgo hM4
 go_wp2
 go_still_tail 18,(by kernel_rfl)
 change wpList _ _ _ _ _ W4.drew
 have hK:=locked_any hP n s1 own rb t ⟨21,(a:Int),ib,(c:Int),ik⟩ m a v rc (v==ra) W W4.drew (HM4.out.drew hP) HL.out.2.2.2 hrb hm rfl ha8
 clear c4 d4 e4
 generalize W4.drew=W5 at hK⊢
 go_wp2_with fail
 refine hK.mono ?_
 rintro e W6 ⟨⟨u,rfl⟩,hM6⟩
 have HM6:=Lib.hid hM6
 clear hK hM6
 go_wp2
 go_end0
 rw [HL.out.1,HL.out.2.1,HRA.out,HRC.out]
 exact ⟨⟨_,rfl⟩,HM6.out⟩
set_option maxHeartbeats 4000000 in
theorem asks_wait {σ:Type} {O:Ops σ} {V:Pv} {Inv:σ->(Nat->Prop)->World->Prop} {can:Nat->σ->Prop} (hP:PortOk O V Inv can) (n:Nat) (s:σ) (own:Nat->Prop) (rb:Nat) (t:Th) (a c m:Nat) (ib ik:Int) (W W1:World)
 (hM:RMoves Inv s own rb t ⟨23,(a:Int),ib,(c:Int),ik⟩ O.size V (m:Int) W W1) (hc:can (n+3) s) (hrb:rb<W.heap.size) (ha8:a<8) (hc8:c<8) (hm:m<O.size):
 Calls Tryz.prog 152 #[.pointer (some ⟨rb,0,none⟩)] W1 fun e W'=>(∃u,e= .returned u)/\RMoves Inv (waitR O s t m a).2 own rb (waitR O s t m a).1 ⟨23,(a:Int),ib,(c:Int),ik⟩ O.size V (m:Int) W W':=by
 have hr1:=reg_r hP a rfl ha8 hM
 clear hM
 go_enter Tryz.func152,Tryz.ntmps152
 go_wp2_with fail
 refine hr1.mono ?_
 rintro e W2 ⟨rfl,hM2⟩
 have i0:=hM2.rn.ic (j:=0) rfl
 dsimp only at i0
 have hlt:=hM2.rn.lt
 clear hr1
 have hK:=wait_any hP n s own rb t ⟨23,(a:Int),ib,(c:Int),ik⟩ m a W W2 hM2 hc hrb hm rfl ha8
 clear hM2
 go_wp2_with fail
 refine hK.mono ?_
 rintro e W6 ⟨⟨u,rfl⟩,hM6⟩
 have HM6:=Lib.hid hM6
 clear hK hM6 i0
 go_wp2
 go_end0
 exact ⟨⟨_,rfl⟩,HM6.out⟩
set_option maxHeartbeats 4000000 in
theorem asks_wake {σ:Type} {O:Ops σ} {V:Pv} {Inv:σ->(Nat->Prop)->World->Prop} {can:Nat->σ->Prop} (hP:PortOk O V Inv can) (n:Nat) (s:σ) (own:Nat->Prop) (rb:Nat) (t:Th) (a c m:Nat) (ib ik:Int) (W W1:World)
 (hM:RMoves Inv s own rb t ⟨24,(a:Int),ib,(c:Int),ik⟩ O.size V (m:Int) W W1) (hc:can (n+2) s) (hrb:rb<W.heap.size) (ha8:a<8) (hc8:c<8) (hm:m<O.size) (hra0:0<=t.regs a/\t.regs a<=4294967295):
 Calls Tryz.prog 152 #[.pointer (some ⟨rb,0,none⟩)] W1 fun e W'=>(∃u,e= .returned u)/\RMoves Inv (O.note (O.wake s m (t.regs a)).2 ⟨9,0,t.pc,(m:Int),(O.wake s m (t.regs a)).1,0,0,false⟩) own rb {t with regs:=updR t.regs a (O.wake s m (t.regs a)).1} ⟨24,(a:Int),ib,(c:Int),ik⟩ O.size V (m:Int) W W':=by
 obtain ⟨ra,hra⟩: ∃ra,t.regs a=ra:=⟨_,rfl⟩
 have HRA:=Lib.hid hra
 clear hra
 rw [HRA.out]at hra0⊢
 obtain ⟨v,hv⟩: ∃v,(O.wake s m ra).1=v:=⟨_,rfl⟩
 obtain ⟨s1,hs1⟩: ∃s1,(O.wake s m ra).2=s1:=⟨_,rfl⟩
 have hcl:=hP.cwake (n+1) s m ra hc
 rw [hs1]at hcl
 have HL:=Lib.hid (And.intro hv (And.intro hs1 (And.intro hc (And.intro hcl hra0))))
 clear hv hs1 hc hcl hra0
 have hr1:=reg_r hP a rfl ha8 hM
 clear hM
 go_enter Tryz.func152,Tryz.ntmps152
 go_wp2_with fail
 refine hr1.mono ?_
 rintro e W2 ⟨rfl,hM2⟩
 have i0:=hM2.rn.ic (j:=0) rfl
 dsimp only at i0
 have hlt:=hM2.rn.lt
 clear hr1
 have r2:=hM2.rn.reg ha8
 rw [HRA.out]at r2
 obtain ⟨c15,c16,c17,c18,c19,c20,c21,c22,c23,c24,c25,c26⟩:=hM2.rn.pt
 have hG:=hP.goes.2.2.2.2.2.2.2.1
 unfold Goes at hG
 unfold Fv.val at c23
 have HM:=Lib.hid hM2
 clear c15 c16 c17 c18 c19 c20 c21 c22 c24 c25 hM2
 go_wp2
 refine startG (fun W'=>W'.cell? ⟨rb,23,none⟩=some (.func (.func V.wake.k) V.wake.f V.wake.c)/\W'.cell? ⟨rb,26,none⟩=some (.int .i64 (m:Int))/\W'.cell? ⟨rb,1+a,none⟩=some (.int .u32 ra)) 15 (by kernel_rfl) ?_
 have hH:(fun W'=>W'.cell? ⟨rb,23,none⟩=some (.func (.func V.wake.k) V.wake.f V.wake.c)/\W'.cell? ⟨rb,26,none⟩=some (.int .i64 (m:Int))/\W'.cell? ⟨rb,1+a,none⟩=some (.int .u32 ra)) W2.drew:=⟨c23,c26,r2⟩
 have hS:=wake_r hP (n+1) m ra (HM.out.drew hP) HL.out.2.2.1 hrb HL.out.2.2.2.2.1 HL.out.2.2.2.2.2
 rw [HL.out.1,HL.out.2.1]at hS
 clear c23 c26 r2 i0
 generalize W2.drew=W3 at hH hS⊢
 refine takeA (i:=0) (v:= .pointer (some ⟨rb,1+a,none⟩)) rfl hH ?_
 simp only [Act.put,zA,zB,zC,zD,zE,zF]
 refine takeA (i:=1) (v:= .pointer (some ⟨rb,0,none⟩)) rfl hH ?_
 simp only [Act.put,zA,zB,zC,zD,zE,zF]
 refine takeA (i:=2) (v:= .pointer (some ⟨rb,0,none⟩)) rfl hH ?_
 simp only [Act.put,zA,zB,zC,zD,zE,zF]
 refine takeA (i:=3) (v:= .pointer (some ⟨rb,15,none⟩)) rfl hH ?_
 simp only [Act.put,zA,zB,zC,zD,zE,zF]
 refine takeA (i:=4) (v:= .pointer (some ⟨rb,23,none⟩)) rfl hH ?_
 simp only [Act.put,zA,zB,zC,zD,zE,zF]
 refine takeB (i:=5) (v:= .func (.func V.wake.k) V.wake.f V.wake.c) rfl (Or.inl ⟨by rfl,fun W hW=>by obtain ⟨q0,q1,q2⟩:=hW;go_simp⟩) hH ?_
 simp only [Act.put,zA,zB,zC,zD,zE,zF]
 refine takeA (i:=6) (v:= .pointer (some ⟨rb,0,none⟩)) rfl hH ?_
 simp only [Act.put,zA,zB,zC,zD,zE,zF]
 refine takeA (i:=7) (v:= .pointer (some ⟨rb,0,none⟩)) rfl hH ?_
 simp only [Act.put,zA,zB,zC,zD,zE,zF]
 refine takeA (i:=8) (v:= .pointer (some ⟨rb,26,none⟩)) rfl hH ?_
 simp only [Act.put,zA,zB,zC,zD,zE,zF]
 refine takeB (i:=9) (v:= .int .i64 (m:Int)) rfl (Or.inl ⟨by rfl,fun W hW=>by obtain ⟨q0,q1,q2⟩:=hW;go_simp⟩) hH ?_
 simp only [Act.put,zA,zB,zC,zD,zE,zF]
 refine takeA (i:=10) (v:= .pointer (some ⟨rb,1+a,none⟩)) rfl hH ?_
 simp only [Act.put,zA,zB,zC,zD,zE,zF]
 refine takeA (i:=11) (v:= .pointer (some ⟨rb,1+a,none⟩)) rfl hH ?_
 simp only [Act.put,zA,zB,zC,zD,zE,zF]
 refine takeB (i:=12) (v:= .int .u32 ra) rfl (Or.inl ⟨by rfl,fun W hW=>by obtain ⟨q0,q1,q2⟩:=hW;go_simp⟩) hH ?_
 simp only [Act.put,zA,zB,zC,zD,zE,zF]
 refine onlyG (i:=13) (by kernel_rfl) rfl (fun K hK=>?_)
 have hgo:=fun arr=>hG arr W3
 go_simp
 refine hS.mono ?_
 rintro e W4 ⟨rfl,hM4⟩
 go_wp2_with fail
 obtain ⟨d15,d16,d17,d18,d19,d20,d21,d22,d23,d24,d25,d26⟩:=hM4.rn.pt
 have d4:=hM4.rn.reg ha8
 rw [HRA.out]at d4
 have hH4:=And.intro d23 (And.intro d26 d4)
 refine hK.out _ _ hH4 (fun _=>?_)
 clear hK K d15 d16 d17 d18 d19 d20 d21 d22 d23 d24 d25 d26 d4 hgo
 try simp only [Act.put,zA,zB,zC,zD,zE,zF]
 refine takeA (i:=14) (v:= .pointer (some ⟨rb,1+a,none⟩)) rfl hH4 ?_
 simp only [Act.put,zA,zB,zC,zD,zE,zF]
 have c4:=hM4.rn.reg ha8
 have f4:=hM4.rn.fz (1+a)
 have hM5:=hM4.set_ hP (1+a) (.int .u32 v) (fun h=>h.setReg ha8 v)
 have hN:=note_r hP n (W:=W) ⟨9,0,0,0,v,0,0,false⟩ hM5 HL.out.2.2.2.1 hrb
 clear hM4 hM5
 refine lastG (by kernel_rfl) rfl (by kernel_rfl) (fun K hK=>?_)
 go_simp
 refine hK.out _ _ ?_
 clear hK K
 go_wp2_with fail
 refine hN.mono ?_
 rintro e W6 ⟨⟨u,rfl⟩,hM6⟩
 have HM6:=Lib.hid hM6
 clear hN hM6 c4 f4
 go_wp2
 go_end0
 rw [HL.out.1,HL.out.2.1]
 exact ⟨⟨_,rfl⟩,HM6.out⟩
set_option maxHeartbeats 4000000 in
theorem asks_swap {σ:Type} {O:Ops σ} {V:Pv} {Inv:σ->(Nat->Prop)->World->Prop} {can:Nat->σ->Prop} (hP:PortOk O V Inv can) (n:Nat) (s:σ) (own:Nat->Prop) (rb:Nat) (t:Th) (a c m:Nat) (ib ik:Int) (W W1:World)
 (hM:RMoves Inv s own rb t ⟨19,(a:Int),ib,(c:Int),ik⟩ O.size V (m:Int) W W1) (hc:can (n+3) s) (hrb:rb<W.heap.size) (ha8:a<8) (hc8:c<8) (hm:m<O.size):
 Calls Tryz.prog 152 #[.pointer (some ⟨rb,0,none⟩)] W1 fun e W'=>(∃u,e= .returned u)/\RMoves Inv (lockS O (O.load s m).2 t.pc m (O.load s m).1 (t.regs a) true) own rb {t with regs:=updR t.regs a (O.load s m).1} ⟨19,(a:Int),ib,(c:Int),ik⟩ O.size V (m:Int) W W':=by
 obtain ⟨ra,hra⟩: ∃ra,t.regs a=ra:=⟨_,rfl⟩
 have HRA:=Lib.hid hra
 clear hra
 obtain ⟨v,hv⟩: ∃v,(O.load s m).1=v:=⟨_,rfl⟩
 obtain ⟨s1,hs1⟩: ∃s1,(O.load s m).2=s1:=⟨_,rfl⟩
 have hcl:=hP.cload _ s m hc
 rw [hs1]at hcl
 have HL:=Lib.hid (And.intro hv (And.intro hs1 (And.intro hc hcl)))
 clear hv hs1 hc hcl
 have hr1:=reg_r hP a rfl ha8 hM
 clear hM
 go_enter Tryz.func152,Tryz.ntmps152
 go_wp2_with fail
 refine hr1.mono ?_
 rintro e W2 ⟨rfl,hM2⟩
 have i0:=hM2.rn.ic (j:=0) rfl
 dsimp only at i0
 have hlt:=hM2.rn.lt
 clear hr1
 have r2:=hM2.rn.reg ha8
 rw [HRA.out]at r2
 obtain ⟨c15,c16,c17,c18,c19,c20,c21,c22,c23,c24,c25,c26⟩:=hM2.rn.pt
 have hG:=hP.goes.1
 unfold Goes at hG
 unfold Fv.val at c16
 have HM:=Lib.hid hM2
 clear c15 c17 c18 c19 c20 c21 c22 c23 c24 c25 hM2
 go_wp2
 refine startG (fun W'=>W'.cell? ⟨rb,16,none⟩=some (.func (.func V.load.k) V.load.f V.load.c)/\W'.cell? ⟨rb,26,none⟩=some (.int .i64 (m:Int))/\W'.cell? ⟨rb,1+a,none⟩=some (.int .u32 ra)) 14 (by kernel_rfl) ?_
 have hH:(fun W'=>W'.cell? ⟨rb,16,none⟩=some (.func (.func V.load.k) V.load.f V.load.c)/\W'.cell? ⟨rb,26,none⟩=some (.int .i64 (m:Int))/\W'.cell? ⟨rb,1+a,none⟩=some (.int .u32 ra)) W2.drew:=⟨c16,c26,r2⟩
 have hS:=load_r hP (n+2) m (HM.out.drew hP) HL.out.2.2.1 hrb hm
 rw [HL.out.1,HL.out.2.1]at hS
 clear c16 c26 r2 i0
 generalize W2.drew=W3 at hH hS⊢
 refine takeA (i:=0) (v:= .pointer (some ⟨rb,0,none⟩)) rfl hH ?_
 simp only [Act.put,zA,zB,zC,zD,zE,zF]
 refine takeA (i:=1) (v:= .pointer (some ⟨rb,0,none⟩)) rfl hH ?_
 simp only [Act.put,zA,zB,zC,zD,zE,zF]
 refine takeA (i:=2) (v:= .pointer (some ⟨rb,0,none⟩)) rfl hH ?_
 simp only [Act.put,zA,zB,zC,zD,zE,zF]
 refine takeA (i:=3) (v:= .pointer (some ⟨rb,15,none⟩)) rfl hH ?_
 simp only [Act.put,zA,zB,zC,zD,zE,zF]
 refine takeA (i:=4) (v:= .pointer (some ⟨rb,16,none⟩)) rfl hH ?_
 simp only [Act.put,zA,zB,zC,zD,zE,zF]
 refine takeB (i:=5) (v:= .func (.func V.load.k) V.load.f V.load.c) rfl (Or.inl ⟨by rfl,fun W hW=>by obtain ⟨q0,q1,q2⟩:=hW;go_simp⟩) hH ?_
 simp only [Act.put,zA,zB,zC,zD,zE,zF]
 refine takeA (i:=6) (v:= .pointer (some ⟨rb,0,none⟩)) rfl hH ?_
 simp only [Act.put,zA,zB,zC,zD,zE,zF]
 refine takeA (i:=7) (v:= .pointer (some ⟨rb,0,none⟩)) rfl hH ?_
 simp only [Act.put,zA,zB,zC,zD,zE,zF]
 refine takeA (i:=8) (v:= .pointer (some ⟨rb,26,none⟩)) rfl hH ?_
 simp only [Act.put,zA,zB,zC,zD,zE,zF]
 refine takeB (i:=9) (v:= .int .i64 (m:Int)) rfl (Or.inl ⟨by rfl,fun W hW=>by obtain ⟨q0,q1,q2⟩:=hW;go_simp⟩) hH ?_
 simp only [Act.put,zA,zB,zC,zD,zE,zF]
 refine takeA (i:=11) (v:= .pointer (some ⟨rb,1+a,none⟩)) rfl hH ?_
 simp only [Act.put,zA,zB,zC,zD,zE,zF]
 refine takeA (i:=12) (v:= .pointer (some ⟨rb,1+a,none⟩)) rfl hH ?_
 simp only [Act.put,zA,zB,zC,zD,zE,zF]
 refine takeB (i:=13) (v:= .int .u32 ra) rfl (Or.inl ⟨by rfl,fun W hW=>by obtain ⟨q0,q1,q2⟩:=hW;go_simp⟩) hH ?_
 simp only [Act.put,zA,zB,zC,zD,zE,zF]
 refine onlyG (i:=10) (by kernel_rfl) rfl (fun K hK=>?_)
 have hgo:=fun arr=>hG arr W3
 go_simp
 refine hS.mono ?_
 rintro e W4 ⟨rfl,hM4⟩
 go_wp2_with fail
 obtain ⟨d15,d16,d17,d18,d19,d20,d21,d22,d23,d24,d25,d26⟩:=hM4.rn.pt
 have d4:=hM4.rn.reg ha8
 rw [HRA.out]at d4
 refine hK.out _ _ ⟨d16,d26,d4⟩ (fun _=>?_)
 clear hK K d15 d16 d17 d18 d19 d20 d21 d22 d23 d24 d25 d26 d4 hgo
 try simp only [Act.put,zA,zB,zC,zD,zE,zF]
 refine lastG (by kernel_rfl) rfl (by kernel_rfl) (fun K hK=>?_)
 have hLk:=locked_any hP n s1 own rb t ⟨19,(a:Int),ib,(c:Int),ik⟩ m a v ra true W W4 hM4 HL.out.2.2.2 hrb hm rfl ha8
 clear hM4
 go_simp
 refine hLk.mono ?_
 rintro e W6 ⟨⟨u,rfl⟩,hM6⟩
 go_wp2_with fail
 refine hK.out _ _ ?_
 clear hK K hLk
 have HM6:=Lib.hid hM6
 clear hM6
 go_wp2
 go_end0
 rw [HL.out.1,HL.out.2.1,HRA.out]
 exact ⟨⟨_,rfl⟩,HM6.out⟩
def asksR {σ:Type} (O:Ops σ) (s:σ) (t:Th) (op:Int) (a c m:Nat):Th×σ:=
 if op=16 then ({t with regs:=updR t.regs a (O.load s m).1},O.note (O.load s m).2 ⟨1,0,t.pc,(m:Int),(O.load s m).1,0,0,false⟩)
 else if op=17 then (t,O.note (O.store s m (t.regs a)) ⟨2,0,t.pc,(m:Int),t.regs a,0,0,false⟩)
 else if op=19 then ({t with regs:=updR t.regs a (O.load s m).1},lockS O (O.load s m).2 t.pc m (O.load s m).1 (t.regs a) true)
 else if op=20 then ({t with regs:=updR t.regs a (O.load s m).1},lockS O (O.load s m).2 t.pc m (O.load s m).1 (((O.load s m).1+t.regs a)% 4294967296) true)
 else if op=21 then ({t with regs:=updR t.regs a (O.load s m).1},lockS O (O.load s m).2 t.pc m (O.load s m).1 (t.regs c) ((O.load s m).1==t.regs a))
 else if op=23 then waitR O s t m a
 else ({t with regs:=updR t.regs a (O.wake s m (t.regs a)).1},O.note (O.wake s m (t.regs a)).2 ⟨9,0,t.pc,(m:Int),(O.wake s m (t.regs a)).1,0,0,false⟩)
theorem asks_all {σ:Type} {O:Ops σ} {V:Pv} {Inv:σ->(Nat->Prop)->World->Prop} {can:Nat->σ->Prop} (hP:PortOk O V Inv can) (n:Nat) (s:σ) (own:Nat->Prop) (rb:Nat) (t:Th) (i:Ins) (a c m:Nat) (ha:i.a=(a:Int)) (hcc:i.c=(c:Int)) (W W1:World)
 (hM:RMoves Inv s own rb t i O.size V (m:Int) W W1) (hc:can (n+3) s) (hrb:rb<W.heap.size) (ha8:a<8) (hc8:c<8) (hm:m<O.size) (hk:askB i.op=true) (hroom:i.op=17->O.room s=true) (hreg: ∀r,0<=t.regs r/\t.regs r<=4294967295):
 Calls Tryz.prog 152 #[.pointer (some ⟨rb,0,none⟩)] W1 fun e W'=>(∃u,e= .returned u)/\RMoves Inv (asksR O s t i.op a c m).2 own rb (asksR O s t i.op a c m).1 i O.size V (m:Int) W W':=by
 obtain ⟨op,ia,ib,ic,ik⟩:=i
 dsimp only at*
 subst ha hcc
 have hk':=of_decide_eq_true hk
 have hc2:=hP.less _ _ hc
 rcases (by omega:op=16∨op=17∨op=19∨op=20∨op=21∨op=23∨op=24)with rfl|rfl|rfl|rfl|rfl|rfl|rfl
 ·exact asks_load hP n s own rb t a c m ib ik W W1 hM hc2 hrb ha8 hc8 hm
 ·exact asks_store hP n s own rb t a c m ib ik W W1 hM hc2 hrb ha8 hc8 hm (hroom rfl)
 ·exact asks_swap hP n s own rb t a c m ib ik W W1 hM hc hrb ha8 hc8 hm
 ·exact asks_fetch hP n s own rb t a c m ib ik W W1 hM hc hrb ha8 hc8 hm
 ·exact asks_cas hP n s own rb t a c m ib ik W W1 hM hc hrb ha8 hc8 hm
 ·exact asks_wait hP n s own rb t a c m ib ik W W1 hM hc hrb ha8 hc8 hm
 ·exact asks_wake hP n s own rb t a c m ib ik W W1 hM hc2 hrb ha8 hc8 hm (hreg a)
theorem plain_all {σ:Type} {O:Ops σ} {V:Pv} {Inv:σ->(Nat->Prop)->World->Prop} {can:Nat->σ->Prop} (hP:PortOk O V Inv can) (n:Nat) (s:σ) (own:Nat->Prop) (rb:Nat) (t:Th) (i:Ins) (a b c:Nat) (addr:Int) (ha:i.a=(a:Int)) (hb:i.b=(b:Int)) (hcc:i.c=(c:Int)) (W W1:World)
 (hM:RMoves Inv s own rb t i O.size V addr W W1) (hc:can (n+2) s) (hrb:rb<W.heap.size) (ha8:a<8) (hb8:b<8) (hc8:c<8) (h1:1<=i.op) (h28:i.op<28) (hk:askB i.op=false) (hj:jmpB i.op=false) (hreg: ∀r,0<=t.regs r/\t.regs r<=4294967295):
 Calls Tryz.prog 153 #[.pointer (some ⟨rb,0,none⟩)] W1 fun e W'=>(∃u,e= .returned u)/\RMoves Inv (plainR O s t i.op.toNat a b c i.k addr).2 own rb (plainR O s t i.op.toNat a b c i.k addr).1 i O.size V addr W W':=by
 obtain ⟨op,ia,ib,ic,ik⟩:=i
 dsimp only at*
 subst ha hb hcc
 have hk':=of_decide_eq_false hk
 have hj':=of_decide_eq_false hj
 obtain ⟨o,rfl⟩: ∃o:Nat,op=(o:Int):=⟨op.toNat,by omega⟩
 rw [Int.toNat_natCast]
 rcases (by omega:(3<=o/\o<=12)∨o=1∨o=2∨o=18∨o=22∨o=25∨o=27∨o=26)with ⟨g3,g12⟩|rfl|rfl|rfl|rfl|rfl|rfl|rfl
 ·have e:plainR O s t o a b c ik addr=({t with regs:=updR t.regs a (aluF o (t.regs b) (t.regs c))},s):=by
   unfold plainR
   rw [if_neg (by omega),if_neg (by omega),if_neg (by omega),if_neg (by omega),if_neg (by omega),if_neg (by omega),if_pos ⟨g3,g12⟩]
  rw [e]
  exact plain_alu hP n s own rb t a b c ik addr o g3 g12 W W1 hM hc hrb ha8 hb8 hc8 hreg
 ·exact plain_set hP n s own rb t a b c ik addr W W1 hM hc hrb ha8 hb8 hc8
 ·exact plain_move hP n s own rb t a b c ik addr W W1 hM hc hrb ha8 hb8 hc8
 ·exact plain_fence hP n s own rb t a b c ik addr W W1 hM hc hrb ha8 hb8 hc8
 ·exact plain_out hP n s own rb t a b c ik addr W W1 hM hc hrb ha8 hb8 hc8
 ·exact plain_remote hP n s own rb t a b c ik addr W W1 hM hc hrb ha8 hb8 hc8
 ·exact plain_mark hP n s own rb t a b c ik addr W W1 hM hc hrb ha8 hb8 hc8
 ·exact plain_yield hP n s own rb t a b c ik addr W W1 hM hc hrb ha8 hb8 hc8
theorem asksR_pc {σ:Type} (O:Ops σ) (s:σ) (t:Th) (op:Int) (a c m:Nat):(asksR O s t op a c m).1.pc=t.pc:=by
 unfold asksR waitR
 repeat' split
 all_goals rfl
theorem plainR_pc {σ:Type} (O:Ops σ) (s:σ) (t:Th) (op a b c:Nat) (k addr:Int):(plainR O s t op a b c k addr).1.pc=t.pc:=by
 unfold plainR
 repeat' split
 all_goals rfl
theorem addrF_u32 (t:Th) (i:Ins) (h0:0<=i.k) (h1:i.k<=4294967295):0<=addrF t i/\addrF t i<=4294967295:=by
 unfold addrF
 split
 ·unfold aluF
  simp
  omega
 ·exact ⟨h0,h1⟩
theorem right_fields (i:Ins) (size:Int) (h:rightB i size=true):0<=i.op/\i.op<28/\(∃a:Nat,i.a=(a:Int)/\a<8)/\(∃c:Nat,i.c=(c:Int)/\c<8)/\(askB i.op=false-> ∃b:Nat,i.b=(b:Int)/\b<8)/\(jmpB i.op=true->i.k<=size):=by
 unfold rightB at h
 by_cases ho:0<=i.op/\i.op<28
 ·rw [if_pos ho]at h
  obtain ⟨hA,hB,hC,hK⟩:=of_decide_eq_true h
  have f7: ∀(x:Int) (u:Bool),FieldP x u 7-> ∃a:Nat,x=(a:Int)/\a<8:=fun x u hf=>by
   unfold FieldP at hf
   refine ⟨x.toNat,?_⟩
   cases u
   ·rw [if_neg (by simp)]at hf;omega
   ·rw [if_pos rfl]at hf;omega
  refine ⟨ho.1,ho.2,f7 _ _ hA,f7 _ _ hC,fun hk=>?_,fun hj=>?_⟩
  ·have :=List.all_eq_true.1 askB_all i.op.toNat (List.mem_range.2 (by omega))
   rw [show ((i.op.toNat:Nat):Int)=i.op by omega,hk]at this
   have hm:(kindAt i.op.toNat).M=false:=eq_of_beq this
   rw [hm]at hB
   exact f7 _ _ hB
  ·have :=List.all_eq_true.1 jmpB_all i.op.toNat (List.mem_range.2 (by omega))
   rw [show ((i.op.toNat:Nat):Int)=i.op by omega,hj]at this
   have hm:(kindAt i.op.toNat).T=true:=eq_of_beq this
   rw [if_pos hm]at hK
   exact hK.2
 ·rw [if_neg ho]at h
  cases h
end Go.Proofs.YtmhfpjnkjlhbpaaGreatDoor
