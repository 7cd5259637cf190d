/- The tables of layer 2, as lists; what the two tables of package isa hold, and that it stays. isa.Name, and the document's Name and Has. The document's Has. isa.Right and the document's Right come to one answer. The document's Right. isa.Right and the document's Right at any instruction; what is wrong with a program first, as a relation. isa.Jumps, Asks, Drains at any op; alu.Do at any op (for seats without isa.Number). isa.Check tells what is wrong first. -/
import Derived.Test.YtmhfpjnkjlhbpaaGreatDoorQd01
import Derived.Lib.LaidTab
import Derived.Deep.DeepHandedRow
import Derived.Deep.DeepCutAuto
import Derived.Deep.DeepMust
import Derived.Deep.RegionHeld3
import Derived.Deep.QuietTactic
import Derived.Test.YtmhfpjnkjlhbpaaGreatDoorQd02
import Derived.Laws.EntriesVeiled
import Derived.Deep.LoopGhost
namespace Go.Proofs.YtmhfpjnkjlhbpaaGreatDoor
open Go.ChangeShapes Go.WideShapes Go.ChangeAt Go.RowKit
set_option linter.unusedVariables false
set_option maxRecDepth 100000
def nmL:List ByteArray:=[⟨#[104,97,108,116]⟩,⟨#[115,101,116]⟩,⟨#[109,111,118,101]⟩,⟨#[97,100,100]⟩,⟨#[115,117,98]⟩,⟨#[109,117,108]⟩,⟨#[97,110,100]⟩,⟨#[111,114]⟩,⟨#[120,111,114]⟩,⟨#[115,104,108]⟩,⟨#[115,104,114]⟩,⟨#[108,101,115,115]⟩,⟨#[115,97,109,101]⟩,⟨#[106,117,109,112]⟩,⟨#[122,101,114,111]⟩,⟨#[115,111,109,101]⟩,⟨#[108,111,97,100]⟩,⟨#[115,116,111,114,101]⟩,⟨#[102,101,110,99,101]⟩,⟨#[115,119,97,112]⟩,⟨#[102,101,116,99,104]⟩,⟨#[99,97,115]⟩,⟨#[111,117,116]⟩,⟨#[119,97,105,116]⟩,⟨#[119,97,107,101]⟩,⟨#[114,101,109,111,116,101]⟩,⟨#[121,105,101,108,100]⟩,⟨#[109,97,114,107]⟩]
def flL:List ByteArray:=[⟨#[]⟩,⟨#[65,75]⟩,⟨#[65,66]⟩,⟨#[65,66,67]⟩,⟨#[65,66,67]⟩,⟨#[65,66,67]⟩,⟨#[65,66,67]⟩,⟨#[65,66,67]⟩,⟨#[65,66,67]⟩,⟨#[65,66,67]⟩,⟨#[65,66,67]⟩,⟨#[65,66,67]⟩,⟨#[65,66,67]⟩,⟨#[84]⟩,⟨#[65,84]⟩,⟨#[65,84]⟩,⟨#[65,77,75]⟩,⟨#[65,77,75]⟩,⟨#[]⟩,⟨#[65,77,75]⟩,⟨#[65,77,75]⟩,⟨#[65,67,77,75]⟩,⟨#[65]⟩,⟨#[65,77,75]⟩,⟨#[65,77,75]⟩,⟨#[]⟩,⟨#[]⟩,⟨#[65,75]⟩]
def useL:List Int:=[0,17,3,7,7,7,7,7,7,7,7,7,7,32,33,33,25,25,0,25,25,29,1,25,25,0,0,17]
def nmS (i:Nat):ByteArray:=nmL.getD i ⟨#[]⟩
def flS (i:Nat):ByteArray:=flL.getD i ⟨#[]⟩
def useN (i:Nat):Int:=useL.getD i 0
def hasF (i:Nat) (c:Int):Bool:=(flS i).data.toList.any (fun b=>decide ((b.toNat:Int)=c))
def Tab (w:World):Prop:=2<=w.heap.size/\(∀i,i<28->w.cell? ⟨0,i,none⟩=some (.int .i64 (useN i)))/\ ∀i,i<28->w.cell? ⟨1,i,none⟩=some (.string (nmS i))
theorem Tab.below {w w1:World} {B:Nat} (h:Tab w) (hb:Below B w w1) (hB:2<=B):Tab w1:=
 ⟨Nat.le_trans h.1 hb.size,fun i hi=>(hb.cell (p:=⟨0,i,none⟩) (Nat.lt_of_lt_of_le (show (0:Nat)<2 by decide) hB)).trans (h.2.1 i hi),
  fun i hi=>(hb.cell (p:=⟨1,i,none⟩) (Nat.lt_of_lt_of_le (show (1:Nat)<2 by decide) hB)).trans (h.2.2 i hi)⟩
theorem Tab.step {w w1:World} (h:Tab w) (hb:Below w.heap.size w w1):Tab w1:=h.below hb h.1
theorem Tab.drew {w:World} (h:Tab w):Tab w.drew:=h
theorem Tab.alloc {w:World} (h:Tab w) (o:Obj):Tab (w.alloc o):=h.step ((Below.refl w.heap.size w).alloc (Nat.le_refl _) o)
theorem ba_ext {a b:ByteArray} (h:(a.data.toList==b.data.toList)=true):a=b:=by
 cases a
 cases b
 simp only [beq_iff_eq]at h
 congr
 exact Array.ext' h
theorem name_in (i:Nat) (hi:i<28) (w:World) (ht:Tab w):
 Calls Tryz.prog 114 #[.int .i64 (i:Int)] w fun e w'=>e= .returned (.string (nmS i))/\Below w.heap.size w w':=by
 have h0: ¬((i:Int)<0):=by omega
 have h1: ¬((28:Int)<=(i:Int)):=by omega
 have hc:=ht.2.2 i hi
 go_enter Tryz.func114,Tryz.ntmps114
 go_wp2
 go_ret
 exact ⟨rfl,Below.refl _ _⟩
theorem name_out (op:Int) (h:op<0∨28<=op) (w:World):
 Calls Tryz.prog 114 #[.int .i64 op] w fun e w'=>e= .returned (.string ⟨#[]⟩)/\Below w.heap.size w w':=by
 go_enter Tryz.func114,Tryz.ntmps114
 rcases h with h|h
 ·go_wp2
  go_ret
  exact ⟨rfl,Below.refl _ _⟩
 ·have h0: ¬op<0:=by omega
  go_wp2
  go_ret
  exact ⟨rfl,Below.refl _ _⟩
end Go.Proofs.YtmhfpjnkjlhbpaaGreatDoor
namespace Go.Proofs.YtmhfpjnkjlhbpaaGreatDoor
open Go.ChangeShapes Go.WideShapes Go.ChangeAt Go.RowKit
set_option linter.unusedVariables false
set_option maxRecDepth 100000
set_option linter.unusedSimpArgs false
def FieldP (n:Int) (used:Bool) (most:Int):Prop:=if used=true then 0<=n/\n<=most else n=0
theorem field_yes (n most:Int) (used:Bool) (w:World) (h:FieldP n used most):
 Calls Tryz.prog 135 #[.int .i64 n,.bool used,.int .i64 most] w fun e w'=>e= .returned (.bool true)/\w=w':=by
 go_enter Tryz.func135,Tryz.ntmps135
 unfold FieldP at h
 cases used
 ·simp only [Bool.false_eq_true,if_false]at h
  subst h
  go_wp2
  go_ret
  exact ⟨rfl,rfl⟩
 ·simp only [if_true]at h
  obtain ⟨h0,h1⟩:=h
  go_wp2
  go_ret
  exact ⟨rfl,rfl⟩
theorem field_no (n most:Int) (used:Bool) (w:World) (h: ¬FieldP n used most):
 Calls Tryz.prog 135 #[.int .i64 n,.bool used,.int .i64 most] w fun e w'=>e= .returned (.bool false)/\w=w':=by
 go_enter Tryz.func135,Tryz.ntmps135
 unfold FieldP at h
 cases used
 ·simp only [Bool.false_eq_true,if_false]at h
  go_wp2
  go_ret
  exact ⟨by simp [h],rfl⟩
 ·simp only [if_true]at h
  by_cases h0:0<=n
  ·have h1: ¬n<=most:=fun h2=>h ⟨h0,h2⟩
   clear h
   go_wp2
   go_ret
   exact ⟨rfl,rfl⟩
  ·clear h
   go_wp2
   go_ret
   exact ⟨rfl,rfl⟩
instance (n:Int) (u:Bool) (m:Int):Decidable (FieldP n u m):=by unfold FieldP;infer_instance
def fieldB (n:Int) (used:Bool) (most:Int):Bool:=decide (FieldP n used most)
theorem field_any (n most:Int) (used:Bool) (w:World):
 Calls Tryz.prog 135 #[.int .i64 n,.bool used,.int .i64 most] w fun e w'=>e= .returned (.bool (fieldB n used most))/\w=w':=by
 unfold fieldB
 by_cases h:FieldP n used most
 ·rw [decide_eq_true h]
  exact field_yes n most used w h
 ·rw [decide_eq_false h]
  exact field_no n most used w h
structure Kind where
 (A B M C T K:Bool)
def kindAt (i:Nat):Kind:=⟨hasF i 65,hasF i 66,hasF i 77,hasF i 67,hasF i 84,hasF i 75⟩
def useFact (i:Nat):Bool:=
 (bits .and .i64 (useN i) 1 !=0)==hasF i 65&&(bits .and .i64 (useN i) 10 !=0)==(hasF i 66||hasF i 77)&&(bits .and .i64 (useN i) 8 !=0)==hasF i 77&&(bits .and .i64 (useN i) 4 !=0)==hasF i 67&&
   (bits .and .i64 (useN i) 32 !=0)==hasF i 84&&(bits .and .i64 (useN i) 16 !=0)==hasF i 75&&(nmS i).toList.isEmpty==false&&(nmS i).data.size !=0
theorem useFacts:(List.range 28).all useFact=true:=by decide+kernel
theorem use_at (i:Nat) (hi:i<28):(bits .and .i64 (useN i) 1 !=0)=hasF i 65/\(bits .and .i64 (useN i) 10 !=0)=(hasF i 66||hasF i 77)/\(bits .and .i64 (useN i) 8 !=0)=hasF i 77/\(bits .and .i64 (useN i) 4 !=0)=hasF i 67/\
 (bits .and .i64 (useN i) 32 !=0)=hasF i 84/\(bits .and .i64 (useN i) 16 !=0)=hasF i 75/\(nmS i).toList.isEmpty=false:=by
 have h:=List.all_eq_true.1 useFacts i (List.mem_range.2 hi)
 unfold useFact at h
 simp only [Bool.and_eq_true,beq_iff_eq]at h
 obtain ⟨⟨⟨⟨⟨⟨⟨h1,h2⟩,h3⟩,h4⟩,h5⟩,h6⟩,h7⟩,h8⟩:=h
 exact ⟨h1,h2,h3,h4,h5,h6,h7⟩
def RightP (q:Kind) (a b c k size:Int):Prop:=
 FieldP a q.A 7/\FieldP b (q.B||q.M) (if q.M=true then 8 else 7)/\FieldP c q.C 7/\(if q.T=true then 0<=size/\k<=size else q.K=true∨k=0)
instance (q:Kind) (a b c k size:Int):Decidable (RightP q a b c k size):=by unfold RightP;infer_instance
set_option maxHeartbeats 4000000 in
theorem isaRight_in (i:Nat) (hi:i<28) (a b c k size:Int) (h0:0<=k) (h1:k<=4294967295) (h2: -9223372036854775808<=size) (h3:size<=9223372036854775807) (w:World) (ht:Tab w):
 Calls Tryz.prog 90 #[.agg #[.int .i64 (i:Int),.int .i64 a,.int .i64 b,.int .i64 c,.int .u32 k],.int .i64 size] w fun e w'=>e= .returned (.bool (decide (RightP (kindAt i) a b c k size)))/\Below w.heap.size w w':=by
 obtain ⟨e1,e10,e8,e4,e32,e16,enm⟩:=use_at i hi
 obtain ⟨r,hr⟩: ∃r,decide (RightP (kindAt i) a b c k size)=r:=⟨_,rfl⟩
 rw [hr]
 unfold kindAt RightP at hr
 obtain ⟨u,hu⟩: ∃u,useN i=u:=⟨_,rfl⟩
 rw [hu]at e1 e10 e8 e4 e32 e16
 generalize hasF i 65=vA at*
 generalize hasF i 66=vB at*
 generalize hasF i 77=vM at*
 generalize hasF i 67=vC at*
 generalize hasF i 84=vT at*
 generalize hasF i 75=vK at*
 have hB:=(Below.refl w.heap.size w).alloc (Nat.le_refl _) (Obj.cells #[.int .i64 (i:Int),.int .i64 a,.int .i64 b,.int .i64 c,.int .u32 k] 75)
 have hq:=Blk.new w 75 #[.int .i64 (i:Int),.int .i64 a,.int .i64 b,.int .i64 c,.int .u32 k]
 go_enter Tryz.func90,Tryz.ntmps90
 go_wp2_with fail
 refine (name_in i hi _ (ht.alloc _)).mono ?_
 rintro e w1 ⟨rfl,hb1⟩
 have hq1:=hq.below hb1 hq.lt
 have hB1:=step_below hB hb1
 have ht1:=(ht.alloc (Obj.cells #[.int .i64 (i:Int),.int .i64 a,.int .i64 b,.int .i64 c,.int .u32 k] 75)).step hb1
 have hc:=ht1.2.1 i hi
 have k0:=hq1.cell 0
 have k1:=hq1.cell 1
 have k2:=hq1.cell 2
 have k3:=hq1.cell 3
 have k4:=hq1.cell 4
 simp only [List.getElem?_toArray,List.getElem?_cons_zero,List.getElem?_cons_succ]at k0 k1 k2 k3 k4
 rw [hu]at hc
 clear hq hB hb1 ht ht1 hu hq1
 by_cases fA:fieldB a vA 7=true
 ·by_cases fB:fieldB b (vB||vM) (if vM=true then 8 else 7)=true
  ·by_cases fC:fieldB c vC 7=true
   ·simp only [of_decide_eq_true fA,of_decide_eq_true fB,of_decide_eq_true fC,true_and]at hr
    cases vT
    ·simp only [Bool.false_eq_true,if_false]at hr
     cases vK
     ·by_cases hk:k=0
      ·subst hk
       obtain rfl:r=true:=by rw [<-hr];simp
       cases vM<;>simp only [Bool.or_true,Bool.or_false,if_true,Bool.false_eq_true,if_false]at fB e10
       all_goals
        go_wp2_with (first|(go_at_call 135;refine (field_any _ _ _ _).mono ?_;rintro e w' ⟨rfl,rfl⟩))
       all_goals go_ret
       all_goals exact ⟨by first|(simp;done)|(simp;omega),hB1⟩
      ·have hk':(k==0)=false:=by simpa using hk
       obtain rfl:r=false:=by rw [<-hr];simp [hk]
       cases vM<;>simp only [Bool.or_true,Bool.or_false,if_true,Bool.false_eq_true,if_false]at fB e10
       all_goals
        go_wp2_with (first|(go_at_call 135;refine (field_any _ _ _ _).mono ?_;rintro e w' ⟨rfl,rfl⟩))
       all_goals go_ret
       all_goals exact ⟨by first|(simp;done)|(simp;omega),hB1⟩
     ·obtain rfl:r=true:=by rw [<-hr];simp
      cases vM<;>simp only [Bool.or_true,Bool.or_false,if_true,Bool.false_eq_true,if_false]at fB e10
      all_goals
       go_wp2_with (first|(go_at_call 135;refine (field_any _ _ _ _).mono ?_;rintro e w' ⟨rfl,rfl⟩))
      all_goals go_ret
      all_goals exact ⟨by first|(simp;done)|(simp;omega),hB1⟩
    ·simp only [if_true]at hr
     by_cases hs:0<=size
     ·by_cases hks:k<=size
      ·have hk':True:=trivial
       obtain rfl:r=true:=by rw [<-hr];simp [hs,hks]
       cases vM<;>simp only [Bool.or_true,Bool.or_false,if_true,Bool.false_eq_true,if_false]at fB e10
       all_goals
        go_wp2_with (first|(go_at_call 135;refine (field_any _ _ _ _).mono ?_;rintro e w' ⟨rfl,rfl⟩))
       all_goals go_ret
       all_goals exact ⟨by first|(simp;done)|(simp;omega),hB1⟩
      ·have hk':True:=trivial
       obtain rfl:r=false:=by rw [<-hr];simp [hks]
       cases vM<;>simp only [Bool.or_true,Bool.or_false,if_true,Bool.false_eq_true,if_false]at fB e10
       all_goals
        go_wp2_with (first|(go_at_call 135;refine (field_any _ _ _ _).mono ?_;rintro e w' ⟨rfl,rfl⟩))
       all_goals go_ret
       all_goals exact ⟨by first|(simp;done)|(simp;omega),hB1⟩
     ·obtain rfl:r=false:=by rw [<-hr];simp [hs]
      cases vM<;>simp only [Bool.or_true,Bool.or_false,if_true,Bool.false_eq_true,if_false]at fB e10
      all_goals
       go_wp2_with (first|(go_at_call 135;refine (field_any _ _ _ _).mono ?_;rintro e w' ⟨rfl,rfl⟩))
      all_goals go_ret
      all_goals exact ⟨by first|(simp;done)|(simp;omega),hB1⟩
   ·have hr0:r=false:=hr.symm.trans (decide_eq_false (fun h=>fC (decide_eq_true h.2.2.1)))
    subst hr0
    cases vM<;>simp only [Bool.or_true,Bool.or_false,if_true,Bool.false_eq_true,if_false]at fB e10
    all_goals
     go_wp2_with (first|(go_at_call 135;refine (field_any _ _ _ _).mono ?_;rintro e w' ⟨rfl,rfl⟩))
    all_goals go_ret
    all_goals exact ⟨rfl,hB1⟩
  ·have hr0:r=false:=hr.symm.trans (decide_eq_false (fun h=>fB (decide_eq_true h.2.1)))
   subst hr0
   cases vM<;>simp only [Bool.or_true,Bool.or_false,if_true,Bool.false_eq_true,if_false]at fB e10
   all_goals
    go_wp2_with (first|(go_at_call 135;refine (field_any _ _ _ _).mono ?_;rintro e w' ⟨rfl,rfl⟩))
   all_goals go_ret
   all_goals exact ⟨rfl,hB1⟩
 ·have hr0:r=false:=hr.symm.trans (decide_eq_false (fun h=>fA (decide_eq_true h.1)))
  subst hr0
  cases vM<;>simp only [Bool.or_true,Bool.or_false,if_true,Bool.false_eq_true,if_false]at e10
  all_goals
   go_wp2_with (first|(go_at_call 135;refine (field_any _ _ _ _).mono ?_;rintro e w' ⟨rfl,rfl⟩))
  all_goals go_ret
  all_goals exact ⟨rfl,hB1⟩
theorem isaRight_out (op a b c k size:Int) (h:op<0∨28<=op) (w:World):
 Calls Tryz.prog 90 #[.agg #[.int .i64 op,.int .i64 a,.int .i64 b,.int .i64 c,.int .u32 k],.int .i64 size] w fun e w'=>e= .returned (.bool false)/\Below w.heap.size w w':=by
 have hB:=(Below.refl w.heap.size w).alloc (Nat.le_refl _) (Obj.cells #[.int .i64 op,.int .i64 a,.int .i64 b,.int .i64 c,.int .u32 k] 75)
 go_enter Tryz.func90,Tryz.ntmps90
 go_wp2_with fail
 refine (name_out op h _).mono ?_
 rintro e w1 ⟨rfl,hb1⟩
 have hB1:=step_below hB hb1
 go_wp2
 go_ret
 exact ⟨rfl,hB1⟩
def kinds:List (Bool×Bool×Bool×Bool×Bool×Bool):=
 [(false,false,false,false,false,false),(false,false,false,false,true,false),(true,false,false,false,false,true),(true,false,false,false,true,false),(true,false,false,false,false,false),
  (true,true,false,false,false,false),(true,true,false,true,false,false),(true,false,true,false,false,true),(true,false,true,true,false,true)]
end Go.Proofs.YtmhfpjnkjlhbpaaGreatDoor
namespace Go.Proofs.YtmhfpjnkjlhbpaaGreatDoor
open Go.ChangeShapes Go.WideShapes Go.ChangeAt Go.RowKit
set_option linter.unusedVariables false
set_option maxRecDepth 100000
def rightB (i:Ins) (size:Int):Bool:=if 0<=i.op/\i.op<28 then decide (RightP (kindAt i.op.toNat) i.a i.b i.c i.k size)else false
theorem right_any (i:Ins) (size:Int) (ho:i.Ok) (h2: -9223372036854775808<=size) (h3:size<=9223372036854775807) (w:World) (ht:Tab w):
 Calls Tryz.prog 90 #[.agg #[.int .i64 i.op,.int .i64 i.a,.int .i64 i.b,.int .i64 i.c,.int .u32 i.k],.int .i64 size] w fun e w'=>e= .returned (.bool (rightB i size))/\Below w.heap.size w w':=by
 obtain ⟨op,a,b,c,k⟩:=i
 unfold rightB
 by_cases h:0<=op/\op<28
 ·rw [if_pos h]
  obtain ⟨j,rfl⟩: ∃j:Nat,op=(j:Int):=⟨op.toNat,by omega⟩
  exact isaRight_in j (by omega) a b c k size ho.k0 ho.k1 h2 h3 w ht
 ·rw [if_neg h]
  exact isaRight_out op a b c k size (by omega) w
def goodCd (c:Cd):Prop:=c.len<=4000/\ ∀j,j<c.len->rightB (c.F j) c.len=true
inductive Chk (p:Pg):Int->Int->Int->Prop
 |args:(p.n<1∨8<p.n∨p.room<1∨16<p.room)->Chk p (-1) (-1) 1
 |mem:1<=p.n->p.n<=8->1<=p.room->p.room<=16->1024<p.m->Chk p (-1) (-1) 4
 |long (t:Nat):1<=p.n->p.n<=8->1<=p.room->p.room<=16->p.m<=1024->t<p.n->(∀s,s<t->goodCd (p.cd s))->4000<(p.cd t).len->Chk p t (-1) 4
 |form (t j:Nat):1<=p.n->p.n<=8->1<=p.room->p.room<=16->p.m<=1024->t<p.n->(∀s,s<t->goodCd (p.cd s))->(p.cd t).len<=4000->j<(p.cd t).len->(∀i,i<j->rightB ((p.cd t).F i) (p.cd t).len=true)->
   rightB ((p.cd t).F j) (p.cd t).len=false->Chk p t j 3
 |fine:1<=p.n->p.n<=8->1<=p.room->p.room<=16->p.m<=1024->(∀s,s<p.n->goodCd (p.cd s))->Chk p 0 0 0
theorem jumps_in (i:Nat) (hi:i<28) (w:World) (ht:Tab w):
 Calls Tryz.prog 72 #[.int .i64 (i:Int)] w fun e w'=>e= .returned (.bool (hasF i 84))/\Below w.heap.size w w':=by
 obtain ⟨e1,e10,e8,e4,e32,e16,enm⟩:=use_at i hi
 obtain ⟨r,hr⟩: ∃r,hasF i 84=r:=⟨_,rfl⟩
 rw [hr]at e32⊢
 have h28:(i:Int)<28:=by omega
 have h28': ¬(28:Int)<=i:=by omega
 have h0: ¬(i:Int)<0:=by omega
 go_enter Tryz.func72,Tryz.ntmps72
 go_wp2_with fail
 refine (name_in i hi _ ht).mono ?_
 rintro e w1 ⟨rfl,hb1⟩
 have hc:=(ht.step hb1).2.1 i hi
 generalize useN i=u at*
 cases r
 ·go_wp2
  go_ret
  exact ⟨by simp,hb1⟩
 ·go_wp2
  go_ret
  exact ⟨by simp,hb1⟩
theorem jumps_out (op:Int) (h:op<0∨28<=op) (w:World):
 Calls Tryz.prog 72 #[.int .i64 op] w fun e w'=>e= .returned (.bool false)/\Below w.heap.size w w':=by
 go_enter Tryz.func72,Tryz.ntmps72
 go_wp2_with fail
 refine (name_out op h _).mono ?_
 rintro e w1 ⟨rfl,hb1⟩
 go_wp2
 go_ret
 exact ⟨rfl,hb1⟩
theorem asks_in (i:Nat) (hi:i<28) (w:World) (ht:Tab w):
 Calls Tryz.prog 148 #[.int .i64 (i:Int)] w fun e w'=>e= .returned (.bool (hasF i 77))/\Below w.heap.size w w':=by
 obtain ⟨e1,e10,e8,e4,e32,e16,enm⟩:=use_at i hi
 obtain ⟨r,hr⟩: ∃r,hasF i 77=r:=⟨_,rfl⟩
 rw [hr]at e8⊢
 have h28:(i:Int)<28:=by omega
 have h28': ¬(28:Int)<=i:=by omega
 have h0: ¬(i:Int)<0:=by omega
 go_enter Tryz.func148,Tryz.ntmps148
 go_wp2_with fail
 refine (name_in i hi _ ht).mono ?_
 rintro e w1 ⟨rfl,hb1⟩
 have hc:=(ht.step hb1).2.1 i hi
 generalize useN i=u at*
 cases r
 ·go_wp2
  go_ret
  exact ⟨by simp,hb1⟩
 ·go_wp2
  go_ret
  exact ⟨by simp,hb1⟩
theorem asks_out (op:Int) (h:op<0∨28<=op) (w:World):
 Calls Tryz.prog 148 #[.int .i64 op] w fun e w'=>e= .returned (.bool false)/\Below w.heap.size w w':=by
 go_enter Tryz.func148,Tryz.ntmps148
 go_wp2_with fail
 refine (name_out op h _).mono ?_
 rintro e w1 ⟨rfl,hb1⟩
 go_wp2
 go_ret
 exact ⟨rfl,hb1⟩
def DrainP (op:Int):Prop:=18<=op/\op<=21∨23<=op/\op<=25
instance (op:Int):Decidable (DrainP op):=by unfold DrainP;infer_instance
theorem drains_v (op:Int) (w:World):
 Calls Tryz.prog 150 #[.int .i64 op] w fun e w'=>e= .returned (.bool (decide (DrainP op)))/\Below w.heap.size w w':=by
 go_enter Tryz.func150,Tryz.ntmps150
 by_cases h18:op=18
 ·subst h18;go_wp2;go_ret;exact ⟨rfl,Below.refl _ _⟩
 by_cases h19:op=19
 ·subst h19;go_wp2;go_ret;exact ⟨rfl,Below.refl _ _⟩
 by_cases h20:op=20
 ·subst h20;go_wp2;go_ret;exact ⟨rfl,Below.refl _ _⟩
 by_cases h21:op=21
 ·subst h21;go_wp2;go_ret;exact ⟨rfl,Below.refl _ _⟩
 by_cases h23:op=23
 ·subst h23;go_wp2;go_ret;exact ⟨rfl,Below.refl _ _⟩
 by_cases h24:op=24
 ·subst h24;go_wp2;go_ret;exact ⟨rfl,Below.refl _ _⟩
 by_cases h25:op=25
 ·subst h25;go_wp2;go_ret;exact ⟨rfl,Below.refl _ _⟩
 have hd:decide (DrainP op)=false:=decide_eq_false (by unfold DrainP;omega)
 rw [hd]
 go_wp2
 go_ret
 exact ⟨rfl,Below.refl _ _⟩
def jmpB (op:Int):Bool:=decide (op=13∨op=14∨op=15)
theorem jmpB_all:(List.range 28).all (fun i=>hasF i 84==jmpB (i:Int))=true:=by decide+kernel
theorem jumps_any (op:Int) (w:World) (ht:Tab w):Calls Tryz.prog 72 #[.int .i64 op] w fun e w'=>e= .returned (.bool (jmpB op))/\Below w.heap.size w w':=by
 by_cases h:0<=op/\op<28
 ·obtain ⟨i,rfl⟩: ∃i:Nat,op=(i:Int):=⟨op.toNat,by omega⟩
  have hi:i<28:=by omega
  have :=List.all_eq_true.1 jmpB_all i (List.mem_range.2 hi)
  rw [<-eq_of_beq this]
  exact jumps_in i hi w ht
 ·have hj:jmpB op=false:=decide_eq_false (by omega)
  rw [hj]
  exact jumps_out op (by omega) w
def askB (op:Int):Bool:=decide ((16<=op/\op<=17)∨(19<=op/\op<=21)∨(23<=op/\op<=24))
theorem askB_all:(List.range 28).all (fun i=>hasF i 77==askB (i:Int))=true:=by decide+kernel
theorem asks_any (op:Int) (w:World) (ht:Tab w):Calls Tryz.prog 148 #[.int .i64 op] w fun e w'=>e= .returned (.bool (askB op))/\Below w.heap.size w w':=by
 by_cases h:0<=op/\op<28
 ·obtain ⟨i,rfl⟩: ∃i:Nat,op=(i:Int):=⟨op.toNat,by omega⟩
  have hi:i<28:=by omega
  have :=List.all_eq_true.1 askB_all i (List.mem_range.2 hi)
  rw [<-eq_of_beq this]
  exact asks_in i hi w ht
 ·have hj:askB op=false:=decide_eq_false (by omega)
  rw [hj]
  exact asks_out op (by omega) w
end Go.Proofs.YtmhfpjnkjlhbpaaGreatDoor
namespace Go.Proofs.YtmhfpjnkjlhbpaaGreatDoor
open Go.ChangeShapes Go.WideShapes Go.ChangeAt Go.RowKit Go.Deep
set_option linter.unusedVariables false
set_option maxRecDepth 100000
def Goal (n:Nat) (cd:Nat->Cd) (K J:Nat) (kind:Nat):Prop:=
 (∀s,s<K->goodCd (cd s))/\((kind=0/\K=n)∨(kind=1/\K<n/\4000<(cd K).len)∨
   (kind=2/\K<n/\(cd K).len<=4000/\J<(cd K).len/\(∀i,i<J->rightB ((cd K).F i) (cd K).len=true)/\rightB ((cd K).F J) (cd K).len=false))
theorem check_args (p:Pg) (h:p.n<1∨8<p.n∨p.room<1∨16<p.room) (w:World):
 Calls Tryz.prog 42 #[p.val] w fun e w'=>e= .returned (.tuple #[.int .i64 (-1),.int .i64 (-1),.int .i64 1])/\Below w.heap.size w w':=by
 obtain ⟨A,n,cap,cd,mA,m,mcap,Z,room⟩:=p
 unfold Pg.val
 dsimp only at h⊢
 have hB:=(Below.refl w.heap.size w).alloc (Nat.le_refl _) (Obj.cells #[.slice A n cap,.slice mA m mcap,.int .i64 room] 29)
 go_enter Tryz.func42,Tryz.ntmps42
 by_cases h1:n<1
 ·go_wp2
  go_ret3
  exact ⟨rfl,hB⟩
 by_cases h2:8<n
 ·go_wp2
  go_ret3
  exact ⟨rfl,hB⟩
 by_cases h3:room<1
 ·clear h
  go_wp2
  go_ret3
  exact ⟨rfl,hB⟩
 ·have h4:16<room:=by omega
  clear h
  go_wp2
  go_ret3
  exact ⟨rfl,hB⟩
theorem check_mem (p:Pg) (a1:1<=p.n) (a2:p.n<=8) (a3:1<=p.room) (a4:p.room<=16) (h:1024<p.m) (w:World):
 Calls Tryz.prog 42 #[p.val] w fun e w'=>e= .returned (.tuple #[.int .i64 (-1),.int .i64 (-1),.int .i64 4])/\Below w.heap.size w w':=by
 obtain ⟨A,n,cap,cd,mA,m,mcap,Z,room⟩:=p
 unfold Pg.val
 dsimp only at h a1 a2 a3 a4⊢
 have hB:=(Below.refl w.heap.size w).alloc (Nat.le_refl _) (Obj.cells #[.slice A n cap,.slice mA m mcap,.int .i64 room] 29)
 go_enter Tryz.func42,Tryz.ntmps42
 go_wp2
 go_ret3
 exact ⟨rfl,hB⟩
def chkRes (K J kind:Nat):Ending:=if kind=0 then .returned (.tuple #[.int .i64 0,.int .i64 0,.int .i64 0])else if kind=1 then .returned (.tuple #[.int .i64 (K:Int),.int .i64 (-1),.int .i64 4])else .returned (.tuple #[.int .i64 (K:Int),.int .i64 (J:Int),.int .i64 3])
set_option maxHeartbeats 2000000 in
theorem check_loop (p:Pg) (ho:p.Ok) (a1:1<=p.n) (a2:p.n<=8) (a3:1<=p.room) (a4:p.room<=16) (a5:p.m<=1024) (K J kind:Nat) (hg:Goal p.n p.cd K J kind) (w:World) (ht:Tab w) (ha:p.At w):
 Calls Tryz.prog 42 #[p.val] w fun e w'=>e=chkRes K J kind/\Below w.heap.size w w':=by
 obtain ⟨A,n,cap,cd,mA,m,mcap,Z,room⟩:=p
 obtain ⟨hl,hm,_,_,cds,_,_,_⟩:=ho
 obtain ⟨hcodes,hcode,_⟩:=ha
 unfold Pg.val
 dsimp only at*
 unfold maxLen at hm
 have hB:=(Below.refl w.heap.size w).alloc (Nat.le_refl _) (Obj.cells #[.slice A n cap,.slice mA m mcap,.int .i64 room] 29)
 obtain ⟨b,off,rfl,hlt,hc⟩:=hcodes (by omega)
 have HG:=Lib.hid hg
 have HC:=Lib.hid hc
 have HD:=Lib.hid hcode
 have HO:=Lib.hid cds
 have hKn:K<=n:=by obtain ⟨_,h⟩:=hg;omega
 clear hg hc hcode cds hcodes
 go_enter Tryz.func42,Tryz.ntmps42
 go_wp2
 go_loopw [36] (fun v wr=> ∃k:Nat,k<=K/\v= .int .i64 k/\Below w.heap.size w wr) (fun v _=>K-(intOf v).toNat)
 case atStart=>exact ⟨0,Nat.zero_le _,rfl,hB⟩
 case round=>
  obtain ⟨k,hk,rfl,hBr⟩:=hrel
  have htr:=ht.step hBr
  rcases (by omega:k<K∨(k=K/\k<n)∨(k=K/\k=n))with hkK|⟨rfl,hkn⟩|⟨rfl,rfl⟩
  ·have hkn:k<n:=by omega
   have hcell:=keepAt hBr hlt (HC.out k hkn)
   have hat:=(HD.out k hkn).step hBr
   have hok:=HO.out k hkn
   have hgd:=HG.out.1 k hkK
   generalize cd k=c at hcell hat hok hgd
   obtain ⟨A',l',c',F⟩:=c
   obtain ⟨hl',hm',hins⟩:=hok
   obtain ⟨hg1,hg2⟩:=hgd
   unfold Cd.val at hcell
   unfold Cd.At at hat
   dsimp only at*
   unfold maxLen at hm'
   have HA:=Lib.hid hat
   have HI:=Lib.hid hins
   have HG2:=Lib.hid hg2
   clear hat hins hg2
   have tok:True:=trivial
   go_wp2
   obtain ⟨wo,rfl⟩: ∃wo:World,wo=wr:=⟨_,rfl⟩
   go_loopw [47] (fun v wr=> ∃j:Nat,j<=l'/\v= .int .i64 j/\Below wo.heap.size wo wr) (fun v _=>l'-(intOf v).toNat)
   case atStart=>exact ⟨0,Nat.zero_le _,rfl,Below.refl _ _⟩
   case round=>
    obtain ⟨j,hj,rfl,hBx⟩:=hrel
    have hBw:=step_below hBr hBx
    have htx:=ht.step hBw
    by_cases hjl:j<l'
    ·have hox:=HI.out j hjl
     have hrt:=HG2.out j hjl
     obtain ⟨b',off',rfl,hlt',hc'⟩:=HA.out.step hBx (by omega)
     have hcj:=hc' j hjl
     dsimp only at hcj
     clear hc'
     generalize F j=q at hox hrt hcj
     have k0:wr.cell? ⟨b',off'+j*5,none⟩=some (.int .i64 q.op):=hcj 0 _ rfl
     have k1:wr.cell? ⟨b',off'+j*5+1,none⟩=some (.int .i64 q.a):=hcj 1 _ rfl
     have k2:wr.cell? ⟨b',off'+j*5+2,none⟩=some (.int .i64 q.b):=hcj 2 _ rfl
     have k3:wr.cell? ⟨b',off'+j*5+3,none⟩=some (.int .i64 q.c):=hcj 3 _ rfl
     have k4:wr.cell? ⟨b',off'+j*5+4,none⟩=some (.int .u32 q.k):=hcj 4 _ rfl
     clear hcj
     have cR:=right_any q l' hox (by omega) (by omega)
     rw [hrt]at cR
     clear hrt
     have htx2:=htx.alloc (Obj.cells #[.int .i64 q.op,.int .i64 q.a,.int .i64 q.b,.int .i64 q.c,.int .u32 q.k] 75)
     have hBx2:=hBx.alloc hBx.size (Obj.cells #[.int .i64 q.op,.int .i64 q.a,.int .i64 q.b,.int .i64 q.c,.int .u32 q.k] 75)
     go_wp2_with fail
     refine (cR _ htx2).mono ?_
     rintro e w1 ⟨rfl,hb1⟩
     have hBx3:=step_below hBx2 hb1
     go_wp2
     go_roundw
     case rel=>exact ⟨j+1,by omega,by go_num,hBx3⟩
     case measure=>simp [intOf];omega
    ·have hjl': ¬(j:Int)<(l':Int):=by omega
     have hkK':=hkK
     go_wp2
     go_roundw
     case rel=>exact ⟨k+1,by omega,by go_num,hBw⟩
     case measure=>simp [intOf];omega
  ·obtain ⟨_,hgo⟩:=HG.out
   have hcell:=keepAt hBr hlt (HC.out k hkn)
   have hat:=(HD.out k hkn).step hBr
   have hok:=HO.out k hkn
   generalize cd k=c at hcell hat hok hgo
   obtain ⟨A',l',c',F⟩:=c
   obtain ⟨hl',hm',hins⟩:=hok
   unfold Cd.val at hcell
   unfold Cd.At at hat
   dsimp only at*
   unfold maxLen at hm'
   have HA:=Lib.hid hat
   have HI:=Lib.hid hins
   clear hat hins
   rcases hgo with ⟨rfl,h⟩|⟨rfl,_,hlong⟩|⟨rfl,_,hle,hJ,hbef,hbad⟩
   ·omega
   ·go_wp2
    go_ret3
    exact ⟨rfl,hBr⟩
   ·have HB:=Lib.hid hbef
    clear hbef
    go_wp2
    obtain ⟨wo,rfl⟩: ∃wo:World,wo=wr:=⟨_,rfl⟩
    go_loopw [47] (fun v wr=> ∃j:Nat,j<=J/\v= .int .i64 j/\Below wo.heap.size wo wr) (fun v _=>J-(intOf v).toNat)
    case atStart=>exact ⟨0,Nat.zero_le _,rfl,Below.refl _ _⟩
    case round=>
     obtain ⟨j,hj,rfl,hBx⟩:=hrel
     have hBw:=step_below hBr hBx
     have htx:=ht.step hBw
     have hjl:j<l':=by omega
     have hox:=HI.out j hjl
     obtain ⟨b',off',rfl,hlt',hc'⟩:=HA.out.step hBx (by omega)
     have hcj:=hc' j hjl
     dsimp only at hcj
     have htx2:=htx.alloc (Obj.cells #[.int .i64 (F j).op,.int .i64 (F j).a,.int .i64 (F j).b,.int .i64 (F j).c,.int .u32 (F j).k] 75)
     have hBx2:=hBx.alloc hBx.size (Obj.cells #[.int .i64 (F j).op,.int .i64 (F j).a,.int .i64 (F j).b,.int .i64 (F j).c,.int .u32 (F j).k] 75)
     have cR:=right_any (F j) l' hox (by omega) (by omega)
     clear hc'
     by_cases hjJ:j<J
     ·have hrt:=HB.out j hjJ
      rw [hrt]at cR
      clear hrt hbad
      generalize F j=q at hox hcj htx2 hBx2 cR
      have k0:wr.cell? ⟨b',off'+j*5,none⟩=some (.int .i64 q.op):=hcj 0 _ rfl
      have k1:wr.cell? ⟨b',off'+j*5+1,none⟩=some (.int .i64 q.a):=hcj 1 _ rfl
      have k2:wr.cell? ⟨b',off'+j*5+2,none⟩=some (.int .i64 q.b):=hcj 2 _ rfl
      have k3:wr.cell? ⟨b',off'+j*5+3,none⟩=some (.int .i64 q.c):=hcj 3 _ rfl
      have k4:wr.cell? ⟨b',off'+j*5+4,none⟩=some (.int .u32 q.k):=hcj 4 _ rfl
      clear hcj
      go_wp2_with fail
      refine (cR _ htx2).mono ?_
      rintro e w1 ⟨rfl,hb1⟩
      have hBx3:=step_below hBx2 hb1
      go_wp2
      go_roundw
      case rel=>exact ⟨j+1,by omega,by go_num,hBx3⟩
      case measure=>simp [intOf];omega
     ·obtain rfl:j=J:=by omega
      rw [hbad]at cR
      clear hbad
      generalize F j=q at hox hcj htx2 hBx2 cR
      have k0:wr.cell? ⟨b',off'+j*5,none⟩=some (.int .i64 q.op):=hcj 0 _ rfl
      have k1:wr.cell? ⟨b',off'+j*5+1,none⟩=some (.int .i64 q.a):=hcj 1 _ rfl
      have k2:wr.cell? ⟨b',off'+j*5+2,none⟩=some (.int .i64 q.b):=hcj 2 _ rfl
      have k3:wr.cell? ⟨b',off'+j*5+3,none⟩=some (.int .i64 q.c):=hcj 3 _ rfl
      have k4:wr.cell? ⟨b',off'+j*5+4,none⟩=some (.int .u32 q.k):=hcj 4 _ rfl
      clear hcj
      go_wp2_with fail
      refine (cR _ htx2).mono ?_
      rintro e w1 ⟨rfl,hb1⟩
      have hBx3:=step_below hBr (step_below hBx2 hb1)
      go_wp2
      go_ret3
      exact ⟨rfl,hBx3⟩
  ·obtain ⟨_,hgo⟩:=HG.out
   rcases hgo with ⟨rfl,h⟩|⟨rfl,h,_⟩|⟨rfl,h,_⟩
   ·go_wp2
    go_ret3
    exact ⟨rfl,hBr⟩
   ·exact absurd h (by omega)
   ·exact absurd h (by omega)
theorem check_any (p:Pg) (ho:p.Ok) (t j e:Int) (h:Chk p t j e) (w:World) (ht:Tab w) (ha:p.At w):
 Calls Tryz.prog 42 #[p.val] w fun r w'=>r= .returned (.tuple #[.int .i64 t,.int .i64 j,.int .i64 e])/\Below w.heap.size w w':=by
 cases h with
 |args h=>exact check_args p h w
 |mem a1 a2 a3 a4 h=>exact check_mem p a1 a2 a3 a4 h w
 |long t a1 a2 a3 a4 a5 ht' hg hl=>exact check_loop p ho a1 a2 a3 a4 a5 t 0 1 ⟨hg,.inr (.inl ⟨rfl,ht',hl⟩)⟩ w ht ha
 |form t j a1 a2 a3 a4 a5 ht' hg hl hj hi hb=>exact check_loop p ho a1 a2 a3 a4 a5 t j 2 ⟨hg,.inr (.inr ⟨rfl,ht',hl,hj,hi,hb⟩)⟩ w ht ha
 |fine a1 a2 a3 a4 a5 hg=>exact check_loop p ho a1 a2 a3 a4 a5 p.n 0 0 ⟨hg,.inl ⟨rfl,rfl⟩⟩ w ht ha
end Go.Proofs.YtmhfpjnkjlhbpaaGreatDoor
