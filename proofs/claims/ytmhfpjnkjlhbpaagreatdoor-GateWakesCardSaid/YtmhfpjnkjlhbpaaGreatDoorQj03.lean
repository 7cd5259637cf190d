/- isa.Right and the document's Right at any instruction; what is wrong with a program first, as a relation. isa.Jumps, Asks, Drains at any op; alu.Do at any op (for seats without isa.Number). isa.Check tells what is wrong first. -/
import Derived.Test.YtmhfpjnkjlhbpaaGreatDoorQj01
import Derived.Test.YtmhfpjnkjlhbpaaGreatDoorQj02
import Derived.Deep.RegionHeld3
import Derived.Laws.EntriesVeiled
import Derived.Deep.LoopGhost
namespace Go.Proofs.YtmhfpjnkjlhbpaaGreatDoor
open Go.ChangeShapes Go.WideShapes Go.ChangeAt Go.RowKit
set_option linter.unusedVariables false
set_option maxRecDepth 100000
def rightB (i:Ins) (size:Int):Bool:=if 0<=i.op/\i.op<28 then decide (RightP (kindAt i.op.toNat) i.a i.b i.c i.k size)else false
theorem right_any (i:Ins) (size:Int) (ho:i.Ok) (h2: -9223372036854775808<=size) (h3:size<=9223372036854775807) (w:World) (ht:Tab w):
 Calls Tryz.prog 90 #[.agg #[.int .i64 i.op,.int .i64 i.a,.int .i64 i.b,.int .i64 i.c,.int .u32 i.k],.int .i64 size] w fun e w'=>e= .returned (.bool (rightB i size))/\Below w.heap.size w w':=by
 obtain ⟨op,a,b,c,k⟩:=i
 unfold rightB
 by_cases h:0<=op/\op<28
 ·rw [if_pos h]
  obtain ⟨j,rfl⟩: ∃j:Nat,op=(j:Int):=⟨op.toNat,by omega⟩
  exact isaRight_in j (by omega) a b c k size ho.k0 ho.k1 h2 h3 w ht
 ·rw [if_neg h]
  exact isaRight_out op a b c k size (by omega) w
def goodCd (c:Cd):Prop:=c.len<=4000/\ ∀j,j<c.len->rightB (c.F j) c.len=true
inductive Chk (p:Pg):Int->Int->Int->Prop
 |args:(p.n<1∨8<p.n∨p.room<1∨16<p.room)->Chk p (-1) (-1) 1
 |mem:1<=p.n->p.n<=8->1<=p.room->p.room<=16->1024<p.m->Chk p (-1) (-1) 4
 |long (t:Nat):1<=p.n->p.n<=8->1<=p.room->p.room<=16->p.m<=1024->t<p.n->(∀s,s<t->goodCd (p.cd s))->4000<(p.cd t).len->Chk p t (-1) 4
 |form (t j:Nat):1<=p.n->p.n<=8->1<=p.room->p.room<=16->p.m<=1024->t<p.n->(∀s,s<t->goodCd (p.cd s))->(p.cd t).len<=4000->j<(p.cd t).len->(∀i,i<j->rightB ((p.cd t).F i) (p.cd t).len=true)->
   rightB ((p.cd t).F j) (p.cd t).len=false->Chk p t j 3
 |fine:1<=p.n->p.n<=8->1<=p.room->p.room<=16->p.m<=1024->(∀s,s<p.n->goodCd (p.cd s))->Chk p 0 0 0
theorem jumps_in (i:Nat) (hi:i<28) (w:World) (ht:Tab w):
 Calls Tryz.prog 72 #[.int .i64 (i:Int)] w fun e w'=>e= .returned (.bool (hasF i 84))/\Below w.heap.size w w':=by
 obtain ⟨e1,e10,e8,e4,e32,e16,enm⟩:=use_at i hi
 obtain ⟨r,hr⟩: ∃r,hasF i 84=r:=⟨_,rfl⟩
 rw [hr]at e32⊢
 have h28:(i:Int)<28:=by omega
 have h28': ¬(28:Int)<=i:=by omega
 have h0: ¬(i:Int)<0:=by omega
 go_enter Tryz.func72,Tryz.ntmps72
 go_wp2_with fail
 refine (name_in i hi _ ht).mono ?_
 rintro e w1 ⟨rfl,hb1⟩
 have hc:=(ht.step hb1).2.1 i hi
 generalize useN i=u at*
 cases r
 ·go_wp2
  go_ret
  exact ⟨by simp,hb1⟩
 ·go_wp2
  go_ret
  exact ⟨by simp,hb1⟩
theorem jumps_out (op:Int) (h:op<0∨28<=op) (w:World):
 Calls Tryz.prog 72 #[.int .i64 op] w fun e w'=>e= .returned (.bool false)/\Below w.heap.size w w':=by
 go_enter Tryz.func72,Tryz.ntmps72
 go_wp2_with fail
 refine (name_out op h _).mono ?_
 rintro e w1 ⟨rfl,hb1⟩
 go_wp2
 go_ret
 exact ⟨rfl,hb1⟩
theorem asks_in (i:Nat) (hi:i<28) (w:World) (ht:Tab w):
 Calls Tryz.prog 148 #[.int .i64 (i:Int)] w fun e w'=>e= .returned (.bool (hasF i 77))/\Below w.heap.size w w':=by
 obtain ⟨e1,e10,e8,e4,e32,e16,enm⟩:=use_at i hi
 obtain ⟨r,hr⟩: ∃r,hasF i 77=r:=⟨_,rfl⟩
 rw [hr]at e8⊢
 have h28:(i:Int)<28:=by omega
 have h28': ¬(28:Int)<=i:=by omega
 have h0: ¬(i:Int)<0:=by omega
 go_enter Tryz.func148,Tryz.ntmps148
 go_wp2_with fail
 refine (name_in i hi _ ht).mono ?_
 rintro e w1 ⟨rfl,hb1⟩
 have hc:=(ht.step hb1).2.1 i hi
 generalize useN i=u at*
 cases r
 ·go_wp2
  go_ret
  exact ⟨by simp,hb1⟩
 ·go_wp2
  go_ret
  exact ⟨by simp,hb1⟩
theorem asks_out (op:Int) (h:op<0∨28<=op) (w:World):
 Calls Tryz.prog 148 #[.int .i64 op] w fun e w'=>e= .returned (.bool false)/\Below w.heap.size w w':=by
 go_enter Tryz.func148,Tryz.ntmps148
 go_wp2_with fail
 refine (name_out op h _).mono ?_
 rintro e w1 ⟨rfl,hb1⟩
 go_wp2
 go_ret
 exact ⟨rfl,hb1⟩
def DrainP (op:Int):Prop:=18<=op/\op<=21∨23<=op/\op<=25
instance (op:Int):Decidable (DrainP op):=by unfold DrainP;infer_instance
theorem drains_v (op:Int) (w:World):
 Calls Tryz.prog 150 #[.int .i64 op] w fun e w'=>e= .returned (.bool (decide (DrainP op)))/\Below w.heap.size w w':=by
 go_enter Tryz.func150,Tryz.ntmps150
 by_cases h18:op=18
 ·subst h18;go_wp2;go_ret;exact ⟨rfl,Below.refl _ _⟩
 by_cases h19:op=19
 ·subst h19;go_wp2;go_ret;exact ⟨rfl,Below.refl _ _⟩
 by_cases h20:op=20
 ·subst h20;go_wp2;go_ret;exact ⟨rfl,Below.refl _ _⟩
 by_cases h21:op=21
 ·subst h21;go_wp2;go_ret;exact ⟨rfl,Below.refl _ _⟩
 by_cases h23:op=23
 ·subst h23;go_wp2;go_ret;exact ⟨rfl,Below.refl _ _⟩
 by_cases h24:op=24
 ·subst h24;go_wp2;go_ret;exact ⟨rfl,Below.refl _ _⟩
 by_cases h25:op=25
 ·subst h25;go_wp2;go_ret;exact ⟨rfl,Below.refl _ _⟩
 have hd:decide (DrainP op)=false:=decide_eq_false (by unfold DrainP;omega)
 rw [hd]
 go_wp2
 go_ret
 exact ⟨rfl,Below.refl _ _⟩
def jmpB (op:Int):Bool:=decide (op=13∨op=14∨op=15)
theorem jmpB_all:(List.range 28).all (fun i=>hasF i 84==jmpB (i:Int))=true:=by decide+kernel
theorem jumps_any (op:Int) (w:World) (ht:Tab w):Calls Tryz.prog 72 #[.int .i64 op] w fun e w'=>e= .returned (.bool (jmpB op))/\Below w.heap.size w w':=by
 by_cases h:0<=op/\op<28
 ·obtain ⟨i,rfl⟩: ∃i:Nat,op=(i:Int):=⟨op.toNat,by omega⟩
  have hi:i<28:=by omega
  have :=List.all_eq_true.1 jmpB_all i (List.mem_range.2 hi)
  rw [<-eq_of_beq this]
  exact jumps_in i hi w ht
 ·have hj:jmpB op=false:=decide_eq_false (by omega)
  rw [hj]
  exact jumps_out op (by omega) w
def askB (op:Int):Bool:=decide ((16<=op/\op<=17)∨(19<=op/\op<=21)∨(23<=op/\op<=24))
theorem askB_all:(List.range 28).all (fun i=>hasF i 77==askB (i:Int))=true:=by decide+kernel
theorem asks_any (op:Int) (w:World) (ht:Tab w):Calls Tryz.prog 148 #[.int .i64 op] w fun e w'=>e= .returned (.bool (askB op))/\Below w.heap.size w w':=by
 by_cases h:0<=op/\op<28
 ·obtain ⟨i,rfl⟩: ∃i:Nat,op=(i:Int):=⟨op.toNat,by omega⟩
  have hi:i<28:=by omega
  have :=List.all_eq_true.1 askB_all i (List.mem_range.2 hi)
  rw [<-eq_of_beq this]
  exact asks_in i hi w ht
 ·have hj:askB op=false:=decide_eq_false (by omega)
  rw [hj]
  exact asks_out op (by omega) w
end Go.Proofs.YtmhfpjnkjlhbpaaGreatDoor
namespace Go.Proofs.YtmhfpjnkjlhbpaaGreatDoor
open Go.ChangeShapes Go.WideShapes Go.ChangeAt Go.RowKit Go.Deep
set_option linter.unusedVariables false
set_option maxRecDepth 100000
def Goal (n:Nat) (cd:Nat->Cd) (K J:Nat) (kind:Nat):Prop:=
 (∀s,s<K->goodCd (cd s))/\((kind=0/\K=n)∨(kind=1/\K<n/\4000<(cd K).len)∨
   (kind=2/\K<n/\(cd K).len<=4000/\J<(cd K).len/\(∀i,i<J->rightB ((cd K).F i) (cd K).len=true)/\rightB ((cd K).F J) (cd K).len=false))
theorem check_args (p:Pg) (h:p.n<1∨8<p.n∨p.room<1∨16<p.room) (w:World):
 Calls Tryz.prog 42 #[p.val] w fun e w'=>e= .returned (.tuple #[.int .i64 (-1),.int .i64 (-1),.int .i64 1])/\Below w.heap.size w w':=by
 obtain ⟨A,n,cap,cd,mA,m,mcap,Z,room⟩:=p
 unfold Pg.val
 dsimp only at h⊢
 have hB:=(Below.refl w.heap.size w).alloc (Nat.le_refl _) (Obj.cells #[.slice A n cap,.slice mA m mcap,.int .i64 room] 29)
 go_enter Tryz.func42,Tryz.ntmps42
 by_cases h1:n<1
 ·go_wp2
  go_ret3
  exact ⟨rfl,hB⟩
 by_cases h2:8<n
 ·go_wp2
  go_ret3
  exact ⟨rfl,hB⟩
 by_cases h3:room<1
 ·clear h
  go_wp2
  go_ret3
  exact ⟨rfl,hB⟩
 ·have h4:16<room:=by omega
  clear h
  go_wp2
  go_ret3
  exact ⟨rfl,hB⟩
theorem check_mem (p:Pg) (a1:1<=p.n) (a2:p.n<=8) (a3:1<=p.room) (a4:p.room<=16) (h:1024<p.m) (w:World):
 Calls Tryz.prog 42 #[p.val] w fun e w'=>e= .returned (.tuple #[.int .i64 (-1),.int .i64 (-1),.int .i64 4])/\Below w.heap.size w w':=by
 obtain ⟨A,n,cap,cd,mA,m,mcap,Z,room⟩:=p
 unfold Pg.val
 dsimp only at h a1 a2 a3 a4⊢
 have hB:=(Below.refl w.heap.size w).alloc (Nat.le_refl _) (Obj.cells #[.slice A n cap,.slice mA m mcap,.int .i64 room] 29)
 go_enter Tryz.func42,Tryz.ntmps42
 go_wp2
 go_ret3
 exact ⟨rfl,hB⟩
def chkRes (K J kind:Nat):Ending:=if kind=0 then .returned (.tuple #[.int .i64 0,.int .i64 0,.int .i64 0])else if kind=1 then .returned (.tuple #[.int .i64 (K:Int),.int .i64 (-1),.int .i64 4])else .returned (.tuple #[.int .i64 (K:Int),.int .i64 (J:Int),.int .i64 3])
set_option maxHeartbeats 2000000 in
theorem check_loop (p:Pg) (ho:p.Ok) (a1:1<=p.n) (a2:p.n<=8) (a3:1<=p.room) (a4:p.room<=16) (a5:p.m<=1024) (K J kind:Nat) (hg:Goal p.n p.cd K J kind) (w:World) (ht:Tab w) (ha:p.At w):
 Calls Tryz.prog 42 #[p.val] w fun e w'=>e=chkRes K J kind/\Below w.heap.size w w':=by
 obtain ⟨A,n,cap,cd,mA,m,mcap,Z,room⟩:=p
 obtain ⟨hl,hm,_,_,cds,_,_,_⟩:=ho
 obtain ⟨hcodes,hcode,_⟩:=ha
 unfold Pg.val
 dsimp only at*
 unfold maxLen at hm
 have hB:=(Below.refl w.heap.size w).alloc (Nat.le_refl _) (Obj.cells #[.slice A n cap,.slice mA m mcap,.int .i64 room] 29)
 obtain ⟨b,off,rfl,hlt,hc⟩:=hcodes (by omega)
 have HG:=Lib.hid hg
 have HC:=Lib.hid hc
 have HD:=Lib.hid hcode
 have HO:=Lib.hid cds
 have hKn:K<=n:=by obtain ⟨_,h⟩:=hg;omega
 clear hg hc hcode cds hcodes
 go_enter Tryz.func42,Tryz.ntmps42
 go_wp2
 go_loopw [36] (fun v wr=> ∃k:Nat,k<=K/\v= .int .i64 k/\Below w.heap.size w wr) (fun v _=>K-(intOf v).toNat)
 case atStart=>exact ⟨0,Nat.zero_le _,rfl,hB⟩
 case round=>
  obtain ⟨k,hk,rfl,hBr⟩:=hrel
  have htr:=ht.step hBr
  rcases (by omega:k<K∨(k=K/\k<n)∨(k=K/\k=n))with hkK|⟨rfl,hkn⟩|⟨rfl,rfl⟩
  ·have hkn:k<n:=by omega
   have hcell:=keepAt hBr hlt (HC.out k hkn)
   have hat:=(HD.out k hkn).step hBr
   have hok:=HO.out k hkn
   have hgd:=HG.out.1 k hkK
   generalize cd k=c at hcell hat hok hgd
   obtain ⟨A',l',c',F⟩:=c
   obtain ⟨hl',hm',hins⟩:=hok
   obtain ⟨hg1,hg2⟩:=hgd
   unfold Cd.val at hcell
   unfold Cd.At at hat
   dsimp only at*
   unfold maxLen at hm'
   have HA:=Lib.hid hat
   have HI:=Lib.hid hins
   have HG2:=Lib.hid hg2
   clear hat hins hg2
   have tok:True:=trivial
   go_wp2
   obtain ⟨wo,rfl⟩: ∃wo:World,wo=wr:=⟨_,rfl⟩
   go_loopw [47] (fun v wr=> ∃j:Nat,j<=l'/\v= .int .i64 j/\Below wo.heap.size wo wr) (fun v _=>l'-(intOf v).toNat)
   case atStart=>exact ⟨0,Nat.zero_le _,rfl,Below.refl _ _⟩
   case round=>
    obtain ⟨j,hj,rfl,hBx⟩:=hrel
    have hBw:=step_below hBr hBx
    have htx:=ht.step hBw
    by_cases hjl:j<l'
    ·have hox:=HI.out j hjl
     have hrt:=HG2.out j hjl
     obtain ⟨b',off',rfl,hlt',hc'⟩:=HA.out.step hBx (by omega)
     have hcj:=hc' j hjl
     dsimp only at hcj
     clear hc'
     generalize F j=q at hox hrt hcj
     have k0:wr.cell? ⟨b',off'+j*5,none⟩=some (.int .i64 q.op):=hcj 0 _ rfl
     have k1:wr.cell? ⟨b',off'+j*5+1,none⟩=some (.int .i64 q.a):=hcj 1 _ rfl
     have k2:wr.cell? ⟨b',off'+j*5+2,none⟩=some (.int .i64 q.b):=hcj 2 _ rfl
     have k3:wr.cell? ⟨b',off'+j*5+3,none⟩=some (.int .i64 q.c):=hcj 3 _ rfl
     have k4:wr.cell? ⟨b',off'+j*5+4,none⟩=some (.int .u32 q.k):=hcj 4 _ rfl
     clear hcj
     have cR:=right_any q l' hox (by omega) (by omega)
     rw [hrt]at cR
     clear hrt
     have htx2:=htx.alloc (Obj.cells #[.int .i64 q.op,.int .i64 q.a,.int .i64 q.b,.int .i64 q.c,.int .u32 q.k] 75)
     have hBx2:=hBx.alloc hBx.size (Obj.cells #[.int .i64 q.op,.int .i64 q.a,.int .i64 q.b,.int .i64 q.c,.int .u32 q.k] 75)
     go_wp2_with fail
     refine (cR _ htx2).mono ?_
     rintro e w1 ⟨rfl,hb1⟩
     have hBx3:=step_below hBx2 hb1
     go_wp2
     go_roundw
     case rel=>exact ⟨j+1,by omega,by go_num,hBx3⟩
     case measure=>simp [intOf];omega
    ·have hjl': ¬(j:Int)<(l':Int):=by omega
     have hkK':=hkK
     go_wp2
     go_roundw
     case rel=>exact ⟨k+1,by omega,by go_num,hBw⟩
     case measure=>simp [intOf];omega
  ·obtain ⟨_,hgo⟩:=HG.out
   have hcell:=keepAt hBr hlt (HC.out k hkn)
   have hat:=(HD.out k hkn).step hBr
   have hok:=HO.out k hkn
   generalize cd k=c at hcell hat hok hgo
   obtain ⟨A',l',c',F⟩:=c
   obtain ⟨hl',hm',hins⟩:=hok
   unfold Cd.val at hcell
   unfold Cd.At at hat
   dsimp only at*
   unfold maxLen at hm'
   have HA:=Lib.hid hat
   have HI:=Lib.hid hins
   clear hat hins
   rcases hgo with ⟨rfl,h⟩|⟨rfl,_,hlong⟩|⟨rfl,_,hle,hJ,hbef,hbad⟩
   ·omega
   ·go_wp2
    go_ret3
    exact ⟨rfl,hBr⟩
   ·have HB:=Lib.hid hbef
    clear hbef
    go_wp2
    obtain ⟨wo,rfl⟩: ∃wo:World,wo=wr:=⟨_,rfl⟩
    go_loopw [47] (fun v wr=> ∃j:Nat,j<=J/\v= .int .i64 j/\Below wo.heap.size wo wr) (fun v _=>J-(intOf v).toNat)
    case atStart=>exact ⟨0,Nat.zero_le _,rfl,Below.refl _ _⟩
    case round=>
     obtain ⟨j,hj,rfl,hBx⟩:=hrel
     have hBw:=step_below hBr hBx
     have htx:=ht.step hBw
     have hjl:j<l':=by omega
     have hox:=HI.out j hjl
     obtain ⟨b',off',rfl,hlt',hc'⟩:=HA.out.step hBx (by omega)
     have hcj:=hc' j hjl
     dsimp only at hcj
     have htx2:=htx.alloc (Obj.cells #[.int .i64 (F j).op,.int .i64 (F j).a,.int .i64 (F j).b,.int .i64 (F j).c,.int .u32 (F j).k] 75)
     have hBx2:=hBx.alloc hBx.size (Obj.cells #[.int .i64 (F j).op,.int .i64 (F j).a,.int .i64 (F j).b,.int .i64 (F j).c,.int .u32 (F j).k] 75)
     have cR:=right_any (F j) l' hox (by omega) (by omega)
     clear hc'
     by_cases hjJ:j<J
     ·have hrt:=HB.out j hjJ
      rw [hrt]at cR
      clear hrt hbad
      generalize F j=q at hox hcj htx2 hBx2 cR
      have k0:wr.cell? ⟨b',off'+j*5,none⟩=some (.int .i64 q.op):=hcj 0 _ rfl
      have k1:wr.cell? ⟨b',off'+j*5+1,none⟩=some (.int .i64 q.a):=hcj 1 _ rfl
      have k2:wr.cell? ⟨b',off'+j*5+2,none⟩=some (.int .i64 q.b):=hcj 2 _ rfl
      have k3:wr.cell? ⟨b',off'+j*5+3,none⟩=some (.int .i64 q.c):=hcj 3 _ rfl
      have k4:wr.cell? ⟨b',off'+j*5+4,none⟩=some (.int .u32 q.k):=hcj 4 _ rfl
      clear hcj
      go_wp2_with fail
      refine (cR _ htx2).mono ?_
      rintro e w1 ⟨rfl,hb1⟩
      have hBx3:=step_below hBx2 hb1
      go_wp2
      go_roundw
      case rel=>exact ⟨j+1,by omega,by go_num,hBx3⟩
      case measure=>simp [intOf];omega
     ·obtain rfl:j=J:=by omega
      rw [hbad]at cR
      clear hbad
      generalize F j=q at hox hcj htx2 hBx2 cR
      have k0:wr.cell? ⟨b',off'+j*5,none⟩=some (.int .i64 q.op):=hcj 0 _ rfl
      have k1:wr.cell? ⟨b',off'+j*5+1,none⟩=some (.int .i64 q.a):=hcj 1 _ rfl
      have k2:wr.cell? ⟨b',off'+j*5+2,none⟩=some (.int .i64 q.b):=hcj 2 _ rfl
      have k3:wr.cell? ⟨b',off'+j*5+3,none⟩=some (.int .i64 q.c):=hcj 3 _ rfl
      have k4:wr.cell? ⟨b',off'+j*5+4,none⟩=some (.int .u32 q.k):=hcj 4 _ rfl
      clear hcj
      go_wp2_with fail
      refine (cR _ htx2).mono ?_
      rintro e w1 ⟨rfl,hb1⟩
      have hBx3:=step_below hBr (step_below hBx2 hb1)
      go_wp2
      go_ret3
      exact ⟨rfl,hBx3⟩
  ·obtain ⟨_,hgo⟩:=HG.out
   rcases hgo with ⟨rfl,h⟩|⟨rfl,h,_⟩|⟨rfl,h,_⟩
   ·go_wp2
    go_ret3
    exact ⟨rfl,hBr⟩
   ·exact absurd h (by omega)
   ·exact absurd h (by omega)
theorem check_any (p:Pg) (ho:p.Ok) (t j e:Int) (h:Chk p t j e) (w:World) (ht:Tab w) (ha:p.At w):
 Calls Tryz.prog 42 #[p.val] w fun r w'=>r= .returned (.tuple #[.int .i64 t,.int .i64 j,.int .i64 e])/\Below w.heap.size w w':=by
 cases h with
 |args h=>exact check_args p h w
 |mem a1 a2 a3 a4 h=>exact check_mem p a1 a2 a3 a4 h w
 |long t a1 a2 a3 a4 a5 ht' hg hl=>exact check_loop p ho a1 a2 a3 a4 a5 t 0 1 ⟨hg,.inr (.inl ⟨rfl,ht',hl⟩)⟩ w ht ha
 |form t j a1 a2 a3 a4 a5 ht' hg hl hj hi hb=>exact check_loop p ho a1 a2 a3 a4 a5 t j 2 ⟨hg,.inr (.inr ⟨rfl,ht',hl,hj,hi,hb⟩)⟩ w ht ha
 |fine a1 a2 a3 a4 a5 hg=>exact check_loop p ho a1 a2 a3 a4 a5 p.n 0 0 ⟨hg,.inl ⟨rfl,rfl⟩⟩ w ht ha
end Go.Proofs.YtmhfpjnkjlhbpaaGreatDoor
