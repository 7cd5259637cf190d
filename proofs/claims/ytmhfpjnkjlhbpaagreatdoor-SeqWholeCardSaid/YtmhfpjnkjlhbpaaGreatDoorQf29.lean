/- asm.Builder: At (printed by gen/bld.py). asm.Builder: Set, Alu, Ask, Cas; parts of codes (printed by gen/bldf.py). isa.Moved (XIsaMoved, on XIsaChk). -/
import Derived.Test.YtmhfpjnkjlhbpaaGreatDoorQf28
import Derived.Test.YtmhfpjnkjlhbpaaGreatDoorQf03
import Derived.Test.YtmhfpjnkjlhbpaaGreatDoorQf10
namespace Go.Proofs.YtmhfpjnkjlhbpaaGreatDoor
open Go.ChangeShapes Go.WideShapes Go.ChangeAt Go.RowKit Go.Deep
set_option linter.unusedVariables false
set_option maxRecDepth 100000
set_option linter.unusedSimpArgs false
open List renaming getElem_toArray->zA,getElem_cons_zero->zB,getElem_cons_succ->zC,setIfInBounds_toArray->zD,set_cons_zero->zE,set_cons_succ->zF
def Nm (s:List UInt8):Bool:=decide (1<=s.length)&&decide (s.length<=20)&&s.all fun x=>decide (97<=x.toNat)&&decide (x.toNat<=122)
theorem bname_any (s:List UInt8) (hs:Nm s=true) (w:World):Calls Tryz.prog 138 #[str s] w fun e w'=>e= .returned (.bool true)/\Below w.heap.size w w':=by
 simp only [Nm,Bool.and_eq_true,decide_eq_true_eq,List.all_eq_true]at hs
 obtain ⟨⟨h1,h2⟩,h3⟩:=hs
 refine (bname_at ⟨s.toArray⟩ w ?_ (by show s.toArray.size<=20;simpa using h2) ?_).mono ?_
 ·rw [Lib.toList_data]
  intro e
  have e:s=[]:=by simpa using e
  rw [e]at h1
  exact absurd h1 (by decide)
 ·intro i hi
  have hi':i<s.length:=by have :i<s.toArray.size:=hi;simpa using this
  have :(⟨s.toArray⟩:ByteArray)[i]'hi=s[i]'hi':=by show s.toArray[i]'(by simpa using hi')=_;simp
  rw [this]
  exact h3 _ (List.getElem_mem _)
 ·rintro e w' ⟨he,rfl⟩
  exact ⟨he,(Below.refl w.heap.size w).alloc (Nat.le_refl _) _⟩
theorem BParts.looks {N0:Nat} {W:World} {bb mb:Nat} {b:BB} {vc vl:Value} (h:BParts N0 W bb b vc vl (some mb)): ∃DW:DataW Unit,W.ownsMap Tryz.prog 9 (plainElem Tryz.prog 3) mb b.places.length DW/\(∀s,Maps.has DW (.string s)=(b.places.lookup s).isSome)/\(∀s v,b.places.lookup s=some v-> ∀z,DW.atKey (.string s) z= .lit (.int .i64 (v:Int))):=by
 obtain ⟨_,DW,h1,h2,h3⟩:=h.places
 exact ⟨DW,h1,h2,h3⟩
theorem zero_intB (w:World):(zeroValue 3).run Tryz.prog w= .ok (.int .i64 0) w:=by kernel_rfl
theorem nilB (w:World) (r:Option Nat):(binOp .eql 127 (.map r) (.map none)).run Tryz.prog w= .ok (.bool r.isNone) w:=run_eql_map_nil w _ _ _ r Tryz.underlying127
set_option maxHeartbeats 4000000 in
theorem bat_any (N0 bb:Nat) (b:BB) (s:List UInt8) (hs:Nm s=true) (hf:b.places.lookup s=none) (hl:b.places.length<=1000) (hn:b.code.length<=1000) (W:World) (h:BI N0 W bb b):
 Calls Tryz.prog 99 #[.pointer (some ⟨bb,0,none⟩),str s] W fun e W'=>(∃u,e= .returned u)/\BI N0 W' bb {b with places:=(s,b.code.length)::b.places}/\BelF N0 W W':=by
 obtain ⟨vc,vl,mo,hP⟩:=h
 have hkey:keyOf Tryz.prog 9 (str s)=some (.string s):=key_str (by
  simp only [Nm,Bool.and_eq_true,decide_eq_true_eq]at hs
  unfold maxLen;omega)
 have HNm:=Lib.hid hs
 have HF:=Lib.hid (And.intro hf (And.intro hl hn))
 clear hs hf hl hn
 have hun:=Lib.hid (Tryz.underlying127)
 rcases mo with _|mb
 case' none=>
  have HP1:=Lib.hid hP.addMap
  have q1:=(hP.blk.cell 1).trans rfl
  have qa:=((hP.blk.alloc (.map #[] 0)).cell 1).trans rfl
  have fa:=(hP.blk.alloc (.map #[] 0)).frozen 1
  have qn:=nilB W none
  have qm:=run_makeMap (P:=Tryz.prog) 127 W
  clear hP
  go_enter Tryz.func99,Tryz.ntmps99
  go_wp2_with fail
  generalize (W.alloc (.map #[] 0)).setCell ⟨bb,1,none⟩ (.map (some W.heap.size))=W1 at HP1⊢
  generalize W.heap.size=mb at HP1⊢
  clear q1 qa fa qn qm
 case' some=>
  obtain ⟨W1,e1,h1P⟩: ∃W1,W1=W/\(BParts N0 W1 bb b vc vl (some mb)/\BelF N0 W W1):=⟨W,rfl,And.intro hP (BelF.refl N0 W)⟩
  have HP1:=Lib.hid h1P
  clear h1P
  have q1:=(hP.blk.cell 1).trans rfl
  have qn:=nilB W (some mb)
  clear hP
  go_enter Tryz.func99,Tryz.ntmps99
  go_wp2_with fail
  rw [<-e1]
  clear q1 qn e1
 all_goals
  obtain ⟨DW,hm1,hm2,hm3⟩:=HP1.out.1.looks
  obtain ⟨v,ps,hlk,hv⟩:=hm1.look_ok key_law hun.out (zero_intB W1) (plainElem_int Tryz.underlying3 (show (Lit.int .i64 0).wf=true from by decide)) hkey
  obtain ⟨c,rfl,_,_⟩:=plainElem_int_inv Tryz.underlying3 hv
  rw [hm2 s,show (b.places.lookup s).isSome=false from by rw [HF.out.1];rfl]at hlk
  have cN:=bname_any s HNm.out W1
  clear hm1 hm2 hm3 hv
  rw [hlk]
  go_wp2_with fail
  with_reducible refine cN.mono ?_
  rintro e W2 ⟨rfl,hB2⟩
  clear cN hlk
  have HP2:=Lib.hid (And.intro (HP1.out.1.below hB2) (HP1.out.2.trans (BelF.of hB2 HP1.out.1.lt)))
  go_wp2
  refine startG (fun W'=>W'=W2.drew) 10 (by kernel_rfl) ?_
  have hq:=HP2.out.1.below (below_drewB W2)
  obtain ⟨DX,hx1,hx2,hx3⟩:=hq.looks
  obtain ⟨W4,hup,hox,hgx⟩:=hx1.update key_law hun.out (show b.places.length<maxLen from by have :=HF.out.2.1;unfold maxLen;omega) hkey (plainElem_int (H:=Unit) Tryz.underlying3 (a:=(b.code.length:Int)) (by have :=HF.out.2.2;exact Go.WalkArith.wf_i64 (by omega)))
  have HQ:=Lib.hid (hq.addPlace hgx (PlI.put (hq.mapNe rfl).2.2.2.2 hx1.isMap hx2 hx3 s b.code.length hox))
  have HD:=Lib.hid (HP2.out.2.trans (BelF.of (below_drewB W2) HP2.out.1.lt))
  obtain ⟨AC,capc,rfl,_,_⟩:=own_cap hq.code
  have HB:=Lib.hid hq.blk
  clear hx1 hx2 hx3 hq hox hgx
  generalize W2.drew=W3 at HB HQ HD hup⊢
  generalize b.code.length=m at HB hup⊢
  refine takeA (i:=0) (v:= .pointer (some ⟨bb,0,none⟩)) rfl rfl ?_
  simp only [Act.put,zA,zB,zC,zD,zE,zF]
  refine takeA (i:=1) (v:= .pointer (some ⟨bb,0,none⟩)) rfl rfl ?_
  simp only [Act.put,zA,zB,zC,zD,zE,zF]
  refine takeA (i:=2) (v:= .pointer (some ⟨bb,1,none⟩)) rfl rfl ?_
  simp only [Act.put,zA,zB,zC,zD,zE,zF]
  refine takeB (i:=3) (v:= .map (some mb)) rfl (Or.inl ⟨by rfl,fun W hW=>by subst hW;have q0:=(HB.out.cell 1).trans rfl;go_simp⟩) rfl ?_
  simp only [Act.put,zA,zB,zC,zD,zE,zF]
  refine takeA (i:=4) (v:=str s) rfl rfl ?_
  simp only [Act.put,zA,zB,zC,zD,zE,zF]
  refine takeA (i:=5) (v:= .pointer (some ⟨bb,0,none⟩)) rfl rfl ?_
  simp only [Act.put,zA,zB,zC,zD,zE,zF]
  refine takeA (i:=6) (v:= .pointer (some ⟨bb,0,none⟩)) rfl rfl ?_
  simp only [Act.put,zA,zB,zC,zD,zE,zF]
  refine takeA (i:=7) (v:= .pointer (some ⟨bb,0,none⟩)) rfl rfl ?_
  simp only [Act.put,zA,zB,zC,zD,zE,zF]
  refine takeB (i:=8) (v:= .slice AC m capc) rfl (Or.inl ⟨by rfl,fun W hW=>by subst hW;have q0:=(HB.out.cell 0).trans rfl;go_simp⟩) rfl ?_
  simp only [Act.put,zA,zB,zC,zD,zE,zF]
  refine takeA (i:=9) (v:= .int .i64 (m:Int)) rfl rfl ?_
  simp only [Act.put,zA,zB,zC,zD,zE,zF]
  refine lastG (by kernel_rfl) rfl (by kernel_rfl) (fun K hK=>?_)
  go_simp
  refine hK.out _ _ ?_
  clear hK K
  go_wp2
  go_end0
  exact ⟨⟨_,rfl⟩,HQ.out.1,HD.out.trans HQ.out.2⟩
def BB.ins (b:BB) (x:Ins):BB:={b with code:=b.code++[x]}
def BB.at (b:BB) (s:List UInt8):BB:={b with places:=(s,b.code.length)::b.places}
def BB.go (b:BB) (op a:Int) (s:List UInt8):BB:={b with code:=b.code++[⟨op,a,0,0,0⟩],links:=b.links++[(b.code.length,s)]}
def BB.Room (b:BB) (n:Nat):Prop:=b.code.length+n<=1000/\b.links.length+n<=1000/\b.places.length+n<=1000
theorem BB.Room.mono {b:BB} {n m:Nat} (h:b.Room n) (hm:m<=n):b.Room m:=⟨by have :=h.1;omega,by have :=h.2.1;omega,by have :=h.2.2;omega⟩
theorem BB.Room.ins {b:BB} {n:Nat} (h:b.Room (n+1)) (x:Ins):(b.ins x).Room n:=⟨by have :=h.1;simp [BB.ins];omega,by have :=h.2.1;simp [BB.ins];omega,by have :=h.2.2;simp [BB.ins];omega⟩
theorem BB.Room.at {b:BB} {n:Nat} (h:b.Room (n+1)) (s:List UInt8):(b.at s).Room n:=⟨by have :=h.1;simp [BB.at];omega,by have :=h.2.1;simp [BB.at];omega,by have :=h.2.2;simp [BB.at];omega⟩
theorem BB.Room.go {b:BB} {n:Nat} (h:b.Room (n+1)) (op a:Int) (s:List UInt8):(b.go op a s).Room n:=⟨by have :=h.1;simp [BB.go];omega,by have :=h.2.1;simp [BB.go];omega,by have :=h.2.2;simp [BB.go];omega⟩
def Bls (f:FuncId) (args:Array Value) (N0 bb:Nat) (b b':BB) (W:World):Prop:=Calls Tryz.prog f args W fun e W'=>(∃u,e= .returned u)/\BI N0 W' bb b'/\BelF N0 W W'
theorem BI.rins {N0 bb n:Nat} {b:BB} {x:Ins} {W:World} (h:BI N0 W bb (b.ins x)) (hr:b.Room (n+1)):(b.ins x).Room n:=hr.ins x
theorem BI.rat {N0 bb n:Nat} {b:BB} {s:List UInt8} {W:World} (h:BI N0 W bb (b.at s)) (hr:b.Room (n+1)):(b.at s).Room n:=hr.at s
theorem BI.rgo {N0 bb n:Nat} {b:BB} {op a:Int} {s:List UInt8} {W:World} (h:BI N0 W bb (b.go op a s)) (hr:b.Room (n+1)):(b.go op a s).Room n:=hr.go op a s
theorem Bls.step {f:FuncId} {args:Array Value} {N0 bb:Nat} {b b':BB} {W:World} {R:Ending->World->Prop} (h:Bls f args N0 bb b b' W) (k: ∀e W',((∃u,e= .returned u)/\BI N0 W' bb b'/\BelF N0 W W')->R e W'):Calls Tryz.prog f args W R:=Calls.mono h fun e W'=>k e W'
theorem b_at {N0 bb:Nat} {b:BB} {n:Nat} (s:List UInt8) (hs:Nm s=true) {W:World} (h:BI N0 W bb b) (hr:b.Room (n+1)) (hf:b.places.lookup s=none):Bls 99 #[.pointer (some ⟨bb,0,none⟩),str s] N0 bb b (b.at s) W:=bat_any N0 bb b s hs hf (by have :=hr.2.2;omega) (by have :=hr.1;omega) W h
theorem b_go {N0 bb:Nat} {b:BB} {n:Nat} (op a:Int) (s:List UInt8) {W:World} (h:BI N0 W bb b) (hr:b.Room (n+1)):Bls 97 #[.pointer (some ⟨bb,0,none⟩),.int .i64 op,.int .i64 a,str s] N0 bb b (b.go op a s) W:=bgo_any N0 bb b op a s W h (by have :=hr.1;omega) (by have :=hr.2.1;omega)
theorem b_do {N0 bb:Nat} {b:BB} {n:Nat} (op a x c k:Int) {W:World} (h:BI N0 W bb b) (hr:b.Room (n+1)):Bls 102 #[.pointer (some ⟨bb,0,none⟩),.agg #[.int .i64 op,.int .i64 a,.int .i64 x,.int .i64 c,.int .u32 k]] N0 bb b (b.ins ⟨op,a,x,c,k⟩) W:=bdo_any N0 bb b ⟨op,a,x,c,k⟩ W h (by have :=hr.1;omega)
set_option maxHeartbeats 1000000 in
theorem b_set {N0 bb:Nat} {b:BB} {n:Nat} (a k:Int) {W:World} (h:BI N0 W bb b) (hr:b.Room (n+1)):Bls 94 #[.pointer (some ⟨bb,0,none⟩),.int .i64 a,.int .u32 k] N0 bb b (b.ins ⟨1,a,0,0,k⟩) W:=by
 have hc:=b_do (n:=n) 1 a 0 0 k h hr
 unfold Bls at hc⊢
 go_enter Tryz.func94,Tryz.ntmps94
 go_wp2_with fail
 with_reducible refine hc.mono ?_
 rintro e W1 ⟨⟨u,rfl⟩,h1,b1⟩
 clear hc
 go_wp2
 go_end0
 exact ⟨⟨_,rfl⟩,h1,b1⟩
set_option maxHeartbeats 1000000 in
theorem b_alu {N0 bb:Nat} {b:BB} {n:Nat} (op a x y:Int) {W:World} (h:BI N0 W bb b) (hr:b.Room (n+1)):Bls 101 #[.pointer (some ⟨bb,0,none⟩),.int .i64 op,.int .i64 a,.int .i64 x,.int .i64 y] N0 bb b (b.ins ⟨op,a,x,y,0⟩) W:=by
 have hc:=b_do (n:=n) op a x y 0 h hr
 unfold Bls at hc⊢
 go_enter Tryz.func101,Tryz.ntmps101
 go_wp2_with fail
 with_reducible refine hc.mono ?_
 rintro e W1 ⟨⟨u,rfl⟩,h1,b1⟩
 clear hc
 go_wp2
 go_end0
 exact ⟨⟨_,rfl⟩,h1,b1⟩
set_option maxHeartbeats 1000000 in
theorem b_ask {N0 bb:Nat} {b:BB} {n:Nat} (op a k:Int) {W:World} (h:BI N0 W bb b) (hr:b.Room (n+1)):Bls 87 #[.pointer (some ⟨bb,0,none⟩),.int .i64 op,.int .i64 a,.int .u32 k] N0 bb b (b.ins ⟨op,a,8,0,k⟩) W:=by
 have hc:=b_do (n:=n) op a 8 0 k h hr
 unfold Bls at hc⊢
 go_enter Tryz.func87,Tryz.ntmps87
 go_wp2_with fail
 with_reducible refine hc.mono ?_
 rintro e W1 ⟨⟨u,rfl⟩,h1,b1⟩
 clear hc
 go_wp2
 go_end0
 exact ⟨⟨_,rfl⟩,h1,b1⟩
set_option maxHeartbeats 1000000 in
theorem b_cas {N0 bb:Nat} {b:BB} {n:Nat} (a c k:Int) {W:World} (h:BI N0 W bb b) (hr:b.Room (n+1)):Bls 96 #[.pointer (some ⟨bb,0,none⟩),.int .i64 a,.int .i64 c,.int .u32 k] N0 bb b (b.ins ⟨21,a,8,c,k⟩) W:=by
 have hc:=b_do (n:=n) 21 a 8 c k h hr
 unfold Bls at hc⊢
 go_enter Tryz.func96,Tryz.ntmps96
 go_wp2_with fail
 with_reducible refine hc.mono ?_
 rintro e W1 ⟨⟨u,rfl⟩,h1,b1⟩
 clear hc
 go_wp2
 go_end0
 exact ⟨⟨_,rfl⟩,h1,b1⟩
def n_free:List UInt8:=[102,114,101,101]
def n_end:List UInt8:=[101,110,100]
def n_mine:List UInt8:=[109,105,110,101]
def n_spin:List UInt8:=[115,112,105,110]
def n_again:List UInt8:=[97,103,97,105,110]
theorem str_free:Value.string ⟨#[102,114,101,101]⟩=str n_free:=rfl
theorem str_end:Value.string ⟨#[101,110,100]⟩=str n_end:=rfl
theorem str_mine:Value.string ⟨#[109,105,110,101]⟩=str n_mine:=rfl
theorem str_spin:Value.string ⟨#[115,112,105,110]⟩=str n_spin:=rfl
theorem str_again:Value.string ⟨#[97,103,97,105,110]⟩=str n_again:=rfl
theorem nm_free:Nm n_free=true:=by decide
theorem nm_end:Nm n_end=true:=by decide
theorem nm_mine:Nm n_mine=true:=by decide
theorem nm_spin:Nm n_spin=true:=by decide
theorem nm_again:Nm n_again=true:=by decide
def BB.e:BB:=⟨[],[],[]⟩
def BB.mine (b:BB) (own t:Int):BB:=((b.ins ⟨16,4,8,0,own⟩).ins ⟨1,5,0,0,t+1⟩).ins ⟨12,6,4,5,0⟩
def BB.claim (b:BB) (own t:Int):BB:=(((((b.mine own t).go 14 6 n_free).ins ⟨1,7,0,0,1⟩).go 13 0 n_end).at n_free)
def BB.prove (b:BB) (own t:Int):BB:=(((((b.mine own t).go 15 6 n_mine).ins ⟨1,7,0,0,2⟩).go 13 0 n_end).at n_mine)
def BB.close (b:BB):BB:=(b.ins ⟨1,7,0,0,0⟩).at n_end
def BB.zero (b:BB) (a:Int):BB:=(b.ins ⟨1,4,0,0,0⟩).ins ⟨17,4,8,0,a⟩
theorem BB.Room.mine {b:BB} {n:Nat} (h:b.Room (n+3)) (own t:Int):(b.mine own t).Room n:=BB.Room.ins (BB.Room.ins (BB.Room.ins (n:=n+2) h _) _) _
theorem BB.Room.claim {b:BB} {n:Nat} (h:b.Room (n+7)) (own t:Int):(b.claim own t).Room n:=BB.Room.at (BB.Room.go (BB.Room.ins (BB.Room.go (BB.Room.mine (n:=n+4) h _ _) _ _ _) _) _ _ _) _
theorem BB.Room.prove {b:BB} {n:Nat} (h:b.Room (n+7)) (own t:Int):(b.prove own t).Room n:=BB.Room.at (BB.Room.go (BB.Room.ins (BB.Room.go (BB.Room.mine (n:=n+4) h _ _) _ _ _) _) _ _ _) _
theorem BB.Room.close {b:BB} {n:Nat} (h:b.Room (n+2)):b.close.Room n:=BB.Room.at (BB.Room.ins h _) _
theorem BB.Room.zero {b:BB} {n:Nat} (h:b.Room (n+2)) (a:Int):(b.zero a).Room n:=BB.Room.ins (BB.Room.ins h _) _
set_option maxHeartbeats 2000000 in
theorem b_mine {N0 bb:Nat} {b:BB} {n:Nat} (own t:Int) {W:World} (h:BI N0 W bb b) (hr:b.Room (n+3)) (ht:0<=t/\t<=1000):Bls 134 #[.pointer (some ⟨bb,0,none⟩),.int .u32 own,.int .i64 t] N0 bb b (b.mine own t) W:=by
 unfold Bls
 go_enter Tryz.func134,Tryz.ntmps134
 go_wp2_with fail
 refine Bls.step (b_ask (n:=n+2) _ _ _ h hr) ?_
 rintro _ W1 ⟨⟨u0,rfl⟩,h1,b1⟩
 have r1:=BI.rins (n:=n+2) h1 hr
 go_wp2_with fail
 refine Bls.step (b_set (n:=n+1) _ _ h1 r1) ?_
 rintro _ W2 ⟨⟨u1,rfl⟩,h2,b2⟩
 have r2:=BI.rins (n:=n+1) h2 r1
 go_wp2_with fail
 refine Bls.step (b_alu (n:=n+0) _ _ _ _ h2 r2) ?_
 rintro _ W3 ⟨⟨u2,rfl⟩,h3,b3⟩
 have r3:=BI.rins (n:=n+0) h3 r2
 go_wp2
 go_end0
 exact ⟨⟨_,rfl⟩,h3,b1.trans (b2.trans (b3))⟩
set_option maxHeartbeats 2000000 in
theorem b_claim {N0 bb:Nat} {b:BB} {n:Nat} (own t:Int) {W:World} (h:BI N0 W bb b) (hr:b.Room (n+7)) (ht:0<=t/\t<=1000) (hf:b.places.lookup n_free=none):Bls 82 #[.pointer (some ⟨bb,0,none⟩),.int .u32 own,.int .i64 t] N0 bb b (b.claim own t) W:=by
 unfold Bls
 go_enter Tryz.func82,Tryz.ntmps82
 go_wp2_with fail
 refine Bls.step (b_mine (n:=n+4) _ _ h hr ht) ?_
 rintro _ W1 ⟨⟨u0,rfl⟩,h1,b1⟩
 have r1:=BB.Room.mine hr own t
 go_wp2_with fail
 try rw [str_free]
 refine Bls.step (b_go (n:=n+3) _ _ n_free h1 r1) ?_
 rintro _ W2 ⟨⟨u1,rfl⟩,h2,b2⟩
 have r2:=BI.rgo (n:=n+3) h2 r1
 go_wp2_with fail
 refine Bls.step (b_set (n:=n+2) _ _ h2 r2) ?_
 rintro _ W3 ⟨⟨u2,rfl⟩,h3,b3⟩
 have r3:=BI.rins (n:=n+2) h3 r2
 go_wp2_with fail
 try rw [str_end]
 refine Bls.step (b_go (n:=n+1) _ _ n_end h3 r3) ?_
 rintro _ W4 ⟨⟨u3,rfl⟩,h4,b4⟩
 have r4:=BI.rgo (n:=n+1) h4 r3
 go_wp2_with fail
 try rw [str_free]
 refine Bls.step (b_at (n:=n+0) n_free nm_free h4 r4 hf) ?_
 rintro _ W5 ⟨⟨u4,rfl⟩,h5,b5⟩
 have r5:=BI.rat (n:=n+0) h5 r4
 go_wp2
 go_end0
 exact ⟨⟨_,rfl⟩,h5,b1.trans (b2.trans (b3.trans (b4.trans (b5))))⟩
set_option maxHeartbeats 2000000 in
theorem b_prove {N0 bb:Nat} {b:BB} {n:Nat} (own t:Int) {W:World} (h:BI N0 W bb b) (hr:b.Room (n+7)) (ht:0<=t/\t<=1000) (hf:b.places.lookup n_mine=none):Bls 84 #[.pointer (some ⟨bb,0,none⟩),.int .u32 own,.int .i64 t] N0 bb b (b.prove own t) W:=by
 unfold Bls
 go_enter Tryz.func84,Tryz.ntmps84
 go_wp2_with fail
 refine Bls.step (b_mine (n:=n+4) _ _ h hr ht) ?_
 rintro _ W1 ⟨⟨u0,rfl⟩,h1,b1⟩
 have r1:=BB.Room.mine hr own t
 go_wp2_with fail
 try rw [str_mine]
 refine Bls.step (b_go (n:=n+3) _ _ n_mine h1 r1) ?_
 rintro _ W2 ⟨⟨u1,rfl⟩,h2,b2⟩
 have r2:=BI.rgo (n:=n+3) h2 r1
 go_wp2_with fail
 refine Bls.step (b_set (n:=n+2) _ _ h2 r2) ?_
 rintro _ W3 ⟨⟨u2,rfl⟩,h3,b3⟩
 have r3:=BI.rins (n:=n+2) h3 r2
 go_wp2_with fail
 try rw [str_end]
 refine Bls.step (b_go (n:=n+1) _ _ n_end h3 r3) ?_
 rintro _ W4 ⟨⟨u3,rfl⟩,h4,b4⟩
 have r4:=BI.rgo (n:=n+1) h4 r3
 go_wp2_with fail
 try rw [str_mine]
 refine Bls.step (b_at (n:=n+0) n_mine nm_mine h4 r4 hf) ?_
 rintro _ W5 ⟨⟨u4,rfl⟩,h5,b5⟩
 have r5:=BI.rat (n:=n+0) h5 r4
 go_wp2
 go_end0
 exact ⟨⟨_,rfl⟩,h5,b1.trans (b2.trans (b3.trans (b4.trans (b5))))⟩
set_option maxHeartbeats 2000000 in
theorem b_close {N0 bb:Nat} {b:BB} {n:Nat} {W:World} (h:BI N0 W bb b) (hr:b.Room (n+2)) (hf:b.places.lookup n_end=none):Bls 89 #[.pointer (some ⟨bb,0,none⟩)] N0 bb b b.close W:=by
 unfold Bls
 go_enter Tryz.func89,Tryz.ntmps89
 go_wp2_with fail
 refine Bls.step (b_set (n:=n+1) _ _ h hr) ?_
 rintro _ W1 ⟨⟨u0,rfl⟩,h1,b1⟩
 have r1:=BI.rins (n:=n+1) h1 hr
 go_wp2_with fail
 try rw [str_end]
 refine Bls.step (b_at (n:=n+0) n_end nm_end h1 r1 hf) ?_
 rintro _ W2 ⟨⟨u1,rfl⟩,h2,b2⟩
 have r2:=BI.rat (n:=n+0) h2 r1
 go_wp2
 go_end0
 exact ⟨⟨_,rfl⟩,h2,b1.trans (b2)⟩
set_option maxHeartbeats 2000000 in
theorem b_zero {N0 bb:Nat} {b:BB} {n:Nat} (a:Int) {W:World} (h:BI N0 W bb b) (hr:b.Room (n+2)):Bls 86 #[.pointer (some ⟨bb,0,none⟩),.int .u32 a] N0 bb b (b.zero a) W:=by
 unfold Bls
 go_enter Tryz.func86,Tryz.ntmps86
 go_wp2_with fail
 refine Bls.step (b_set (n:=n+1) _ _ h hr) ?_
 rintro _ W1 ⟨⟨u0,rfl⟩,h1,b1⟩
 have r1:=BI.rins (n:=n+1) h1 hr
 go_wp2_with fail
 refine Bls.step (b_ask (n:=n+0) _ _ _ h1 r1) ?_
 rintro _ W2 ⟨⟨u1,rfl⟩,h2,b2⟩
 have r2:=BI.rins (n:=n+0) h2 r1
 go_wp2
 go_end0
 exact ⟨⟨_,rfl⟩,h2,b1.trans (b2)⟩
end Go.Proofs.YtmhfpjnkjlhbpaaGreatDoor
namespace Go.Proofs.YtmhfpjnkjlhbpaaGreatDoor
open Go.ChangeShapes Go.WideShapes Go.ChangeAt Go.RowKit Go.Deep
set_option linter.unusedVariables false
set_option maxRecDepth 100000
open List renaming getElem_toArray->zA,getElem_cons_zero->zB,getElem_cons_succ->zC,setIfInBounds_toArray->zD,set_cons_zero->zE,set_cons_succ->zF
def movedI (z:Int) (i:Ins):Ins:=if jmpB i.op=true then {i with k:=aluF 3 i.k z}else i
def setIns (cs:Array Value) (k:Nat) (i:Ins):Array Value:=
 ((((cs.setIfInBounds (k*5) (.int .i64 i.op)).setIfInBounds (k*5+1) (.int .i64 i.a)).setIfInBounds (k*5+2) (.int .i64 i.b)).setIfInBounds (k*5+3) (.int .i64 i.c)).setIfInBounds (k*5+4) (.int .u32 i.k)
def InsAt (cs:Array Value) (i:Nat) (q:Ins):Prop:= ∀j u,q.cells[j]?=some u->cs[i*5+j]?=some u
theorem setIns_size (cs:Array Value) (k:Nat) (q:Ins):(setIns cs k q).size=cs.size:=by unfold setIns;simp
theorem setIns_same {cs:Array Value} {k:Nat} (q:Ins) (h:k*5+5<=cs.size):InsAt (setIns cs k q) k q:=by
 intro j u hu
 unfold setIns
 unfold Ins.cells at hu
 rcases (show j=0∨j=1∨j=2∨j=3∨j=4∨5<=j by omega)with rfl|rfl|rfl|rfl|rfl|h5
 ·rw [<-Option.some.inj hu];simp [Array.getElem?_setIfInBounds];omega
 ·rw [<-Option.some.inj hu];simp [Array.getElem?_setIfInBounds];omega
 ·rw [<-Option.some.inj hu];simp [Array.getElem?_setIfInBounds];omega
 ·rw [<-Option.some.inj hu];simp [Array.getElem?_setIfInBounds];omega
 ·rw [<-Option.some.inj hu];simp [Array.getElem?_setIfInBounds];omega
 ·rw [List.getElem?_eq_none (by simpa using h5)]at hu
  cases hu
theorem InsAt.set_other {cs:Array Value} {i k:Nat} {q:Ins} (h:InsAt cs i q) (hne:i≠k) (j:Nat) (hj:j<5) (v:Value):InsAt (cs.setIfInBounds (k*5+j) v) i q:=by
 intro j' u hu
 have hj':j'<5:=(List.getElem?_eq_some_iff.1 hu).1
 rw [Array.getElem?_setIfInBounds_ne (by omega)]
 exact h j' u hu
theorem setIns_other {cs:Array Value} {i k:Nat} {q:Ins} (p:Ins) (h:InsAt cs i q) (hne:i≠k):InsAt (setIns cs k p) i q:=by
 unfold setIns
 exact (((((InsAt.set_other h hne 0 (by decide) _).set_other hne 1 (by decide) _).set_other hne 2 (by decide) _).set_other hne 3 (by decide) _).set_other hne 4 (by decide) _)
theorem InsAt.setK {cs:Array Value} {k:Nat} {q:Ins} (h:InsAt cs k q) (z:Int):InsAt (cs.setIfInBounds (k*5+4) (.int .u32 z)) k {q with k:=z}:=by
 intro j u hu
 have hj:j<5:=(List.getElem?_eq_some_iff.1 hu).1
 have hs:k*5+4<cs.size:=by
  have :=h 4 _ rfl
  exact (Array.getElem?_eq_some_iff.1 this).1
 by_cases h4:j=4
 ·subst h4
  rw [Array.getElem?_setIfInBounds_self_of_lt hs]
  exact hu
 ·rw [Array.getElem?_setIfInBounds_ne (by omega)]
  refine h j u ?_
  rcases (show j=0∨j=1∨j=2∨j=3 by omega)with rfl|rfl|rfl|rfl<;>exact hu
theorem InsAt.moved_no {cs:Array Value} {k:Nat} {q:Ins} {z:Int} (h:InsAt cs k q) (hj:jmpB q.op=false):InsAt cs k (movedI z q):=by
 unfold movedI;rw [hj];exact h
theorem InsAt.moved_yes {cs:Array Value} {k:Nat} {q:Ins} {z:Int} (h:InsAt cs k q) (hj:jmpB q.op=true):InsAt (cs.setIfInBounds (k*5+4) (.int .u32 (aluF 3 q.k z))) k (movedI z q):=by
 unfold movedI;rw [hj];exact h.setK _
theorem instr_info:(Tryz.prog.info? 75).map (fun i=>(i.zero,i.size,i.bytes))=some (some (.agg #[.int .i64 0,.int .i64 0,.int .i64 0,.int .i64 0,.int .u32 0]),5,40):=by kernel_rfl
theorem run_make_code (n:Nat) (hn:n<=1000000): ∀w:World,(Instr.makeSlice 50 (.int .i64 (n:Int)) (.int .i64 (n:Int))).run Tryz.prog w=
 .ok (.slice (some ⟨w.heap.size,0,none⟩) n n) (w.alloc (.cells (madeCells #[.int .i64 0,.int .i64 0,.int .i64 0,.int .i64 0,.int .u32 0] (n*5)) 75)):=fun w=>by
 obtain ⟨i,hi,hz,hs,hb⟩:=info_parts instr_info
 have hb2:(i.bytes:Int)*(n:Int)<=281474976710656:=by rw [hb];omega
 have hr:=run_make (P:=Tryz.prog) w 50 75 i _ Tryz.underlying50 hi hz .i64 .i64 n n (by omega) (by omega) hb2 (by omega)
 simp only [Int.toNat_natCast]at hr
 rw [hs]at hr
 exact hr
set_option maxHeartbeats 2000000 in
theorem moved_any (c:Cd) (z:Int) (ho:c.Ok) (hn:c.len<=100000) (hz0:0<=z) (hz1:z<=4294967295) (w:World) (ht:Tab w) (ha:c.At w):
 Calls Tryz.prog 35 #[c.val,.int .i64 z] w fun e w'=> ∃cs:Array Value,e= .returned (.slice (some ⟨w.heap.size,0,none⟩) c.len c.len)/\Blk w' w.heap.size 75 cs/\cs.size=c.len*5/\
  (∀i,i<c.len->InsAt cs i (movedI z (c.F i)))/\Below w.heap.size w w':=by
 obtain ⟨A,len,cap,F⟩:=c
 obtain ⟨_,_,hins⟩:=ho
 unfold Cd.At at ha
 unfold Cd.val
 dsimp only at*
 have hmk:=run_make_code len (by omega)
 have HA:=Lib.hid ha
 have HI:=Lib.hid hins
 clear ha hins
 go_enter Tryz.func35,Tryz.ntmps35
 go_wp2
 clear hmk
 go_loopw [13] (fun v wr=> ∃k:Nat,k<=len/\v= .int .i64 k/\ ∃cs:Array Value,Blk wr w.heap.size 75 cs/\cs.size=len*5/\(∀i,i<k->InsAt cs i (movedI z (F i)))/\Below w.heap.size w wr)
  (fun v _=>len-(intOf v).toNat)
 case atStart=>
  exact ⟨0,Nat.zero_le _,rfl,_,Blk.new _ _ _,by simp [size_madeCells],fun i hi=>absurd hi (by omega),(Below.refl _ _).alloc (Nat.le_refl _) _⟩
 case round=>
  obtain ⟨k,hk,rfl,cs,hblk,hcs,hdone,hB⟩:=hrel
  have HD:=Lib.hid hdone
  have HC:=Lib.hid hcs
  clear hdone
  by_cases hlt:k<len
  ·obtain ⟨b,off,rfl,hbW,hcW⟩:=HA.out.step hB (by omega)
   have hcj:=hcW k hlt
   dsimp only at hcj
   have hiq:=HI.out k hlt
   have hmv:movedI z (F k)=movedI z (F k):=rfl
   have HM:=Lib.hid hmv
   clear hcW hmv
   obtain ⟨q,hq⟩: ∃q,F k=q:=⟨_,rfl⟩
   rw [hq]at hcj hiq
   have k0:wr.cell? ⟨b,off+k*5,none⟩=some (.int .i64 q.op):=hcj 0 _ rfl
   have k1:wr.cell? ⟨b,off+k*5+1,none⟩=some (.int .i64 q.a):=hcj 1 _ rfl
   have k2:wr.cell? ⟨b,off+k*5+2,none⟩=some (.int .i64 q.b):=hcj 2 _ rfl
   have k3:wr.cell? ⟨b,off+k*5+3,none⟩=some (.int .i64 q.c):=hcj 3 _ rfl
   have k4:wr.cell? ⟨b,off+k*5+4,none⟩=some (.int .u32 q.k):=hcj 4 _ rfl
   clear hcj
   have HQ:=Lib.hid hq
   clear hq
   have hex: ∀j,j<5-> ∃v,cs[k*5+j]?=some v:=fun j hj=>⟨_,Array.getElem?_eq_getElem (show k*5+j<cs.size by have :=HC.out;omega)⟩
   obtain ⟨v0,hv0⟩:=hex 0 (by decide)
   obtain ⟨v1,hv1⟩:=hex 1 (by decide)
   obtain ⟨v2,hv2⟩:=hex 2 (by decide)
   obtain ⟨v3,hv3⟩:=hex 3 (by decide)
   obtain ⟨v4,hv4⟩:=hex 4 (by decide)
   clear hex
   rw [Nat.add_zero]at hv0
   have q0:=(hblk.cell (k*5)).trans hv0
   have q1:=(hblk.cell (k*5+1)).trans hv1
   have q2:=(hblk.cell (k*5+2)).trans hv2
   have q3:=(hblk.cell (k*5+3)).trans hv3
   have q4:=(hblk.cell (k*5+4)).trans hv4
   have f0:=hblk.frozen (k*5)
   have f1:=hblk.frozen (k*5+1)
   have f2:=hblk.frozen (k*5+2)
   have f3:=hblk.frozen (k*5+3)
   have f4:=hblk.frozen (k*5+4)
   have hlg:=hblk.lt
   clear hcs hv0 hv1 hv2 hv3 hv4
   have hkl:(k:Int)<(len:Int):=by omega
   go_wp2_with fail
   have hb5:=((((hblk.set_ (k*5) (.int .i64 q.op)).set_ (k*5+1) (.int .i64 q.a)).set_ (k*5+2) (.int .i64 q.b)).set_ (k*5+3) (.int .i64 q.c)).set_ (k*5+4) (.int .u32 q.k)
   have hB5:=((((hB.setCell (p:=⟨w.heap.size,k*5,none⟩) (Nat.le_refl _) (.int .i64 q.op)).setCell (p:=⟨w.heap.size,k*5+1,none⟩) (Nat.le_refl _) (.int .i64 q.a)).setCell (p:=⟨w.heap.size,k*5+2,none⟩) (Nat.le_refl _) (.int .i64 q.b)).setCell (p:=⟨w.heap.size,k*5+3,none⟩) (Nat.le_refl _) (.int .i64 q.c)).setCell (p:=⟨w.heap.size,k*5+4,none⟩) (Nat.le_refl _) (.int .u32 q.k)
   clear q0 q1 q2 q3 q4 f0 f1 f2 f3 f4 k0 k1 k2 k3 k4
   generalize hW5:((((wr.setCell ⟨w.heap.size,k*5,none⟩ (.int .i64 q.op)).setCell ⟨w.heap.size,k*5+1,none⟩ (.int .i64 q.a)).setCell ⟨w.heap.size,k*5+2,none⟩ (.int .i64 q.b)).setCell ⟨w.heap.size,k*5+3,none⟩ (.int .i64 q.c)).setCell ⟨w.heap.size,k*5+4,none⟩ (.int .u32 q.k)=W5 at hb5 hB5⊢
   have hs5:W5.heap.size=wr.heap.size:=by rw [<-hW5];simp [World.setCell]
   clear hW5
   have ht5:=ht.step hB5
   have hm5:=Blk.new W5 75 #[.int .i64 q.op,.int .i64 q.a,.int .i64 q.b,.int .i64 q.c,.int .u32 q.k]
   have hB6:=hB5.alloc hB5.size (Obj.cells #[.int .i64 q.op,.int .i64 q.a,.int .i64 q.b,.int .i64 q.c,.int .u32 q.k] 75)
   have hb6:=hb5.alloc (Obj.cells #[.int .i64 q.op,.int .i64 q.a,.int .i64 q.b,.int .i64 q.c,.int .u32 q.k] 75)
   have ht6:=ht.step hB6
   refine (jumps_any q.op _ ht6).mono ?_
   rintro e w1 ⟨rfl,hb1⟩
   have hB7:=step_below hB6 hb1
   have hm7:=hm5.below hb1 hm5.lt
   have hb7:=hb6.below hb1 hb6.lt
   rw [hs5]at hm7
   clear hs5
   have hs7:(setIns cs k q).size=len*5:=by rw [setIns_size];exact HC.out
   have hsame:InsAt (setIns cs k q) k q:=setIns_same q (by rw [HC.out];omega)
   have hoth: ∀i,i<k->InsAt (setIns cs k q) i (movedI z (F i)):=fun i hi=>setIns_other q (HD.out i hi) (by omega)
   have HH:=Lib.hid (And.intro hsame hoth)
   change Blk w1 w.heap.size 75 (setIns cs k q)at hb7
   generalize setIns cs k q=cs2 at*
   clear hb5 hB5 hb6 hB6 hm5 ht5 ht6 hb1 hoth hblk hB HD hlg
   obtain ⟨v,hv⟩: ∃v,cs2[k*5+4]?=some v:=⟨_,hsame 4 _ rfl⟩
   have q4:=(hb7.cell (k*5+4)).trans hv
   have f4:=hb7.frozen (k*5+4)
   have m4:=hm7.cell 4
   simp only [List.getElem?_toArray,List.getElem?_cons_zero,List.getElem?_cons_succ]at m4
   clear hv hsame
   rcases Bool.eq_false_or_eq_true (jmpB q.op)with hj|hj
   ·have HJ:=Lib.hid hj
    rw [hj]
    clear hj
    go_wp2_with fail
    refine (do_3 q.k z hz0 hz1 _).mono ?_
    rintro e w2 ⟨rfl,hb2⟩
    have hb8:=hb7.below hb2 hb7.lt
    have hB8:=step_below hB7 hb2
    have q4':=keep_cell hb2 hb7.lt q4
    have f4':=hb8.frozen (k*5+4)
    clear q4 f4 m4 hm7
    go_wp2
    go_roundw
    case rel=>
     refine ⟨k+1,by omega,by go_num,_,hb8.set_ (k*5+4) _,by simp [hs7],fun i hi=>?_,hB8.setCell (Nat.le_refl _) _⟩
     by_cases hik:i=k
     ·subst hik
      rw [HQ.out]
      exact HH.out.1.moved_yes HJ.out
     ·exact (HH.out.2 i (by omega)).set_other hik 4 (by decide) _
    case measure=>simp [intOf];omega
   ·have HJ:=Lib.hid hj
    rw [hj]
    clear hj
    go_wp2
    go_roundw
    case rel=>
     refine ⟨k+1,by omega,by go_num,_,hb7,hs7,fun i hi=>?_,hB7⟩
     by_cases hik:i=k
     ·subst hik
      rw [HQ.out]
      exact HH.out.1.moved_no HJ.out
     ·exact HH.out.2 i (by omega)
    case measure=>simp [intOf];omega
  ·obtain rfl:k=len:=by omega
   go_wp2
   go_ret
   exact ⟨cs,rfl,hblk,HC.out,HD.out,hB⟩
end Go.Proofs.YtmhfpjnkjlhbpaaGreatDoor
