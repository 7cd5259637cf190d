/- asm.Builder: At (printed by gen/bld.py). asm.Builder: Set, Alu, Ask, Cas; parts of codes (printed by gen/bldf.py). -/
import Derived.Test.YtmhfpjnkjlhbpaaGreatDoorQi08
namespace Go.Proofs.YtmhfpjnkjlhbpaaGreatDoor
open Go.ChangeShapes Go.WideShapes Go.ChangeAt Go.RowKit Go.Deep
set_option linter.unusedVariables false
set_option maxRecDepth 100000
set_option linter.unusedSimpArgs false
open List renaming getElem_toArray->zA,getElem_cons_zero->zB,getElem_cons_succ->zC,setIfInBounds_toArray->zD,set_cons_zero->zE,set_cons_succ->zF
def Nm (s:List UInt8):Bool:=decide (1<=s.length)&&decide (s.length<=20)&&s.all fun x=>decide (97<=x.toNat)&&decide (x.toNat<=122)
theorem bname_any (s:List UInt8) (hs:Nm s=true) (w:World):Calls Tryz.prog 138 #[str s] w fun e w'=>e= .returned (.bool true)/\Below w.heap.size w w':=by
 simp only [Nm,Bool.and_eq_true,decide_eq_true_eq,List.all_eq_true]at hs
 obtain ⟨⟨h1,h2⟩,h3⟩:=hs
 refine (bname_at ⟨s.toArray⟩ w ?_ (by show s.toArray.size<=20;simpa using h2) ?_).mono ?_
 ·rw [Lib.toList_data]
  intro e
  have e:s=[]:=by simpa using e
  rw [e]at h1
  exact absurd h1 (by decide)
 ·intro i hi
  have hi':i<s.length:=by have :i<s.toArray.size:=hi;simpa using this
  have :(⟨s.toArray⟩:ByteArray)[i]'hi=s[i]'hi':=by show s.toArray[i]'(by simpa using hi')=_;simp
  rw [this]
  exact h3 _ (List.getElem_mem _)
 ·rintro e w' ⟨he,rfl⟩
  exact ⟨he,(Below.refl w.heap.size w).alloc (Nat.le_refl _) _⟩
theorem BParts.looks {N0:Nat} {W:World} {bb mb:Nat} {b:BB} {vc vl:Value} (h:BParts N0 W bb b vc vl (some mb)): ∃DW:DataW Unit,W.ownsMap Tryz.prog 9 (plainElem Tryz.prog 3) mb b.places.length DW/\(∀s,Maps.has DW (.string s)=(b.places.lookup s).isSome)/\(∀s v,b.places.lookup s=some v-> ∀z,DW.atKey (.string s) z= .lit (.int .i64 (v:Int))):=by
 obtain ⟨_,DW,h1,h2,h3⟩:=h.places
 exact ⟨DW,h1,h2,h3⟩
theorem zero_intB (w:World):(zeroValue 3).run Tryz.prog w= .ok (.int .i64 0) w:=by kernel_rfl
theorem nilB (w:World) (r:Option Nat):(binOp .eql 127 (.map r) (.map none)).run Tryz.prog w= .ok (.bool r.isNone) w:=run_eql_map_nil w _ _ _ r Tryz.underlying127
set_option maxHeartbeats 4000000 in
theorem bat_any (N0 bb:Nat) (b:BB) (s:List UInt8) (hs:Nm s=true) (hf:b.places.lookup s=none) (hl:b.places.length<=1000) (hn:b.code.length<=1000) (W:World) (h:BI N0 W bb b):
 Calls Tryz.prog 99 #[.pointer (some ⟨bb,0,none⟩),str s] W fun e W'=>(∃u,e= .returned u)/\BI N0 W' bb {b with places:=(s,b.code.length)::b.places}/\BelF N0 W W':=by
 obtain ⟨vc,vl,mo,hP⟩:=h
 have hkey:keyOf Tryz.prog 9 (str s)=some (.string s):=key_str (by
  simp only [Nm,Bool.and_eq_true,decide_eq_true_eq]at hs
  unfold maxLen;omega)
 have HNm:=Lib.hid hs
 have HF:=Lib.hid (And.intro hf (And.intro hl hn))
 clear hs hf hl hn
 have hun:=Lib.hid (Tryz.underlying127)
 rcases mo with _|mb
 case' none=>
  have HP1:=Lib.hid hP.addMap
  have q1:=(hP.blk.cell 1).trans rfl
  have qa:=((hP.blk.alloc (.map #[] 0)).cell 1).trans rfl
  have fa:=(hP.blk.alloc (.map #[] 0)).frozen 1
  have qn:=nilB W none
  have qm:=run_makeMap (P:=Tryz.prog) 127 W
  clear hP
  go_enter Tryz.func99,Tryz.ntmps99
  go_wp2_with fail
  generalize (W.alloc (.map #[] 0)).setCell ⟨bb,1,none⟩ (.map (some W.heap.size))=W1 at HP1⊢
  generalize W.heap.size=mb at HP1⊢
  clear q1 qa fa qn qm
 case' some=>
  obtain ⟨W1,e1,h1P⟩: ∃W1,W1=W/\(BParts N0 W1 bb b vc vl (some mb)/\BelF N0 W W1):=⟨W,rfl,And.intro hP (BelF.refl N0 W)⟩
  have HP1:=Lib.hid h1P
  clear h1P
  have q1:=(hP.blk.cell 1).trans rfl
  have qn:=nilB W (some mb)
  clear hP
  go_enter Tryz.func99,Tryz.ntmps99
  go_wp2_with fail
  rw [<-e1]
  clear q1 qn e1
 all_goals
  obtain ⟨DW,hm1,hm2,hm3⟩:=HP1.out.1.looks
  obtain ⟨v,ps,hlk,hv⟩:=hm1.look_ok key_law hun.out (zero_intB W1) (plainElem_int Tryz.underlying3 (show (Lit.int .i64 0).wf=true from by decide)) hkey
  obtain ⟨c,rfl,_,_⟩:=plainElem_int_inv Tryz.underlying3 hv
  rw [hm2 s,show (b.places.lookup s).isSome=false from by rw [HF.out.1];rfl]at hlk
  have cN:=bname_any s HNm.out W1
  clear hm1 hm2 hm3 hv
  rw [hlk]
  go_wp2_with fail
  with_reducible refine cN.mono ?_
  rintro e W2 ⟨rfl,hB2⟩
  clear cN hlk
  have HP2:=Lib.hid (And.intro (HP1.out.1.below hB2) (HP1.out.2.trans (BelF.of hB2 HP1.out.1.lt)))
  go_wp2
  refine startG (fun W'=>W'=W2.drew) 10 (by kernel_rfl) ?_
  have hq:=HP2.out.1.below (below_drewB W2)
  obtain ⟨DX,hx1,hx2,hx3⟩:=hq.looks
  obtain ⟨W4,hup,hox,hgx⟩:=hx1.update key_law hun.out (show b.places.length<maxLen from by have :=HF.out.2.1;unfold maxLen;omega) hkey (plainElem_int (H:=Unit) Tryz.underlying3 (a:=(b.code.length:Int)) (by have :=HF.out.2.2;exact Go.WalkArith.wf_i64 (by omega)))
  have HQ:=Lib.hid (hq.addPlace hgx (PlI.put (hq.mapNe rfl).2.2.2.2 hx1.isMap hx2 hx3 s b.code.length hox))
  have HD:=Lib.hid (HP2.out.2.trans (BelF.of (below_drewB W2) HP2.out.1.lt))
  obtain ⟨AC,capc,rfl,_,_⟩:=own_cap hq.code
  have HB:=Lib.hid hq.blk
  clear hx1 hx2 hx3 hq hox hgx
  generalize W2.drew=W3 at HB HQ HD hup⊢
  generalize b.code.length=m at HB hup⊢
  refine takeA (i:=0) (v:= .pointer (some ⟨bb,0,none⟩)) rfl rfl ?_
  simp only [Act.put,zA,zB,zC,zD,zE,zF]
  refine takeA (i:=1) (v:= .pointer (some ⟨bb,0,none⟩)) rfl rfl ?_
  simp only [Act.put,zA,zB,zC,zD,zE,zF]
  refine takeA (i:=2) (v:= .pointer (some ⟨bb,1,none⟩)) rfl rfl ?_
  simp only [Act.put,zA,zB,zC,zD,zE,zF]
  refine takeB (i:=3) (v:= .map (some mb)) rfl (Or.inl ⟨by rfl,fun W hW=>by subst hW;have q0:=(HB.out.cell 1).trans rfl;go_simp⟩) rfl ?_
  simp only [Act.put,zA,zB,zC,zD,zE,zF]
  refine takeA (i:=4) (v:=str s) rfl rfl ?_
  simp only [Act.put,zA,zB,zC,zD,zE,zF]
  refine takeA (i:=5) (v:= .pointer (some ⟨bb,0,none⟩)) rfl rfl ?_
  simp only [Act.put,zA,zB,zC,zD,zE,zF]
  refine takeA (i:=6) (v:= .pointer (some ⟨bb,0,none⟩)) rfl rfl ?_
  simp only [Act.put,zA,zB,zC,zD,zE,zF]
  refine takeA (i:=7) (v:= .pointer (some ⟨bb,0,none⟩)) rfl rfl ?_
  simp only [Act.put,zA,zB,zC,zD,zE,zF]
  refine takeB (i:=8) (v:= .slice AC m capc) rfl (Or.inl ⟨by rfl,fun W hW=>by subst hW;have q0:=(HB.out.cell 0).trans rfl;go_simp⟩) rfl ?_
  simp only [Act.put,zA,zB,zC,zD,zE,zF]
  refine takeA (i:=9) (v:= .int .i64 (m:Int)) rfl rfl ?_
  simp only [Act.put,zA,zB,zC,zD,zE,zF]
  refine lastG (by kernel_rfl) rfl (by kernel_rfl) (fun K hK=>?_)
  go_simp
  refine hK.out _ _ ?_
  clear hK K
  go_wp2
  go_end0
  exact ⟨⟨_,rfl⟩,HQ.out.1,HD.out.trans HQ.out.2⟩
def BB.ins (b:BB) (x:Ins):BB:={b with code:=b.code++[x]}
def BB.at (b:BB) (s:List UInt8):BB:={b with places:=(s,b.code.length)::b.places}
def BB.go (b:BB) (op a:Int) (s:List UInt8):BB:={b with code:=b.code++[⟨op,a,0,0,0⟩],links:=b.links++[(b.code.length,s)]}
def BB.Room (b:BB) (n:Nat):Prop:=b.code.length+n<=1000/\b.links.length+n<=1000/\b.places.length+n<=1000
theorem BB.Room.mono {b:BB} {n m:Nat} (h:b.Room n) (hm:m<=n):b.Room m:=⟨by have :=h.1;omega,by have :=h.2.1;omega,by have :=h.2.2;omega⟩
theorem BB.Room.ins {b:BB} {n:Nat} (h:b.Room (n+1)) (x:Ins):(b.ins x).Room n:=⟨by have :=h.1;simp [BB.ins];omega,by have :=h.2.1;simp [BB.ins];omega,by have :=h.2.2;simp [BB.ins];omega⟩
theorem BB.Room.at {b:BB} {n:Nat} (h:b.Room (n+1)) (s:List UInt8):(b.at s).Room n:=⟨by have :=h.1;simp [BB.at];omega,by have :=h.2.1;simp [BB.at];omega,by have :=h.2.2;simp [BB.at];omega⟩
theorem BB.Room.go {b:BB} {n:Nat} (h:b.Room (n+1)) (op a:Int) (s:List UInt8):(b.go op a s).Room n:=⟨by have :=h.1;simp [BB.go];omega,by have :=h.2.1;simp [BB.go];omega,by have :=h.2.2;simp [BB.go];omega⟩
def Bls (f:FuncId) (args:Array Value) (N0 bb:Nat) (b b':BB) (W:World):Prop:=Calls Tryz.prog f args W fun e W'=>(∃u,e= .returned u)/\BI N0 W' bb b'/\BelF N0 W W'
theorem BI.rins {N0 bb n:Nat} {b:BB} {x:Ins} {W:World} (h:BI N0 W bb (b.ins x)) (hr:b.Room (n+1)):(b.ins x).Room n:=hr.ins x
theorem BI.rat {N0 bb n:Nat} {b:BB} {s:List UInt8} {W:World} (h:BI N0 W bb (b.at s)) (hr:b.Room (n+1)):(b.at s).Room n:=hr.at s
theorem BI.rgo {N0 bb n:Nat} {b:BB} {op a:Int} {s:List UInt8} {W:World} (h:BI N0 W bb (b.go op a s)) (hr:b.Room (n+1)):(b.go op a s).Room n:=hr.go op a s
theorem Bls.step {f:FuncId} {args:Array Value} {N0 bb:Nat} {b b':BB} {W:World} {R:Ending->World->Prop} (h:Bls f args N0 bb b b' W) (k: ∀e W',((∃u,e= .returned u)/\BI N0 W' bb b'/\BelF N0 W W')->R e W'):Calls Tryz.prog f args W R:=Calls.mono h fun e W'=>k e W'
theorem b_at {N0 bb:Nat} {b:BB} {n:Nat} (s:List UInt8) (hs:Nm s=true) {W:World} (h:BI N0 W bb b) (hr:b.Room (n+1)) (hf:b.places.lookup s=none):Bls 99 #[.pointer (some ⟨bb,0,none⟩),str s] N0 bb b (b.at s) W:=bat_any N0 bb b s hs hf (by have :=hr.2.2;omega) (by have :=hr.1;omega) W h
theorem b_go {N0 bb:Nat} {b:BB} {n:Nat} (op a:Int) (s:List UInt8) {W:World} (h:BI N0 W bb b) (hr:b.Room (n+1)):Bls 97 #[.pointer (some ⟨bb,0,none⟩),.int .i64 op,.int .i64 a,str s] N0 bb b (b.go op a s) W:=bgo_any N0 bb b op a s W h (by have :=hr.1;omega) (by have :=hr.2.1;omega)
theorem b_do {N0 bb:Nat} {b:BB} {n:Nat} (op a x c k:Int) {W:World} (h:BI N0 W bb b) (hr:b.Room (n+1)):Bls 102 #[.pointer (some ⟨bb,0,none⟩),.agg #[.int .i64 op,.int .i64 a,.int .i64 x,.int .i64 c,.int .u32 k]] N0 bb b (b.ins ⟨op,a,x,c,k⟩) W:=bdo_any N0 bb b ⟨op,a,x,c,k⟩ W h (by have :=hr.1;omega)
set_option maxHeartbeats 1000000 in
theorem b_set {N0 bb:Nat} {b:BB} {n:Nat} (a k:Int) {W:World} (h:BI N0 W bb b) (hr:b.Room (n+1)):Bls 94 #[.pointer (some ⟨bb,0,none⟩),.int .i64 a,.int .u32 k] N0 bb b (b.ins ⟨1,a,0,0,k⟩) W:=by
 have hc:=b_do (n:=n) 1 a 0 0 k h hr
 unfold Bls at hc⊢
 go_enter Tryz.func94,Tryz.ntmps94
 go_wp2_with fail
 with_reducible refine hc.mono ?_
 rintro e W1 ⟨⟨u,rfl⟩,h1,b1⟩
 clear hc
 go_wp2
 go_end0
 exact ⟨⟨_,rfl⟩,h1,b1⟩
set_option maxHeartbeats 1000000 in
theorem b_alu {N0 bb:Nat} {b:BB} {n:Nat} (op a x y:Int) {W:World} (h:BI N0 W bb b) (hr:b.Room (n+1)):Bls 101 #[.pointer (some ⟨bb,0,none⟩),.int .i64 op,.int .i64 a,.int .i64 x,.int .i64 y] N0 bb b (b.ins ⟨op,a,x,y,0⟩) W:=by
 have hc:=b_do (n:=n) op a x y 0 h hr
 unfold Bls at hc⊢
 go_enter Tryz.func101,Tryz.ntmps101
 go_wp2_with fail
 with_reducible refine hc.mono ?_
 rintro e W1 ⟨⟨u,rfl⟩,h1,b1⟩
 clear hc
 go_wp2
 go_end0
 exact ⟨⟨_,rfl⟩,h1,b1⟩
set_option maxHeartbeats 1000000 in
theorem b_ask {N0 bb:Nat} {b:BB} {n:Nat} (op a k:Int) {W:World} (h:BI N0 W bb b) (hr:b.Room (n+1)):Bls 87 #[.pointer (some ⟨bb,0,none⟩),.int .i64 op,.int .i64 a,.int .u32 k] N0 bb b (b.ins ⟨op,a,8,0,k⟩) W:=by
 have hc:=b_do (n:=n) op a 8 0 k h hr
 unfold Bls at hc⊢
 go_enter Tryz.func87,Tryz.ntmps87
 go_wp2_with fail
 with_reducible refine hc.mono ?_
 rintro e W1 ⟨⟨u,rfl⟩,h1,b1⟩
 clear hc
 go_wp2
 go_end0
 exact ⟨⟨_,rfl⟩,h1,b1⟩
def n_end:List UInt8:=[101,110,100]
def n_look:List UInt8:=[108,111,111,107]
def n_done:List UInt8:=[100,111,110,101]
theorem str_end:Value.string ⟨#[101,110,100]⟩=str n_end:=rfl
theorem str_look:Value.string ⟨#[108,111,111,107]⟩=str n_look:=rfl
theorem str_done:Value.string ⟨#[100,111,110,101]⟩=str n_done:=rfl
theorem nm_end:Nm n_end=true:=by decide
theorem nm_look:Nm n_look=true:=by decide
theorem nm_done:Nm n_done=true:=by decide
def BB.e:BB:=⟨[],[],[]⟩
def BB.close (b:BB):BB:=(b.ins ⟨1,7,0,0,0⟩).at n_end
def BB.zero (b:BB) (a:Int):BB:=(b.ins ⟨1,4,0,0,0⟩).ins ⟨17,4,8,0,a⟩
theorem BB.Room.close {b:BB} {n:Nat} (h:b.Room (n+2)):b.close.Room n:=BB.Room.at (BB.Room.ins h _) _
theorem BB.Room.zero {b:BB} {n:Nat} (h:b.Room (n+2)) (a:Int):(b.zero a).Room n:=BB.Room.ins (BB.Room.ins h _) _
set_option maxHeartbeats 2000000 in
theorem b_close {N0 bb:Nat} {b:BB} {n:Nat} {W:World} (h:BI N0 W bb b) (hr:b.Room (n+2)) (hf:b.places.lookup n_end=none):Bls 89 #[.pointer (some ⟨bb,0,none⟩)] N0 bb b b.close W:=by
 unfold Bls
 go_enter Tryz.func89,Tryz.ntmps89
 go_wp2_with fail
 refine Bls.step (b_set (n:=n+1) _ _ h hr) ?_
 rintro _ W1 ⟨⟨u0,rfl⟩,h1,b1⟩
 have r1:=BI.rins (n:=n+1) h1 hr
 go_wp2_with fail
 try rw [str_end]
 refine Bls.step (b_at (n:=n+0) n_end nm_end h1 r1 hf) ?_
 rintro _ W2 ⟨⟨u1,rfl⟩,h2,b2⟩
 have r2:=BI.rat (n:=n+0) h2 r1
 go_wp2
 go_end0
 exact ⟨⟨_,rfl⟩,h2,b1.trans (b2)⟩
set_option maxHeartbeats 2000000 in
theorem b_zero {N0 bb:Nat} {b:BB} {n:Nat} (a:Int) {W:World} (h:BI N0 W bb b) (hr:b.Room (n+2)):Bls 86 #[.pointer (some ⟨bb,0,none⟩),.int .u32 a] N0 bb b (b.zero a) W:=by
 unfold Bls
 go_enter Tryz.func86,Tryz.ntmps86
 go_wp2_with fail
 refine Bls.step (b_set (n:=n+1) _ _ h hr) ?_
 rintro _ W1 ⟨⟨u0,rfl⟩,h1,b1⟩
 have r1:=BI.rins (n:=n+1) h1 hr
 go_wp2_with fail
 refine Bls.step (b_ask (n:=n+0) _ _ _ h1 r1) ?_
 rintro _ W2 ⟨⟨u1,rfl⟩,h2,b2⟩
 have r2:=BI.rins (n:=n+0) h2 r1
 go_wp2
 go_end0
 exact ⟨⟨_,rfl⟩,h2,b1.trans (b2)⟩
end Go.Proofs.YtmhfpjnkjlhbpaaGreatDoor
