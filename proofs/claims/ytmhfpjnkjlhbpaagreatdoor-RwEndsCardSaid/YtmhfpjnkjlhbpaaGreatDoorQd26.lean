/- asm.Builder: Set, Alu, Ask, Cas; parts of codes (printed by gen/bldf.py). isa.Moved (XIsaMoved, on XIsaChk). asm.Builder: Code (printed by gen/bldc.py). The state in which a machine with buffers begins is right. Events without bounds (XEv): as values; a thread's events with their places. -/
import Derived.Test.YtmhfpjnkjlhbpaaGreatDoorQd25
import Derived.Test.YtmhfpjnkjlhbpaaGreatDoorQd03
import Derived.Test.YtmhfpjnkjlhbpaaGreatDoorQd10
import Derived.Test.YtmhfpjnkjlhbpaaGreatDoorQd17
import Derived.BigQuiet
import Derived.Test.YtmhfpjnkjlhbpaaGreatDoorQd21
import Derived.Test.YtmhfpjnkjlhbpaaGreatDoorQd02
namespace Go.Proofs.YtmhfpjnkjlhbpaaGreatDoor
open Go.ChangeShapes Go.WideShapes Go.ChangeAt Go.RowKit Go.Deep
set_option linter.unusedVariables false
set_option maxRecDepth 100000
set_option linter.unusedSimpArgs false
open List renaming getElem_toArray->zA,getElem_cons_zero->zB,getElem_cons_succ->zC,setIfInBounds_toArray->zD,set_cons_zero->zE,set_cons_succ->zF
def BB.ins (b:BB) (x:Ins):BB:={b with code:=b.code++[x]}
def BB.at (b:BB) (s:List UInt8):BB:={b with places:=(s,b.code.length)::b.places}
def BB.go (b:BB) (op a:Int) (s:List UInt8):BB:={b with code:=b.code++[⟨op,a,0,0,0⟩],links:=b.links++[(b.code.length,s)]}
def BB.Room (b:BB) (n:Nat):Prop:=b.code.length+n<=1000/\b.links.length+n<=1000/\b.places.length+n<=1000
theorem BB.Room.mono {b:BB} {n m:Nat} (h:b.Room n) (hm:m<=n):b.Room m:=⟨by have :=h.1;omega,by have :=h.2.1;omega,by have :=h.2.2;omega⟩
theorem BB.Room.ins {b:BB} {n:Nat} (h:b.Room (n+1)) (x:Ins):(b.ins x).Room n:=⟨by have :=h.1;simp [BB.ins];omega,by have :=h.2.1;simp [BB.ins];omega,by have :=h.2.2;simp [BB.ins];omega⟩
theorem BB.Room.at {b:BB} {n:Nat} (h:b.Room (n+1)) (s:List UInt8):(b.at s).Room n:=⟨by have :=h.1;simp [BB.at];omega,by have :=h.2.1;simp [BB.at];omega,by have :=h.2.2;simp [BB.at];omega⟩
theorem BB.Room.go {b:BB} {n:Nat} (h:b.Room (n+1)) (op a:Int) (s:List UInt8):(b.go op a s).Room n:=⟨by have :=h.1;simp [BB.go];omega,by have :=h.2.1;simp [BB.go];omega,by have :=h.2.2;simp [BB.go];omega⟩
def Bls (f:FuncId) (args:Array Value) (N0 bb:Nat) (b b':BB) (W:World):Prop:=Calls Tryz.prog f args W fun e W'=>(∃u,e= .returned u)/\BI N0 W' bb b'/\BelF N0 W W'
theorem BI.rins {N0 bb n:Nat} {b:BB} {x:Ins} {W:World} (h:BI N0 W bb (b.ins x)) (hr:b.Room (n+1)):(b.ins x).Room n:=hr.ins x
theorem BI.rat {N0 bb n:Nat} {b:BB} {s:List UInt8} {W:World} (h:BI N0 W bb (b.at s)) (hr:b.Room (n+1)):(b.at s).Room n:=hr.at s
theorem BI.rgo {N0 bb n:Nat} {b:BB} {op a:Int} {s:List UInt8} {W:World} (h:BI N0 W bb (b.go op a s)) (hr:b.Room (n+1)):(b.go op a s).Room n:=hr.go op a s
theorem Bls.step {f:FuncId} {args:Array Value} {N0 bb:Nat} {b b':BB} {W:World} {R:Ending->World->Prop} (h:Bls f args N0 bb b b' W) (k: ∀e W',((∃u,e= .returned u)/\BI N0 W' bb b'/\BelF N0 W W')->R e W'):Calls Tryz.prog f args W R:=Calls.mono h fun e W'=>k e W'
theorem b_at {N0 bb:Nat} {b:BB} {n:Nat} (s:List UInt8) (hs:Nm s=true) {W:World} (h:BI N0 W bb b) (hr:b.Room (n+1)) (hf:b.places.lookup s=none):Bls 99 #[.pointer (some ⟨bb,0,none⟩),str s] N0 bb b (b.at s) W:=bat_any N0 bb b s hs hf (by have :=hr.2.2;omega) (by have :=hr.1;omega) W h
theorem b_go {N0 bb:Nat} {b:BB} {n:Nat} (op a:Int) (s:List UInt8) {W:World} (h:BI N0 W bb b) (hr:b.Room (n+1)):Bls 97 #[.pointer (some ⟨bb,0,none⟩),.int .i64 op,.int .i64 a,str s] N0 bb b (b.go op a s) W:=bgo_any N0 bb b op a s W h (by have :=hr.1;omega) (by have :=hr.2.1;omega)
theorem b_do {N0 bb:Nat} {b:BB} {n:Nat} (op a x c k:Int) {W:World} (h:BI N0 W bb b) (hr:b.Room (n+1)):Bls 102 #[.pointer (some ⟨bb,0,none⟩),.agg #[.int .i64 op,.int .i64 a,.int .i64 x,.int .i64 c,.int .u32 k]] N0 bb b (b.ins ⟨op,a,x,c,k⟩) W:=bdo_any N0 bb b ⟨op,a,x,c,k⟩ W h (by have :=hr.1;omega)
set_option maxHeartbeats 1000000 in
theorem b_set {N0 bb:Nat} {b:BB} {n:Nat} (a k:Int) {W:World} (h:BI N0 W bb b) (hr:b.Room (n+1)):Bls 94 #[.pointer (some ⟨bb,0,none⟩),.int .i64 a,.int .u32 k] N0 bb b (b.ins ⟨1,a,0,0,k⟩) W:=by
 have hc:=b_do (n:=n) 1 a 0 0 k h hr
 unfold Bls at hc⊢
 go_enter Tryz.func94,Tryz.ntmps94
 go_wp2_with fail
 with_reducible refine hc.mono ?_
 rintro e W1 ⟨⟨u,rfl⟩,h1,b1⟩
 clear hc
 go_wp2
 go_end0
 exact ⟨⟨_,rfl⟩,h1,b1⟩
set_option maxHeartbeats 1000000 in
theorem b_alu {N0 bb:Nat} {b:BB} {n:Nat} (op a x y:Int) {W:World} (h:BI N0 W bb b) (hr:b.Room (n+1)):Bls 101 #[.pointer (some ⟨bb,0,none⟩),.int .i64 op,.int .i64 a,.int .i64 x,.int .i64 y] N0 bb b (b.ins ⟨op,a,x,y,0⟩) W:=by
 have hc:=b_do (n:=n) op a x y 0 h hr
 unfold Bls at hc⊢
 go_enter Tryz.func101,Tryz.ntmps101
 go_wp2_with fail
 with_reducible refine hc.mono ?_
 rintro e W1 ⟨⟨u,rfl⟩,h1,b1⟩
 clear hc
 go_wp2
 go_end0
 exact ⟨⟨_,rfl⟩,h1,b1⟩
set_option maxHeartbeats 1000000 in
theorem b_ask {N0 bb:Nat} {b:BB} {n:Nat} (op a k:Int) {W:World} (h:BI N0 W bb b) (hr:b.Room (n+1)):Bls 87 #[.pointer (some ⟨bb,0,none⟩),.int .i64 op,.int .i64 a,.int .u32 k] N0 bb b (b.ins ⟨op,a,8,0,k⟩) W:=by
 have hc:=b_do (n:=n) op a 8 0 k h hr
 unfold Bls at hc⊢
 go_enter Tryz.func87,Tryz.ntmps87
 go_wp2_with fail
 with_reducible refine hc.mono ?_
 rintro e W1 ⟨⟨u,rfl⟩,h1,b1⟩
 clear hc
 go_wp2
 go_end0
 exact ⟨⟨_,rfl⟩,h1,b1⟩
set_option maxHeartbeats 1000000 in
theorem b_cas {N0 bb:Nat} {b:BB} {n:Nat} (a c k:Int) {W:World} (h:BI N0 W bb b) (hr:b.Room (n+1)):Bls 96 #[.pointer (some ⟨bb,0,none⟩),.int .i64 a,.int .i64 c,.int .u32 k] N0 bb b (b.ins ⟨21,a,8,c,k⟩) W:=by
 have hc:=b_do (n:=n) 21 a 8 c k h hr
 unfold Bls at hc⊢
 go_enter Tryz.func96,Tryz.ntmps96
 go_wp2_with fail
 with_reducible refine hc.mono ?_
 rintro e W1 ⟨⟨u,rfl⟩,h1,b1⟩
 clear hc
 go_wp2
 go_end0
 exact ⟨⟨_,rfl⟩,h1,b1⟩
def n_free:List UInt8:=[102,114,101,101]
def n_end:List UInt8:=[101,110,100]
def n_mine:List UInt8:=[109,105,110,101]
def n_again:List UInt8:=[97,103,97,105,110]
def n_done:List UInt8:=[100,111,110,101]
def n_wake:List UInt8:=[119,97,107,101]
def n_reader:List UInt8:=[114,101,97,100,101,114]
def n_sleep:List UInt8:=[115,108,101,101,112]
def n_got:List UInt8:=[103,111,116]
theorem str_free:Value.string ⟨#[102,114,101,101]⟩=str n_free:=rfl
theorem str_end:Value.string ⟨#[101,110,100]⟩=str n_end:=rfl
theorem str_mine:Value.string ⟨#[109,105,110,101]⟩=str n_mine:=rfl
theorem str_again:Value.string ⟨#[97,103,97,105,110]⟩=str n_again:=rfl
theorem str_done:Value.string ⟨#[100,111,110,101]⟩=str n_done:=rfl
theorem str_wake:Value.string ⟨#[119,97,107,101]⟩=str n_wake:=rfl
theorem str_reader:Value.string ⟨#[114,101,97,100,101,114]⟩=str n_reader:=rfl
theorem str_sleep:Value.string ⟨#[115,108,101,101,112]⟩=str n_sleep:=rfl
theorem str_got:Value.string ⟨#[103,111,116]⟩=str n_got:=rfl
theorem nm_free:Nm n_free=true:=by decide
theorem nm_end:Nm n_end=true:=by decide
theorem nm_mine:Nm n_mine=true:=by decide
theorem nm_again:Nm n_again=true:=by decide
theorem nm_done:Nm n_done=true:=by decide
theorem nm_wake:Nm n_wake=true:=by decide
theorem nm_reader:Nm n_reader=true:=by decide
theorem nm_sleep:Nm n_sleep=true:=by decide
theorem nm_got:Nm n_got=true:=by decide
def BB.e:BB:=⟨[],[],[]⟩
def BB.close (b:BB):BB:=(b.ins ⟨1,7,0,0,0⟩).at n_end
theorem BB.Room.close {b:BB} {n:Nat} (h:b.Room (n+2)):b.close.Room n:=BB.Room.at (BB.Room.ins h _) _
set_option maxHeartbeats 2000000 in
theorem b_close {N0 bb:Nat} {b:BB} {n:Nat} {W:World} (h:BI N0 W bb b) (hr:b.Room (n+2)) (hf:b.places.lookup n_end=none):Bls 89 #[.pointer (some ⟨bb,0,none⟩)] N0 bb b b.close W:=by
 unfold Bls
 go_enter Tryz.func89,Tryz.ntmps89
 go_wp2_with fail
 refine Bls.step (b_set (n:=n+1) _ _ h hr) ?_
 rintro _ W1 ⟨⟨u0,rfl⟩,h1,b1⟩
 have r1:=BI.rins (n:=n+1) h1 hr
 go_wp2_with fail
 try rw [str_end]
 refine Bls.step (b_at (n:=n+0) n_end nm_end h1 r1 hf) ?_
 rintro _ W2 ⟨⟨u1,rfl⟩,h2,b2⟩
 have r2:=BI.rat (n:=n+0) h2 r1
 go_wp2
 go_end0
 exact ⟨⟨_,rfl⟩,h2,b1.trans (b2)⟩
end Go.Proofs.YtmhfpjnkjlhbpaaGreatDoor
namespace Go.Proofs.YtmhfpjnkjlhbpaaGreatDoor
open Go.ChangeShapes Go.WideShapes Go.ChangeAt Go.RowKit Go.Deep
set_option linter.unusedVariables false
set_option maxRecDepth 100000
open List renaming getElem_toArray->zA,getElem_cons_zero->zB,getElem_cons_succ->zC,setIfInBounds_toArray->zD,set_cons_zero->zE,set_cons_succ->zF
def movedI (z:Int) (i:Ins):Ins:=if jmpB i.op=true then {i with k:=aluF 3 i.k z}else i
def setIns (cs:Array Value) (k:Nat) (i:Ins):Array Value:=
 ((((cs.setIfInBounds (k*5) (.int .i64 i.op)).setIfInBounds (k*5+1) (.int .i64 i.a)).setIfInBounds (k*5+2) (.int .i64 i.b)).setIfInBounds (k*5+3) (.int .i64 i.c)).setIfInBounds (k*5+4) (.int .u32 i.k)
def InsAt (cs:Array Value) (i:Nat) (q:Ins):Prop:= ∀j u,q.cells[j]?=some u->cs[i*5+j]?=some u
theorem setIns_size (cs:Array Value) (k:Nat) (q:Ins):(setIns cs k q).size=cs.size:=by unfold setIns;simp
theorem setIns_same {cs:Array Value} {k:Nat} (q:Ins) (h:k*5+5<=cs.size):InsAt (setIns cs k q) k q:=by
 intro j u hu
 unfold setIns
 unfold Ins.cells at hu
 rcases (show j=0∨j=1∨j=2∨j=3∨j=4∨5<=j by omega)with rfl|rfl|rfl|rfl|rfl|h5
 ·rw [<-Option.some.inj hu];simp [Array.getElem?_setIfInBounds];omega
 ·rw [<-Option.some.inj hu];simp [Array.getElem?_setIfInBounds];omega
 ·rw [<-Option.some.inj hu];simp [Array.getElem?_setIfInBounds];omega
 ·rw [<-Option.some.inj hu];simp [Array.getElem?_setIfInBounds];omega
 ·rw [<-Option.some.inj hu];simp [Array.getElem?_setIfInBounds];omega
 ·rw [List.getElem?_eq_none (by simpa using h5)]at hu
  cases hu
theorem InsAt.set_other {cs:Array Value} {i k:Nat} {q:Ins} (h:InsAt cs i q) (hne:i≠k) (j:Nat) (hj:j<5) (v:Value):InsAt (cs.setIfInBounds (k*5+j) v) i q:=by
 intro j' u hu
 have hj':j'<5:=(List.getElem?_eq_some_iff.1 hu).1
 rw [Array.getElem?_setIfInBounds_ne (by omega)]
 exact h j' u hu
theorem setIns_other {cs:Array Value} {i k:Nat} {q:Ins} (p:Ins) (h:InsAt cs i q) (hne:i≠k):InsAt (setIns cs k p) i q:=by
 unfold setIns
 exact (((((InsAt.set_other h hne 0 (by decide) _).set_other hne 1 (by decide) _).set_other hne 2 (by decide) _).set_other hne 3 (by decide) _).set_other hne 4 (by decide) _)
theorem InsAt.setK {cs:Array Value} {k:Nat} {q:Ins} (h:InsAt cs k q) (z:Int):InsAt (cs.setIfInBounds (k*5+4) (.int .u32 z)) k {q with k:=z}:=by
 intro j u hu
 have hj:j<5:=(List.getElem?_eq_some_iff.1 hu).1
 have hs:k*5+4<cs.size:=by
  have :=h 4 _ rfl
  exact (Array.getElem?_eq_some_iff.1 this).1
 by_cases h4:j=4
 ·subst h4
  rw [Array.getElem?_setIfInBounds_self_of_lt hs]
  exact hu
 ·rw [Array.getElem?_setIfInBounds_ne (by omega)]
  refine h j u ?_
  rcases (show j=0∨j=1∨j=2∨j=3 by omega)with rfl|rfl|rfl|rfl<;>exact hu
theorem InsAt.moved_no {cs:Array Value} {k:Nat} {q:Ins} {z:Int} (h:InsAt cs k q) (hj:jmpB q.op=false):InsAt cs k (movedI z q):=by
 unfold movedI;rw [hj];exact h
theorem InsAt.moved_yes {cs:Array Value} {k:Nat} {q:Ins} {z:Int} (h:InsAt cs k q) (hj:jmpB q.op=true):InsAt (cs.setIfInBounds (k*5+4) (.int .u32 (aluF 3 q.k z))) k (movedI z q):=by
 unfold movedI;rw [hj];exact h.setK _
theorem instr_info:(Tryz.prog.info? 75).map (fun i=>(i.zero,i.size,i.bytes))=some (some (.agg #[.int .i64 0,.int .i64 0,.int .i64 0,.int .i64 0,.int .u32 0]),5,40):=by kernel_rfl
theorem run_make_code (n:Nat) (hn:n<=1000000): ∀w:World,(Instr.makeSlice 50 (.int .i64 (n:Int)) (.int .i64 (n:Int))).run Tryz.prog w=
 .ok (.slice (some ⟨w.heap.size,0,none⟩) n n) (w.alloc (.cells (madeCells #[.int .i64 0,.int .i64 0,.int .i64 0,.int .i64 0,.int .u32 0] (n*5)) 75)):=fun w=>by
 obtain ⟨i,hi,hz,hs,hb⟩:=info_parts instr_info
 have hb2:(i.bytes:Int)*(n:Int)<=281474976710656:=by rw [hb];omega
 have hr:=run_make (P:=Tryz.prog) w 50 75 i _ Tryz.underlying50 hi hz .i64 .i64 n n (by omega) (by omega) hb2 (by omega)
 simp only [Int.toNat_natCast]at hr
 rw [hs]at hr
 exact hr
set_option maxHeartbeats 2000000 in
theorem moved_any (c:Cd) (z:Int) (ho:c.Ok) (hn:c.len<=100000) (hz0:0<=z) (hz1:z<=4294967295) (w:World) (ht:Tab w) (ha:c.At w):
 Calls Tryz.prog 35 #[c.val,.int .i64 z] w fun e w'=> ∃cs:Array Value,e= .returned (.slice (some ⟨w.heap.size,0,none⟩) c.len c.len)/\Blk w' w.heap.size 75 cs/\cs.size=c.len*5/\
  (∀i,i<c.len->InsAt cs i (movedI z (c.F i)))/\Below w.heap.size w w':=by
 obtain ⟨A,len,cap,F⟩:=c
 obtain ⟨_,_,hins⟩:=ho
 unfold Cd.At at ha
 unfold Cd.val
 dsimp only at*
 have hmk:=run_make_code len (by omega)
 have HA:=Lib.hid ha
 have HI:=Lib.hid hins
 clear ha hins
 go_enter Tryz.func35,Tryz.ntmps35
 go_wp2
 clear hmk
 go_loopw [13] (fun v wr=> ∃k:Nat,k<=len/\v= .int .i64 k/\ ∃cs:Array Value,Blk wr w.heap.size 75 cs/\cs.size=len*5/\(∀i,i<k->InsAt cs i (movedI z (F i)))/\Below w.heap.size w wr)
  (fun v _=>len-(intOf v).toNat)
 case atStart=>
  exact ⟨0,Nat.zero_le _,rfl,_,Blk.new _ _ _,by simp [size_madeCells],fun i hi=>absurd hi (by omega),(Below.refl _ _).alloc (Nat.le_refl _) _⟩
 case round=>
  obtain ⟨k,hk,rfl,cs,hblk,hcs,hdone,hB⟩:=hrel
  have HD:=Lib.hid hdone
  have HC:=Lib.hid hcs
  clear hdone
  by_cases hlt:k<len
  ·obtain ⟨b,off,rfl,hbW,hcW⟩:=HA.out.step hB (by omega)
   have hcj:=hcW k hlt
   dsimp only at hcj
   have hiq:=HI.out k hlt
   have hmv:movedI z (F k)=movedI z (F k):=rfl
   have HM:=Lib.hid hmv
   clear hcW hmv
   obtain ⟨q,hq⟩: ∃q,F k=q:=⟨_,rfl⟩
   rw [hq]at hcj hiq
   have k0:wr.cell? ⟨b,off+k*5,none⟩=some (.int .i64 q.op):=hcj 0 _ rfl
   have k1:wr.cell? ⟨b,off+k*5+1,none⟩=some (.int .i64 q.a):=hcj 1 _ rfl
   have k2:wr.cell? ⟨b,off+k*5+2,none⟩=some (.int .i64 q.b):=hcj 2 _ rfl
   have k3:wr.cell? ⟨b,off+k*5+3,none⟩=some (.int .i64 q.c):=hcj 3 _ rfl
   have k4:wr.cell? ⟨b,off+k*5+4,none⟩=some (.int .u32 q.k):=hcj 4 _ rfl
   clear hcj
   have HQ:=Lib.hid hq
   clear hq
   have hex: ∀j,j<5-> ∃v,cs[k*5+j]?=some v:=fun j hj=>⟨_,Array.getElem?_eq_getElem (show k*5+j<cs.size by have :=HC.out;omega)⟩
   obtain ⟨v0,hv0⟩:=hex 0 (by decide)
   obtain ⟨v1,hv1⟩:=hex 1 (by decide)
   obtain ⟨v2,hv2⟩:=hex 2 (by decide)
   obtain ⟨v3,hv3⟩:=hex 3 (by decide)
   obtain ⟨v4,hv4⟩:=hex 4 (by decide)
   clear hex
   rw [Nat.add_zero]at hv0
   have q0:=(hblk.cell (k*5)).trans hv0
   have q1:=(hblk.cell (k*5+1)).trans hv1
   have q2:=(hblk.cell (k*5+2)).trans hv2
   have q3:=(hblk.cell (k*5+3)).trans hv3
   have q4:=(hblk.cell (k*5+4)).trans hv4
   have f0:=hblk.frozen (k*5)
   have f1:=hblk.frozen (k*5+1)
   have f2:=hblk.frozen (k*5+2)
   have f3:=hblk.frozen (k*5+3)
   have f4:=hblk.frozen (k*5+4)
   have hlg:=hblk.lt
   clear hcs hv0 hv1 hv2 hv3 hv4
   have hkl:(k:Int)<(len:Int):=by omega
   go_wp2_with fail
   have hb5:=((((hblk.set_ (k*5) (.int .i64 q.op)).set_ (k*5+1) (.int .i64 q.a)).set_ (k*5+2) (.int .i64 q.b)).set_ (k*5+3) (.int .i64 q.c)).set_ (k*5+4) (.int .u32 q.k)
   have hB5:=((((hB.setCell (p:=⟨w.heap.size,k*5,none⟩) (Nat.le_refl _) (.int .i64 q.op)).setCell (p:=⟨w.heap.size,k*5+1,none⟩) (Nat.le_refl _) (.int .i64 q.a)).setCell (p:=⟨w.heap.size,k*5+2,none⟩) (Nat.le_refl _) (.int .i64 q.b)).setCell (p:=⟨w.heap.size,k*5+3,none⟩) (Nat.le_refl _) (.int .i64 q.c)).setCell (p:=⟨w.heap.size,k*5+4,none⟩) (Nat.le_refl _) (.int .u32 q.k)
   clear q0 q1 q2 q3 q4 f0 f1 f2 f3 f4 k0 k1 k2 k3 k4
   generalize hW5:((((wr.setCell ⟨w.heap.size,k*5,none⟩ (.int .i64 q.op)).setCell ⟨w.heap.size,k*5+1,none⟩ (.int .i64 q.a)).setCell ⟨w.heap.size,k*5+2,none⟩ (.int .i64 q.b)).setCell ⟨w.heap.size,k*5+3,none⟩ (.int .i64 q.c)).setCell ⟨w.heap.size,k*5+4,none⟩ (.int .u32 q.k)=W5 at hb5 hB5⊢
   have hs5:W5.heap.size=wr.heap.size:=by rw [<-hW5];simp [World.setCell]
   clear hW5
   have ht5:=ht.step hB5
   have hm5:=Blk.new W5 75 #[.int .i64 q.op,.int .i64 q.a,.int .i64 q.b,.int .i64 q.c,.int .u32 q.k]
   have hB6:=hB5.alloc hB5.size (Obj.cells #[.int .i64 q.op,.int .i64 q.a,.int .i64 q.b,.int .i64 q.c,.int .u32 q.k] 75)
   have hb6:=hb5.alloc (Obj.cells #[.int .i64 q.op,.int .i64 q.a,.int .i64 q.b,.int .i64 q.c,.int .u32 q.k] 75)
   have ht6:=ht.step hB6
   refine (jumps_any q.op _ ht6).mono ?_
   rintro e w1 ⟨rfl,hb1⟩
   have hB7:=step_below hB6 hb1
   have hm7:=hm5.below hb1 hm5.lt
   have hb7:=hb6.below hb1 hb6.lt
   rw [hs5]at hm7
   clear hs5
   have hs7:(setIns cs k q).size=len*5:=by rw [setIns_size];exact HC.out
   have hsame:InsAt (setIns cs k q) k q:=setIns_same q (by rw [HC.out];omega)
   have hoth: ∀i,i<k->InsAt (setIns cs k q) i (movedI z (F i)):=fun i hi=>setIns_other q (HD.out i hi) (by omega)
   have HH:=Lib.hid (And.intro hsame hoth)
   change Blk w1 w.heap.size 75 (setIns cs k q)at hb7
   generalize setIns cs k q=cs2 at*
   clear hb5 hB5 hb6 hB6 hm5 ht5 ht6 hb1 hoth hblk hB HD hlg
   obtain ⟨v,hv⟩: ∃v,cs2[k*5+4]?=some v:=⟨_,hsame 4 _ rfl⟩
   have q4:=(hb7.cell (k*5+4)).trans hv
   have f4:=hb7.frozen (k*5+4)
   have m4:=hm7.cell 4
   simp only [List.getElem?_toArray,List.getElem?_cons_zero,List.getElem?_cons_succ]at m4
   clear hv hsame
   rcases Bool.eq_false_or_eq_true (jmpB q.op)with hj|hj
   ·have HJ:=Lib.hid hj
    rw [hj]
    clear hj
    go_wp2_with fail
    refine (do_3 q.k z hz0 hz1 _).mono ?_
    rintro e w2 ⟨rfl,hb2⟩
    have hb8:=hb7.below hb2 hb7.lt
    have hB8:=step_below hB7 hb2
    have q4':=keep_cell hb2 hb7.lt q4
    have f4':=hb8.frozen (k*5+4)
    clear q4 f4 m4 hm7
    go_wp2
    go_roundw
    case rel=>
     refine ⟨k+1,by omega,by go_num,_,hb8.set_ (k*5+4) _,by simp [hs7],fun i hi=>?_,hB8.setCell (Nat.le_refl _) _⟩
     by_cases hik:i=k
     ·subst hik
      rw [HQ.out]
      exact HH.out.1.moved_yes HJ.out
     ·exact (HH.out.2 i (by omega)).set_other hik 4 (by decide) _
    case measure=>simp [intOf];omega
   ·have HJ:=Lib.hid hj
    rw [hj]
    clear hj
    go_wp2
    go_roundw
    case rel=>
     refine ⟨k+1,by omega,by go_num,_,hb7,hs7,fun i hi=>?_,hB7⟩
     by_cases hik:i=k
     ·subst hik
      rw [HQ.out]
      exact HH.out.1.moved_no HJ.out
     ·exact HH.out.2 i (by omega)
    case measure=>simp [intOf];omega
  ·obtain rfl:k=len:=by omega
   go_wp2
   go_ret
   exact ⟨cs,rfl,hblk,HC.out,HD.out,hB⟩
end Go.Proofs.YtmhfpjnkjlhbpaaGreatDoor
namespace Go.Proofs.YtmhfpjnkjlhbpaaGreatDoor
open Go.ChangeShapes Go.WideShapes Go.ChangeAt Go.RowKit Go.Deep
set_option linter.unusedVariables false
set_option maxRecDepth 100000
set_option linter.unusedSimpArgs false
open List renaming getElem_toArray->zA,getElem_cons_zero->zB,getElem_cons_succ->zC,setIfInBounds_toArray->zD,set_cons_zero->zE,set_cons_succ->zF
def lnk (ps:List (List UInt8×Nat)) (c:List Ins) (x:Nat×List UInt8):List Ins:=c.set x.1 {c.getD x.1 default with k:=(((ps.lookup x.2).getD 0:Nat):Int)}
def BB.outK (b:BB) (k:Nat):List Ins:=(b.links.take k).foldl (lnk b.places) b.code
def BB.out (b:BB):List Ins:=b.links.foldl (lnk b.places) b.code
def BB.fits (b:BB):Bool:=b.links.all fun x=>decide (x.1<b.code.length)&&jmpB (b.code.getD x.1 default).op&&decide (x.2.length<=20)&&(match b.places.lookup x.2 with|some v=>decide (v<=1000)|none=>false)
theorem lnk_len (ps:List (List UInt8×Nat)) (c:List Ins) (x:Nat×List UInt8):(lnk ps c x).length=c.length:=by simp [lnk]
theorem lnk_op (ps:List (List UInt8×Nat)) (c:List Ins) (x:Nat×List UInt8) (i:Nat):((lnk ps c x).getD i default).op=(c.getD i default).op:=by
 unfold lnk
 simp only [List.getD_eq_getElem?_getD,List.getElem?_set]
 by_cases h:x.1=i
 ·subst h
  by_cases hl:x.1<c.length
  ·simp [hl]
  ·simp [hl]
 ·simp [h]
theorem BB.outK_succ (b:BB) (k:Nat) (h:k<b.links.length):b.outK (k+1)=lnk b.places (b.outK k) (b.links.getD k (0,[])):=by
 unfold BB.outK
 rw [List.take_add_one,List.foldl_append,List.getElem?_eq_getElem h]
 simp [List.getD,List.getElem?_eq_getElem h]
theorem BB.outK_len (b:BB): ∀k,(b.outK k).length=b.code.length:=by
 intro k
 unfold BB.outK
 generalize b.links.take k=l
 generalize b.code=c
 induction l generalizing c with
 |nil=>rfl
 |cons x l ih=>exact (ih _).trans (lnk_len _ _ _)
theorem BB.outK_op (b:BB) (i:Nat): ∀k,((b.outK k).getD i default).op=(b.code.getD i default).op:=by
 intro k
 unfold BB.outK
 generalize b.links.take k=l
 generalize b.code=c
 induction l generalizing c with
 |nil=>rfl
 |cons x l ih=>exact (ih _).trans (lnk_op _ _ _ _)
theorem BB.outK_all (b:BB):b.outK b.links.length=b.out:=by unfold BB.outK BB.out;rw [List.take_length]
theorem BB.fit (b:BB) (h:b.fits=true) (k:Nat) (hk:k<b.links.length): ∃at_ s v,b.links.getD k (0,[])=(at_,s)/\at_<b.code.length/\jmpB (b.code.getD at_ default).op=true/\s.length<=20/\b.places.lookup s=some v/\v<=1000:=by
 have h:=List.all_eq_true.1 h (b.links[k]) (List.getElem_mem _)
 have e:b.links.getD k (0,[])=b.links[k]:=by simp [List.getD,List.getElem?_eq_getElem hk]
 rw [e]
 generalize b.links[k]=x at h⊢
 obtain ⟨a,s⟩:=x
 simp only [Bool.and_eq_true,decide_eq_true_eq]at h
 obtain ⟨⟨⟨h1,h2⟩,h3⟩,h4⟩:=h
 cases hl:b.places.lookup s with
 |none=>rw [hl]at h4;cases h4
 |some v=>rw [hl]at h4;exact ⟨a,s,v,rfl,h1,h2,h3,hl,by simpa using h4⟩
theorem BParts.look {N0:Nat} {W:World} {bb mb:Nat} {b:BB} {vc vl:Value} (h:BParts N0 W bb b vc vl (some mb)) {s:List UInt8} (hs:s.length<=20) {v:Nat} (hv:b.places.lookup s=some v):
 (Instr.lookup 127 (.map (some mb)) (str s) true).run Tryz.prog W= .ok (.tuple #[.int .i64 (v:Int),.bool true]) W:=by
 obtain ⟨DW,hm1,hm2,hm3⟩:=h.looks
 obtain ⟨x,ps,hlk,hx⟩:=hm1.look_ok key_law Tryz.underlying127 (zero_intB W) (plainElem_int Tryz.underlying3 (show (Lit.int .i64 0).wf=true from by decide)) (key_str (s:=s) (by unfold maxLen;omega))
 rw [hm3 s v hv]at hx
 obtain ⟨c,rfl,hc,_⟩:=plainElem_int_inv Tryz.underlying3 hx
 rw [hm2 s,hv]at hlk
 simp only [Prod.mk.injEq,DataW.lit.injEq,Lit.int.injEq]at hc
 rw [<-hc.1.2]at hlk
 exact hlk
def OutI (W:World) (v:Value) (l:List Ins) (W':World):Prop:= ∃og cap cs,v= .slice (some ⟨og,0,none⟩) l.length cap/\Blk W' og 75 cs/\cs.size=cap*5/\l.length<=cap/\cap<=maxLen/\W.heap.size<=og/\ ∀i,i<l.length->InsAt cs i (l.getD i default)
theorem ins_at_row {cs:Array Value} {l:List Ins} {n:Nat} (hl:l.length=n) (h:cs.toList.take (n*5)=l.flatMap Ins.cells) (i:Nat) (hi:i<n):InsAt cs i (l.getD i default):=by
 intro j u hu
 have hj:j<5:=(List.getElem?_eq_some_iff.1 hu).1
 have e:(l.flatMap Ins.cells)[i*5+j]?=some u:=by
  subst hl
  clear h
  induction l generalizing i with
  |nil=>exact absurd hi (by simp)
  |cons x l ih=>
   rw [List.flatMap_cons]
   cases i with
   |zero=>
    rw [List.getElem?_append_left (by show 0*5+j<5;omega)]
    simpa using hu
   |succ i=>
    rw [List.getElem?_append_right (by show 5<=_;omega),show (i+1)*5+j-x.cells.length=i*5+j from by show _-5=_;omega]
    first|exact ih i (by simpa using hi) (by simpa using hu)|exact ih i (by simpa using hu) (by simpa using hi)
 rw [<-h,List.getElem?_take_of_lt (by have :i+1<=n:=hi;have :=Nat.mul_le_mul_right 5 this;omega)]at e
 simpa using e
set_option maxHeartbeats 4000000 in
theorem bcode_any (N0 bb:Nat) (b:BB) (W:World) (h:BI N0 W bb b) (hT:Tab W) (hf:b.fits=true) (hl:b.links.length<=1000) (hn:b.code.length<=1000) (hn0:0<b.code.length):
 Calls Tryz.prog 56 #[.pointer (some ⟨bb,0,none⟩)] W fun e W'=>(∃v,e= .returned (.tuple #[v,.bool true])/\OutI W v b.out W')/\Below W.heap.size W W':=by
 obtain ⟨vc,vl,mo,hP⟩:=h
 have cC:=clone_instrs_own vc b.code.length N0 (b.code.flatMap Ins.cells) W hP.code (fun x hx=>by
  obtain ⟨y,_,hy⟩:=List.mem_flatMap.1 hx
  simp only [Ins.cells,List.mem_cons,List.not_mem_nil,or_false]at hy
  rcases hy with rfl|rfl|rfl|rfl|rfl<;>rfl) (by omega)
 have q0:=(hP.blk.cell 0).trans rfl
 have HP:=Lib.hid hP
 have HF:=Lib.hid (And.intro hf (And.intro hl (And.intro hn (And.intro hn0 hT))))
 clear hP hf hl hn hn0 hT
 go_enter Tryz.func56,Tryz.ntmps56
 go_wp2_with fail
 with_reducible refine cC.mono ?_
 rintro e W1 ⟨v1,rfl,hr1,hB1⟩
 clear cC q0
 obtain ⟨AL,capl,el,_,hsl⟩:=own_sle lkc (fun _=>rfl) (0,[]) b.links HP.out.links
 obtain ⟨nl,hnl⟩: ∃nl,b.links.length=nl:=⟨_,rfl⟩
 have q2:=((HP.out.below hB1).blk.cell 2).trans rfl
 rw [el,hnl]at q2
 rw [hnl]at hsl
 rcases hr1.2 with ⟨_,h0⟩|⟨og,cap,cur,rfl,hog,hblk,hcn,hcm,hcs,htk⟩
 ·exact absurd h0 (by have :=HF.out.2.2.2.1;omega)
 have HS:=Lib.hid hsl
 have HC:=Lib.hid (And.intro hblk (And.intro hcs (And.intro hcn (And.intro hcm (And.intro hog (And.intro htk hB1))))))
 clear hsl hr1 hblk hcs hcn hcm htk hB1
 go_wp2_with fail
 obtain ⟨n,hnn⟩: ∃n,b.code.length=n:=⟨_,rfl⟩
 rw [hnn]at HC⊢
 clear q2 el
 go_loopw [19] (fun v wr=> ∃k:Nat,k<=nl/\v= .int .i64 k/\ ∃cs:Array Value,Blk wr og 75 cs/\cs.size=cap*5/\(∀i,i<n->InsAt cs i ((b.outK k).getD i default))/\Below W.heap.size W wr)
  (fun v _=>nl-(intOf v).toNat)
 case atStart=>
  refine ⟨0,Nat.zero_le _,rfl,cur,HC.out.1,HC.out.2.1,fun i hi=>?_,HC.out.2.2.2.2.2.2⟩
  have :=ins_at_row (l:=b.code) hnn HC.out.2.2.2.2.2.1 i hi
  simpa [BB.outK]using this
 case round=>
  obtain ⟨k,hk,rfl,cs,hblk,hcs,hdone,hB⟩:=hrel
  have HD:=Lib.hid hdone
  have HG:=Lib.hid (And.intro hcs hB)
  clear hdone hcs
  have hlg:=hblk.lt
  have h1000:nl<=1000:=by have :=HF.out.2.1;omega
  have HC0:=Lib.hid hblk
  by_cases hlt:k<nl
  ·obtain ⟨g,off,rfl,hbW,hcW⟩:=HS.out.step hB (by omega)
   have hcj:=hcW k hlt
   dsimp only at hcj
   obtain ⟨at_,s,v,e1,hat,hjm,hsl,hlk,hv⟩:=b.fit HF.out.1 k (by omega)
   rw [e1]at hcj
   have k0:wr.cell? ⟨g,off+k*2,none⟩=some (.int .i64 (at_:Int)):=hcj 0 _ rfl
   have k1:wr.cell? ⟨g,off+k*2+1,none⟩=some (.string ⟨s.toArray⟩):=hcj 1 _ rfl
   have hPr:=HP.out.below hB
   rcases mo with _|mb
   ·have :b.places=[]:=hPr.places
    rw [this]at hlk;cases hlk
   have HJ:=Lib.hid (And.intro e1 (And.intro hat (And.intro hjm (And.intro hlk (And.intro hsl hv)))))
   have HR:=Lib.hid hPr
   have hkl:(k:Int)<(nl:Int):=by omega
   clear hcW hcj e1 hat hjm hsl hlk hv hPr hblk hB hbW
   go_wp2_with fail
   have hal:=(Below.refl wr.heap.size wr).alloc (Nat.le_refl _) (.cells #[.int .i64 (at_:Int),.string ⟨s.toArray⟩] 184)
   have hX:=Blk.new wr 184 #[.int .i64 (at_:Int),.string ⟨s.toArray⟩]
   have HB5:=Lib.hid (HC0.out.alloc (.cells #[.int .i64 (at_:Int),.string ⟨s.toArray⟩] 184))
   have hP5:=HR.out.below hal
   have hB5:=step_below HG.out.2 hal
   clear k0 k1 hkl
   generalize wr.alloc (.cells #[.int .i64 (at_:Int),.string ⟨s.toArray⟩] 184)=W5 at hX HB5 hP5 hB5 hal⊢
   have hxl:=hX.lt
   generalize wr.heap.size=xb at hX hxl hal⊢
   have q1:=(hP5.blk.cell 1).trans rfl
   have x0:=(hX.cell 0).trans rfl
   have x1:=(hX.cell 1).trans rfl
   have hlk:=(hP5.below (below_drewB W5)).look HJ.out.2.2.2.2.1 HJ.out.2.2.2.1
   unfold str at hlk
   have HX:=Lib.hid hX
   have HP5:=Lib.hid (And.intro hP5 hB5)
   have hx6:xb<W5.drew.heap.size:=hxl
   clear hX hP5 hB5 hal hxl
   refine startG (fun W'=>W'=W5.drew) 11 (by kernel_rfl) ?_
   have q1:W5.drew.cell? ⟨bb,1,none⟩=some (.map (some mb)):=q1
   have x0:W5.drew.cell? ⟨xb,0,none⟩=some (.int .i64 (at_:Int)):=x0
   have x1:W5.drew.cell? ⟨xb,1,none⟩=some (.string ⟨s.toArray⟩):=x1
   have HB6:=Lib.hid (show Blk W5.drew og 75 cs from HB5.out)
   have HB0:=Lib.hid (show Below W.heap.size W W5.drew from step_below HP5.out.2 (below_drewB W5))
   clear HB5 HP5 HX
   generalize W5.drew=W6 at q1 x0 x1 hlk HB6 HB0 hx6⊢
   refine takeA (i:=0) (v:= .pointer (some ⟨bb,0,none⟩)) rfl rfl ?_
   simp only [Act.put,zA,zB,zC,zD,zE,zF]
   refine takeA (i:=1) (v:= .pointer (some ⟨bb,0,none⟩)) rfl rfl ?_
   simp only [Act.put,zA,zB,zC,zD,zE,zF]
   refine takeA (i:=2) (v:= .pointer (some ⟨bb,1,none⟩)) rfl rfl ?_
   simp only [Act.put,zA,zB,zC,zD,zE,zF]
   refine takeB (i:=3) (v:= .map (some mb)) rfl (Or.inl ⟨by rfl,fun W hW=>by subst hW;go_simp⟩) rfl ?_
   simp only [Act.put,zA,zB,zC,zD,zE,zF]
   refine takeA (i:=4) (v:= .pointer (some ⟨xb,1,none⟩)) rfl rfl ?_
   simp only [Act.put,zA,zB,zC,zD,zE,zF]
   refine takeB (i:=5) (v:= .string ⟨s.toArray⟩) rfl (Or.inl ⟨by rfl,fun W hW=>by subst hW;go_simp⟩) rfl ?_
   simp only [Act.put,zA,zB,zC,zD,zE,zF]
   refine takeB (i:=6) (v:= .tuple #[.int .i64 (v:Int),.bool true]) rfl (Or.inl ⟨by rfl,fun W hW=>by subst hW;go_simp⟩) rfl ?_
   simp only [Act.put,zA,zB,zC,zD,zE,zF]
   refine takeA (i:=7) (v:= .tuple #[.int .i64 (v:Int),.bool true]) rfl rfl ?_
   simp only [Act.put,zA,zB,zC,zD,zE,zF]
   refine takeA (i:=8) (v:= .int .i64 (v:Int)) rfl rfl ?_
   simp only [Act.put,zA,zB,zC,zD,zE,zF]
   refine takeA (i:=9) (v:= .bool true) rfl rfl ?_
   simp only [Act.put,zA,zB,zC,zD,zE,zF]
   refine takeA (i:=10) (v:= .int .i64 (v:Int)) rfl rfl ?_
   simp only [Act.put,zA,zB,zC,zD,zE,zF]
   refine lastG (by kernel_rfl) rfl (by kernel_rfl) (fun K hK=>?_)
   go_simp
   refine hK.out _ _ ?_
   clear hK K q1 hlk x1
   have hatn:(at_:Int)<(n:Int):=by have :=HJ.out.2.1;omega
   have hin:=HD.out at_ (by omega)
   have hop:((b.outK k).getD at_ default).op=(b.code.getD at_ default).op:=BB.outK_op b at_ k
   obtain ⟨q,hq⟩: ∃q,(b.outK k).getD at_ default=q:=⟨_,rfl⟩
   rw [hq]at hin hop
   have c0:W6.cell? ⟨og,at_*5,none⟩=some (.int .i64 q.op):=(HB6.out.cell (at_*5)).trans (hin 0 _ rfl)
   have hT6:Tab W6:=HF.out.2.2.2.2.step HB0.out
   have cJ:=jumps_any q.op W6 hT6
   rw [show jmpB q.op=true from by rw [hop];exact HJ.out.2.2.1]at cJ
   have HQ:=Lib.hid (And.intro hq hin)
   clear hq hin hop hT6
   go_wp2_with fail
   with_reducible refine cJ.mono ?_
   rintro e W7 ⟨rfl,hb7⟩
   have hB7:=HB6.out.below hb7 HB6.out.lt
   have HB7:=Lib.hid (And.intro hB7 (step_below HB0.out hb7))
   have c4:W7.cell? ⟨og,at_*5+4,none⟩=some (.int .u32 q.k):=(hB7.cell (at_*5+4)).trans (HQ.out.2 4 _ rfl)
   have f4:=hB7.frozen (at_*5+4)
   have x0':W7.cell? ⟨xb,0,none⟩=some (.int .i64 (at_:Int)):=keepAt hb7 hx6 x0
   have hv0:(v:Int)<=1000:=by have :=HJ.out.2.2.2.2.2;omega
   clear cJ c0 x0 hb7 hB7 hx6
   go_wp2
   go_roundw
   case rel=>
    refine ⟨k+1,by omega,by go_num,_,HB7.out.1.set_ (at_*5+4) _,by simp [HG.out.1],fun i hi=>?_,HB7.out.2.setCell hog _⟩
    rw [BB.outK_succ b k (by omega),HJ.out.1]
    show InsAt _ i ((lnk b.places (b.outK k) (at_,s)).getD i default)
    have hlen:at_<(b.outK k).length:=by rw [BB.outK_len];exact HJ.out.2.1
    by_cases hi2:at_=i
    ·subst hi2
     have e:(lnk b.places (b.outK k) (at_,s)).getD at_ default={q with k:=(v:Int)}:=by
      simp only [lnk,HQ.out.1,HJ.out.2.2.2.1,Option.getD_some,List.getD_eq_getElem?_getD,List.getElem?_set_self hlen]
     rw [e]
     exact HQ.out.2.setK _
    ·have e:(lnk b.places (b.outK k) (at_,s)).getD i default=(b.outK k).getD i default:=by
      simp only [lnk,List.getD_eq_getElem?_getD,List.getElem?_set_ne hi2]
     rw [e]
     exact (HD.out i hi).set_other (fun q=>hi2 q.symm) 4 (by decide) _
   case measure=>simp [intOf];omega
  ·obtain rfl:k=nl:=by omega
   have q3:=((HP.out.below hB).blk.cell 3).trans rfl
   clear hlt
   go_wp2
   go_ret2
   have hol:b.out.length=n:=by rw [<-BB.outK_all,BB.outK_len,hnn]
   refine ⟨⟨_,rfl,og,cap,cs,by rw [hol];rfl,HC0.out,HG.out.1,by rw [hol];exact HC.out.2.2.1,HC.out.2.2.2.1,hog,fun i hi=>?_⟩,hB⟩
   have :=HD.out i (by rw [hol]at hi;exact hi)
   rw [hnl.symm,BB.outK_all]at this
   exact this
theorem t0_ok {p:Pg} {B:MB} (ho:p.Ok) (h:NewM p B):TOk B (t0 p) where
 ok:=⟨by show (List.replicate p.n tha).length=_;rw [List.length_replicate,h.n],fun t ht=>by rw [(List.mem_replicate.1 ht).2];exact tha_regs,fun z hz=>by
  obtain ⟨i,hi,rfl⟩:=List.mem_map.1 hz
  exact ho.z0 i (List.mem_range.1 hi),fun b hb e he=>(by rw [(List.mem_replicate.1 hb).2]at he;cases he),⟨List.nodup_nil,fun x hx=>by cases hx⟩⟩
 bl:=by show (List.replicate p.n _).length=_;rw [List.length_replicate,h.n]
theorem tot_nil (n:Nat):tot (List.replicate n [])=0:=by
 induction n with
 |zero=>rfl
 |succ n ih=>rw [List.replicate_succ];simp [tot]at ih⊢
theorem t0_can {p:Pg} {B:MB} (hn:p.n<=8) (n:Nat) (h:n<=9000):mCan B n (t0 p):=
 ⟨by show 0+tot (List.replicate p.n [])+n<=_;rw [tot_nil];omega,by show 0+n<=_;omega,fun x hx=>(by cases hx),fun b hb e he=>(by rw [(List.mem_replicate.1 hb).2]at he;cases he),by show (List.replicate p.n tha).length<=8;rw [List.length_replicate];exact hn⟩
structure Ev where
 (kind who pc addr value old k:Int)
 ok:Bool
instance:Inhabited Ev:=⟨⟨0,0,0,0,0,0,0,false⟩⟩
def Ev.cells (x:Ev):List Value:=[.int .i64 x.kind,.int .i64 x.who,.int .i64 x.pc,.int .i64 x.addr,.int .u32 x.value,.int .u32 x.old,.int .u32 x.k,.bool x.ok]
def evs (E:Nat->Ev) (t:Int) (k:Nat):List (Nat×Ev):=((List.range k).map fun i=>(i,E i)).filter fun x=>x.2.who==t
theorem evs_hit {E:Nat->Ev} {t:Int} {k:Nat} (h:(E k).who=t):evs E t (k+1)=evs E t k++[(k,E k)]:=by
 unfold evs
 rw [List.range_succ,List.map_append,List.filter_append]
 congr 1
 show List.filter (fun x:Nat×Ev=>x.2.who==t) [(k,E k)]=[(k,E k)]
 rw [List.filter_cons_of_pos (by simpa using h)]
 rfl
theorem evs_miss {E:Nat->Ev} {t:Int} {k:Nat} (h:(E k).who≠t):evs E t (k+1)=evs E t k:=by
 unfold evs
 rw [List.range_succ,List.map_append,List.filter_append]
 show _++List.filter (fun x:Nat×Ev=>x.2.who==t) [(k,E k)]=_
 rw [List.filter_cons_of_neg (by simpa using h)]
 simp
theorem evs_len (E:Nat->Ev) (t:Int) (k:Nat):(evs E t k).length<=k:=by
 unfold evs
 have :=List.length_filter_le (fun x:Nat×Ev=>x.2.who==t) ((List.range k).map fun i=>(i,E i))
 simpa using this
end Go.Proofs.YtmhfpjnkjlhbpaaGreatDoor
