/- core.run.wait, goes, halts, faults. core.run.halts, faults. -/
import Derived.Test.YtmhfpjnkjlhbpaaGreatDoorQd04
namespace Go.Proofs.YtmhfpjnkjlhbpaaGreatDoor
open Go.ChangeShapes Go.WideShapes Go.ChangeAt Go.RowKit Go.Deep
set_option linter.unusedVariables false
set_option maxRecDepth 100000
set_option linter.unusedSimpArgs false
def waitR {σ:Type} (O:Ops σ) (s:σ) (t:Th) (m a:Nat):Th×σ:=
 if (O.load s m).1=t.regs a then ({t with regs:=updR t.regs a 0,st:=1},O.sleep (O.note (O.load s m).2 ⟨8,0,t.pc,(m:Int),(O.load s m).1,0,0,true⟩) m)
 else ({t with regs:=updR t.regs a 1},O.note (O.load s m).2 ⟨8,0,t.pc,(m:Int),(O.load s m).1,0,0,false⟩)
set_option maxHeartbeats 4000000 in
theorem wait_any {σ:Type} {O:Ops σ} {V:Pv} {Inv:σ->(Nat->Prop)->World->Prop} {can:Nat->σ->Prop} (hP:PortOk O V Inv can) (n:Nat) (s:σ) (own:Nat->Prop) (rb:Nat) (t:Th) (i:Ins) (m a:Nat) (W W1:World)
 (hM:RMoves Inv s own rb t i O.size V (m:Int) W W1) (hc:can (n+3) s) (hrb:rb<W.heap.size) (hm:m<O.size) (ha:i.a=(a:Int)) (ha8:a<8):
 Calls Tryz.prog 168 #[.pointer (some ⟨rb,0,none⟩)] W1
  fun e W'=>(∃u,e= .returned u)/\RMoves Inv (waitR O s t m a).2 own rb (waitR O s t m a).1 i O.size V (m:Int) W W':=by
 have hc2:=hP.cload (n+2) s m hc
 have hr1:=reg_r hP a ha ha8 hM
 obtain ⟨v,hv⟩: ∃v,(O.load s m).1=v:=⟨_,rfl⟩
 obtain ⟨s1,hs1⟩: ∃s1,(O.load s m).2=s1:=⟨_,rfl⟩
 obtain ⟨ra,hra⟩: ∃ra,t.regs a=ra:=⟨_,rfl⟩
 have HL:=Lib.hid (And.intro hv (And.intro hs1 (And.intro hra (And.intro hc hc2))))
 have HE:=Lib.hid (show waitR O s t m a=if v=ra then ({t with regs:=updR t.regs a 0,st:=1},O.sleep (O.note s1 ⟨8,0,t.pc,(m:Int),v,0,0,true⟩) m)else ({t with regs:=updR t.regs a 1},O.note s1 ⟨8,0,t.pc,(m:Int),v,0,0,false⟩) by unfold waitR;rw [hv,hs1,hra])
 clear hv hs1 hra hM hc hc2
 by_cases h:v=ra
 ·have hR:Hid (waitR O s t m a=({t with regs:=updR t.regs a 0,st:=1},O.sleep (O.note s1 ⟨8,0,t.pc,(m:Int),v,0,0,true⟩) m)):=Lib.hid (by rw [HE.out,if_pos h])
  obtain ⟨R,hRR⟩: ∃R,waitR O s t m a=R:=⟨_,rfl⟩
  have HR:=Lib.hid (hRR.symm.trans hR.out)
  rw [hRR]
  clear hRR hR HE
  subst h
  have hve:(v==v)=true:=by simp
  have hvn:(v !=v)=false:=by simp
  go_enter Tryz.func168,Tryz.ntmps168
  go_wp2_with fail
  refine hr1.mono ?_
  rintro e W2 ⟨rfl,hM2⟩
  obtain ⟨c15,c16,c17,c18,c19,c20,c21,c22,c23,c24,c25,c26⟩:=hM2.rn.pt
  have hG:=hP.goes.1
  unfold Goes at hG
  unfold Fv.val at c16
  have HM:=Lib.hid hM2
  clear c15 c17 c18 c19 c20 c21 c22 c23 c24 c25 hM2 hr1
  go_wp2
  go_still_tail 9,(by kernel_rfl)
  change wpList _ _ _ _ _ W2.drew
  have hgo:=fun a=>hG a W2.drew
  have hS:=load_r hP (n+2) m (HM.out.drew hP) HL.out.2.2.2.1 hrb hm
  rw [HL.out.1,HL.out.2.1]at hS
  clear hG c16 c26
  generalize W2.drew=W3 at hgo hS⊢
  go_wp2_with fail
  refine hS.mono ?_
  rintro e W4 ⟨rfl,hM4⟩
  have c4:=hM4.rn.reg ha8
  rw [HL.out.2.2.1]at c4
  have hN:=note_r hP (n+1) (W:=W) ⟨8,0,0,0,v,0,0,true⟩ hM4 (HL.out.2.1▸HL.out.2.2.2.2) hrb
  clear hS hgo hM4
  go_wp2_with fail
  refine hN.mono ?_
  rintro e W5 ⟨⟨u,rfl⟩,hM5⟩
  have c5:=hM5.rn.reg ha8
  rw [HL.out.2.2.1]at c5
  have f5:=hM5.rn.fz (1+a)
  have hM6:=hM5.set_ hP (1+a) (.int .u32 0) (fun h=>h.setReg ha8 0)
  obtain ⟨d15,d16,d17,d18,d19,d20,d21,d22,d23,d24,d25,d26⟩:=hM6.rn.pt
  unfold Fv.val at d22
  have hG7:=hP.goes.2.2.2.2.2.2.1
  unfold Goes at hG7
  have HM6:=Lib.hid hM6
  clear hN hM5 c4 d15 d16 d17 d18 d19 d20 d21 d23 d24 d25 hM6
  go_wp2
  generalize W5.setCell ⟨rb,1+a,none⟩ (.int .u32 0)=W6 at d22 d26 HM6⊢
  go_still_tail 9,(by kernel_rfl)
  change wpList _ _ _ _ _ W6.drew
  have hgo:=fun a=>hG7 a W6.drew
  have hS:=sleep_r hP n m (HM6.out.drew hP) (hP.cnote (n+1) _ _ (HL.out.2.1▸HL.out.2.2.2.2)) hrb
  clear hG7 d22 d26 c5 f5
  generalize W6.drew=W7 at hgo hS⊢
  go_wp2_with fail
  refine hS.mono ?_
  rintro e W8 ⟨⟨u,rfl⟩,hM8⟩
  have c8:=hM8.rn.tc (j:=9) rfl
  have f8:=hM8.rn.fz 9
  have HM8:=Lib.hid (hM8.set_ hP 9 (.int .i64 1) (fun h=>h.setSt 1))
  clear hS hgo hM8
  go_wp2
  go_end0
  rw [HR.out]
  exact ⟨⟨_,rfl⟩,HM8.out⟩
 ·have hR:Hid (waitR O s t m a=({t with regs:=updR t.regs a 1},O.note s1 ⟨8,0,t.pc,(m:Int),v,0,0,false⟩)):=Lib.hid (by rw [HE.out,if_neg h])
  obtain ⟨R,hRR⟩: ∃R,waitR O s t m a=R:=⟨_,rfl⟩
  have HR:=Lib.hid (hRR.symm.trans hR.out)
  rw [hRR]
  clear hRR hR HE
  have hve:(v==ra)=false:=by simpa using h
  have hvn:(v !=ra)=true:=by simpa using h
  clear h
  go_enter Tryz.func168,Tryz.ntmps168
  go_wp2_with fail
  refine hr1.mono ?_
  rintro e W2 ⟨rfl,hM2⟩
  obtain ⟨c15,c16,c17,c18,c19,c20,c21,c22,c23,c24,c25,c26⟩:=hM2.rn.pt
  have hG:=hP.goes.1
  unfold Goes at hG
  unfold Fv.val at c16
  have HM:=Lib.hid hM2
  clear c15 c17 c18 c19 c20 c21 c22 c23 c24 c25 hM2 hr1
  go_wp2
  go_still_tail 9,(by kernel_rfl)
  change wpList _ _ _ _ _ W2.drew
  have hgo:=fun a=>hG a W2.drew
  have hS:=load_r hP (n+2) m (HM.out.drew hP) HL.out.2.2.2.1 hrb hm
  rw [HL.out.1,HL.out.2.1]at hS
  clear hG c16 c26
  generalize W2.drew=W3 at hgo hS⊢
  go_wp2_with fail
  refine hS.mono ?_
  rintro e W4 ⟨rfl,hM4⟩
  have c4:=hM4.rn.reg ha8
  rw [HL.out.2.2.1]at c4
  have hN:=note_r hP (n+1) (W:=W) ⟨8,0,0,0,v,0,0,false⟩ hM4 (HL.out.2.1▸HL.out.2.2.2.2) hrb
  clear hS hgo hM4
  go_wp2_with fail
  refine hN.mono ?_
  rintro e W5 ⟨⟨u,rfl⟩,hM5⟩
  have c5:=hM5.rn.reg ha8
  rw [HL.out.2.2.1]at c5
  have f5:=hM5.rn.fz (1+a)
  have HM6:=Lib.hid (hM5.set_ hP (1+a) (.int .u32 1) (fun h=>h.setReg ha8 1))
  clear hN hM5 c4
  go_wp2
  refine bodyPost_ret (results_none rfl _ _ _) rfl ?_
  rw [HR.out]
  exact ⟨⟨_,rfl⟩,HM6.out⟩
def goesB (op:Int) (r:Int):Bool:=if op=13 then true else if op=14 then decide (r=0)else decide (r≠0)
set_option maxHeartbeats 1000000 in
theorem goes_any {σ:Type} {O:Ops σ} {V:Pv} {Inv:σ->(Nat->Prop)->World->Prop} {can:Nat->σ->Prop} (hP:PortOk O V Inv can) (s:σ) (own:Nat->Prop) (rb:Nat) (t:Th) (i:Ins) (addr:Int) (W W1:World)
 (hM:RMoves Inv s own rb t i O.size V addr W W1) (a:Nat) (ha:i.op≠13->i.a=(a:Int)) (ha8:a<8):
 Calls Tryz.prog 151 #[.pointer (some ⟨rb,0,none⟩)] W1 fun e W'=>e= .returned (.bool (goesB i.op (t.regs a)))/\RMoves Inv s own rb t i O.size V addr W W':=by
 have c:=hM.rn.ic (j:=0) rfl
 obtain ⟨op,hop⟩: ∃op,i.op=op:=⟨_,rfl⟩
 rw [hop]at c ha
 obtain ⟨ra,hra⟩: ∃ra,t.regs a=ra:=⟨_,rfl⟩
 have HM:=Lib.hid (And.intro hM (And.intro hop hra))
 clear hM hop hra
 by_cases h13:op=13
 ·subst h13
  go_enter Tryz.func151,Tryz.ntmps151
  go_wp2
  go_ret
  exact ⟨by rw [HM.out.2.1];rfl,HM.out.1⟩
 ·have hr:=reg_r hP a (ha h13) ha8 HM.out.1
  by_cases h14:op=14
  ·subst h14
   clear ha
   go_enter Tryz.func151,Tryz.ntmps151
   go_wp2_with fail
   refine hr.mono ?_
   rintro e W2 ⟨rfl,hM2⟩
   have c2:=hM2.rn.reg ha8
   rw [HM.out.2.2]at c2
   have HM2:=Lib.hid hM2
   clear hM2 hr
   go_wp2
   go_ret
   exact ⟨by rw [HM.out.2.1,HM.out.2.2];rfl,HM2.out⟩
  ·have e1:goesB i.op (t.regs a)=(ra !=0):=by
    rw [HM.out.2.1,HM.out.2.2]
    unfold goesB
    rw [if_neg h13,if_neg h14]
    by_cases h:ra=0<;>simp [h]
   have HE:=Lib.hid e1
   have b13:(op==13)=false:=by simpa using h13
   have b14:(op==14)=false:=by simpa using h14
   clear ha h13 h14 e1
   go_enter Tryz.func151,Tryz.ntmps151
   go_wp2_with fail
   refine hr.mono ?_
   rintro e W2 ⟨rfl,hM2⟩
   have c2:=hM2.rn.reg ha8
   rw [HM.out.2.2]at c2
   have HM2:=Lib.hid hM2
   clear hM2 hr
   go_wp2
   go_ret
   exact ⟨by rw [HE.out];rfl,HM2.out⟩
section
variable {σ:Type} {O:Ops σ} {V:Pv} {Inv:σ->(Nat->Prop)->World->Prop} {can:Nat->σ->Prop}
theorem RMoves.then_ {s s':σ} {own:Nat->Prop} {rb:Nat} {t t':Th} {i:Ins} {size:Nat} {addr:Int} {W W1:World} (h:RMoves Inv s own rb t i size V addr W W1) {f:FuncId} {args:Array Value} {R:Ending->Prop}
 (k: ∀own1,Inv s own1 W1-> ¬own1 rb->Calls Tryz.prog f args W1 fun e W2=>R e/\RMoves Inv s' own1 rb t' i size V addr W1 W2):Calls Tryz.prog f args W1 fun e W2=>R e/\RMoves Inv s' own rb t' i size V addr W W2:=by
 obtain ⟨own1,h1,h2,h3,h4,h5⟩:=h
 refine (k own1 h1 h5).mono fun e W2 ⟨he,hm⟩=>⟨he,?_⟩
 obtain ⟨own2,k1,k2,k3,k4,k5⟩:=hm
 refine ⟨own2,k1,fun j hj=>?_,h3.trans k3 (fun j hj=>?_),k4,k5⟩
 ·rcases k2 j hj with h|h
  ·exact h2 j h
  ·exact .inr (Nat.le_trans h3.size h)
 ·rcases hj with hj|rfl
  ·rcases h2 j hj with h|h
   ·exact .inl (.inl h)
   ·exact .inr h
  ·exact .inl (.inr rfl)
end
theorem results_cell {P:Program} {fn:Func} {p:Tmp} {ty:TypeId} (h:fn.results= #[.cell p ty]) (tmps:Array Value) (w:World) (g:Nat) (v:Value)
 (hp:tmps.getD p undef= .pointer (some ⟨g,0,none⟩)) (hr:(loadVar ty ⟨g,0,none⟩).run P w= .ok v w):(results fn tmps).run P w= .ok v w:=by
 have hp':tmps[p]?.getD undef= .pointer (some ⟨g,0,none⟩):=by simpa using hp
 simp [results,h,hp',asAddr,hr]
def thArr (t:Th):Array Value:= #[.int .i64 t.pc,.int .u32 (t.regs 0),.int .u32 (t.regs 1),.int .u32 (t.regs 2),.int .u32 (t.regs 3),.int .u32 (t.regs 4),.int .u32 (t.regs 5),.int .u32 (t.regs 6),.int .u32 (t.regs 7),.int .i64 t.st]
theorem th_one (t:Th):((thArr t).all fun x=>x.oneCell')=true:=by simp [thArr,Value.oneCell']
theorem th_info:(Tryz.prog.info? 124).map (·.size)=some 10:=by kernel_rfl
theorem Rn.grow {W W':World} {rb g:Nat} {t:Th} {i:Ins} {size:Nat} {V:Pv} {addr:Int} (h:Rn W rb t i size V addr) (k:W.grownBy W' (some g)) (hn:rb≠g):Rn W' rb t i size V addr:=by
 obtain ⟨cs,h1,h2⟩:=h.row
 exact ⟨cs,h1.grown k (fun e=>hn (Option.some.inj e)),h2⟩
set_option maxHeartbeats 2000000 in
theorem halts_any {σ:Type} {O:Ops σ} {V:Pv} {Inv:σ->(Nat->Prop)->World->Prop} {can:Nat->σ->Prop} (hP:PortOk O V Inv can) (n:Nat) (s:σ) (own:Nat->Prop) (rb:Nat) (t:Th) (i:Ins) (addr:Int) (W:World)
 (hR:Rn W rb t i O.size V addr) (hI:Inv s own W) (hn: ¬own rb) (hc:can (n+1) s):
 Calls Tryz.prog 146 #[.pointer (some ⟨rb,0,none⟩)] W fun e W'=>e= .returned ({t with st:=2}:Th).val/\RMoves Inv (O.note s ⟨12,0,t.pc,addr,0,0,0,false⟩) own rb {t with st:=2} i O.size V addr W W':=by
 have hlt:=hR.lt
 have hlo:=fun j h=>hP.lt s own W j hI h
 have hR0:=hR.alloc (.cells #[.int .i64 0,.int .u32 0,.int .u32 0,.int .u32 0,.int .u32 0,.int .u32 0,.int .u32 0,.int .u32 0,.int .u32 0,.int .i64 0] 124)
 have c9:=hR0.tc (j:=9) rfl
 have f9:=hR0.fz 9
 have hR1:=hR0.setSt 2
 have hT1:=(Blk.new W 124 #[.int .i64 0,.int .u32 0,.int .u32 0,.int .u32 0,.int .u32 0,.int .u32 0,.int .u32 0,.int .u32 0,.int .u32 0,.int .i64 0]).far (p:=⟨rb,9,none⟩) (by simp only;omega) (.int .i64 2)
 have hI1:=hP.keep s own W _ hI (((Stay.refl own W).alloc hlo (.cells #[.int .i64 0,.int .u32 0,.int .u32 0,.int .u32 0,.int .u32 0,.int .u32 0,.int .u32 0,.int .u32 0,.int .u32 0,.int .i64 0] 124)).setCell (j:=9) hn (.int .i64 2))
 have hK1:KeepOut (fun j=>own j∨j=rb) W _:=((KeepOut.refl (fun j=>own j∨j=rb) W).alloc (.cells #[.int .i64 0,.int .u32 0,.int .u32 0,.int .u32 0,.int .u32 0,.int .u32 0,.int .u32 0,.int .u32 0,.int .u32 0,.int .i64 0] 124)).setCell (g:=rb) (j:=9) (.inl (.inr rfl)) (.int .i64 2)
 have hno: ¬own W.heap.size:=fun h=>Nat.lt_irrefl _ (hlo _ h)
 obtain ⟨W2,hW2⟩: ∃W2,(W.alloc (.cells #[.int .i64 0,.int .u32 0,.int .u32 0,.int .u32 0,.int .u32 0,.int .u32 0,.int .u32 0,.int .u32 0,.int .u32 0,.int .i64 0] 124)).setCell ⟨rb,9,none⟩ (.int .i64 2)=W2:=⟨_,rfl⟩
 rw [hW2]at hR1 hT1 hI1 hK1
 have hrt:rb≠W.heap.size:=by omega
 have HX:=Lib.hid (And.intro hR1 (And.intro hT1 (And.intro hI1 (And.intro hK1 (And.intro hno hlo)))))
 have hM2:=RMoves.start hP hR1 hI1 hn
 have hN:=note_any hP n s own rb {t with st:=2} i addr ⟨12,0,0,0,0,0,0,false⟩ W2 hR1 hI1 hc hn
 clear hR hI hR0 hR1 hT1 hI1 hK1 hM2 hno hlo
 go_enter Tryz.func146,Tryz.ntmps146
 go_wp2_with fail
 clear hW2
 refine hN.mono ?_
 rintro e W3 ⟨⟨u,rfl⟩,own',k1,k2,k3⟩
 obtain ⟨hR1,hT1,hI1,hK1,hno,hlo⟩:=HX.out
 have hT3:=k3.blk hT1 hno
 have hR3:=hR1.keep k3 hn
 have hsz2:W.heap.size<W2.heap.size:=hT1.lt
 have hnt: ¬own' W.heap.size:=fun hj=>by
  rcases k2 _ hj with h|h
  ·exact hno h
  ·omega
 have hnr: ¬own' rb:=fun hj=>by
  rcases k2 rb hj with h|h
  ·exact hn h
  ·omega
 have hM3:=And.intro k1 (And.intro (fun j (hj:own' j)=>(k2 j hj).imp id (fun h=>Nat.le_trans hK1.size h)) (And.intro (hK1.trans k3 (fun j hj=> .inl (.inl hj))) (And.intro hR3 (And.intro hnt hnr))))
 have r0:=hR3.tc (j:=0) rfl
 have r1:=hR3.tc (j:=1) rfl
 have r2:=hR3.tc (j:=2) rfl
 have r3:=hR3.tc (j:=3) rfl
 have r4:=hR3.tc (j:=4) rfl
 have r5:=hR3.tc (j:=5) rfl
 have r6:=hR3.tc (j:=6) rfl
 have r7:=hR3.tc (j:=7) rfl
 have r8:=hR3.tc (j:=8) rfl
 have r9:=hR3.tc (j:=9) rfl
 have HM:=Lib.hid hM3
 clear hN hR1 hT1 hI1 hK1 hno hlo k1 k2 k3 hR3 hM3 c9 f9 hnt hnr hsz2
 dsimp only at r0 r1 r2 r3 r4 r5 r6 r7 r8 r9
 go_wp2_with (refine wpList_store_row rfl 124 (.tmp 2) (.tmp 13) rfl _ rfl (thArr {t with st:=2}) rfl 124 _ hT3 rfl th_info (th_one _) ?_;intro W4 hb4 hg4)
 exact bodyPost_ret (v:=({t with st:=2}:Th).val) (results_cell Tryz.results146 _ _ _ _ rfl (run_row _ _ _ _ _ _ hb4 Tryz.underlying124 rfl th_info)) rfl ⟨rfl,by
  obtain ⟨h1,h2,h3,h4,hnt,h5⟩:=HM.out
  exact ⟨own',hP.keep _ own' W3 _ h1 ⟨fun j hj=>hg4.block j (hP.lt _ own' W3 j h1 hj) (fun e=>hnt (by rw [<-Option.some.inj e];exact hj)),hg4.size⟩,h2,⟨hg4.os.trans h3.os,hg4.tape.trans h3.tape,hg4.output.trans h3.output,Nat.le_trans h3.size hg4.size,fun j hj hnj=>(hg4.block j (Nat.lt_of_lt_of_le hj h3.size) (fun e=>by have :=Option.some.inj e;omega)).trans (h3.block j hj hnj)⟩,h4.grow hg4 hrt,h5⟩⟩
set_option maxHeartbeats 2000000 in
theorem faults_any {σ:Type} {O:Ops σ} {V:Pv} {Inv:σ->(Nat->Prop)->World->Prop} {can:Nat->σ->Prop} (hP:PortOk O V Inv can) (n:Nat) (s:σ) (own:Nat->Prop) (rb:Nat) (t:Th) (i:Ins) (addr:Int) (W:World)
 (hR:Rn W rb t i O.size V addr) (hI:Inv s own W) (hn: ¬own rb) (hc:can (n+1) s):
 Calls Tryz.prog 147 #[.pointer (some ⟨rb,0,none⟩)] W fun e W'=>e= .returned ({t with st:=3}:Th).val/\RMoves Inv (O.note s ⟨13,0,t.pc,addr,0,0,0,false⟩) own rb {t with st:=3} i O.size V addr W W':=by
 have hlt:=hR.lt
 have hlo:=fun j h=>hP.lt s own W j hI h
 have hR0:=hR.alloc (.cells #[.int .i64 0,.int .u32 0,.int .u32 0,.int .u32 0,.int .u32 0,.int .u32 0,.int .u32 0,.int .u32 0,.int .u32 0,.int .i64 0] 124)
 have c9:=hR0.tc (j:=9) rfl
 have f9:=hR0.fz 9
 have hR1:=hR0.setSt 3
 have hT1:=(Blk.new W 124 #[.int .i64 0,.int .u32 0,.int .u32 0,.int .u32 0,.int .u32 0,.int .u32 0,.int .u32 0,.int .u32 0,.int .u32 0,.int .i64 0]).far (p:=⟨rb,9,none⟩) (by simp only;omega) (.int .i64 3)
 have hI1:=hP.keep s own W _ hI (((Stay.refl own W).alloc hlo (.cells #[.int .i64 0,.int .u32 0,.int .u32 0,.int .u32 0,.int .u32 0,.int .u32 0,.int .u32 0,.int .u32 0,.int .u32 0,.int .i64 0] 124)).setCell (j:=9) hn (.int .i64 3))
 have hK1:KeepOut (fun j=>own j∨j=rb) W _:=((KeepOut.refl (fun j=>own j∨j=rb) W).alloc (.cells #[.int .i64 0,.int .u32 0,.int .u32 0,.int .u32 0,.int .u32 0,.int .u32 0,.int .u32 0,.int .u32 0,.int .u32 0,.int .i64 0] 124)).setCell (g:=rb) (j:=9) (.inl (.inr rfl)) (.int .i64 3)
 have hno: ¬own W.heap.size:=fun h=>Nat.lt_irrefl _ (hlo _ h)
 obtain ⟨W2,hW2⟩: ∃W2,(W.alloc (.cells #[.int .i64 0,.int .u32 0,.int .u32 0,.int .u32 0,.int .u32 0,.int .u32 0,.int .u32 0,.int .u32 0,.int .u32 0,.int .i64 0] 124)).setCell ⟨rb,9,none⟩ (.int .i64 3)=W2:=⟨_,rfl⟩
 rw [hW2]at hR1 hT1 hI1 hK1
 have hrt:rb≠W.heap.size:=by omega
 have HX:=Lib.hid (And.intro hR1 (And.intro hT1 (And.intro hI1 (And.intro hK1 (And.intro hno hlo)))))
 have hM2:=RMoves.start hP hR1 hI1 hn
 have hN:=note_any hP n s own rb {t with st:=3} i addr ⟨13,0,0,0,0,0,0,false⟩ W2 hR1 hI1 hc hn
 clear hR hI hR0 hR1 hT1 hI1 hK1 hM2 hno hlo
 go_enter Tryz.func147,Tryz.ntmps147
 go_wp2_with fail
 clear hW2
 refine hN.mono ?_
 rintro e W3 ⟨⟨u,rfl⟩,own',k1,k2,k3⟩
 obtain ⟨hR1,hT1,hI1,hK1,hno,hlo⟩:=HX.out
 have hT3:=k3.blk hT1 hno
 have hR3:=hR1.keep k3 hn
 have hsz2:W.heap.size<W2.heap.size:=hT1.lt
 have hnt: ¬own' W.heap.size:=fun hj=>by
  rcases k2 _ hj with h|h
  ·exact hno h
  ·omega
 have hnr: ¬own' rb:=fun hj=>by
  rcases k2 rb hj with h|h
  ·exact hn h
  ·omega
 have hM3:=And.intro k1 (And.intro (fun j (hj:own' j)=>(k2 j hj).imp id (fun h=>Nat.le_trans hK1.size h)) (And.intro (hK1.trans k3 (fun j hj=> .inl (.inl hj))) (And.intro hR3 (And.intro hnt hnr))))
 have r0:=hR3.tc (j:=0) rfl
 have r1:=hR3.tc (j:=1) rfl
 have r2:=hR3.tc (j:=2) rfl
 have r3:=hR3.tc (j:=3) rfl
 have r4:=hR3.tc (j:=4) rfl
 have r5:=hR3.tc (j:=5) rfl
 have r6:=hR3.tc (j:=6) rfl
 have r7:=hR3.tc (j:=7) rfl
 have r8:=hR3.tc (j:=8) rfl
 have r9:=hR3.tc (j:=9) rfl
 have HM:=Lib.hid hM3
 clear hN hR1 hT1 hI1 hK1 hno hlo k1 k2 k3 hR3 hM3 c9 f9 hnt hnr hsz2
 dsimp only at r0 r1 r2 r3 r4 r5 r6 r7 r8 r9
 go_wp2_with (refine wpList_store_row rfl 124 (.tmp 2) (.tmp 13) rfl _ rfl (thArr {t with st:=3}) rfl 124 _ hT3 rfl th_info (th_one _) ?_;intro W4 hb4 hg4)
 exact bodyPost_ret (v:=({t with st:=3}:Th).val) (results_cell Tryz.results147 _ _ _ _ rfl (run_row _ _ _ _ _ _ hb4 Tryz.underlying124 rfl th_info)) rfl ⟨rfl,by
  obtain ⟨h1,h2,h3,h4,hnt,h5⟩:=HM.out
  exact ⟨own',hP.keep _ own' W3 _ h1 ⟨fun j hj=>hg4.block j (hP.lt _ own' W3 j h1 hj) (fun e=>hnt (by rw [<-Option.some.inj e];exact hj)),hg4.size⟩,h2,⟨hg4.os.trans h3.os,hg4.tape.trans h3.tape,hg4.output.trans h3.output,Nat.le_trans h3.size hg4.size,fun j hj hnj=>(hg4.block j (Nat.lt_of_lt_of_le hj h3.size) (fun e=>by have :=Option.some.inj e;omega)).trans (h3.block j hj hnj)⟩,h4.grow hg4 hrt,h5⟩⟩
end Go.Proofs.YtmhfpjnkjlhbpaaGreatDoor
