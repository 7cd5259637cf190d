/- core.Step, path by path. core.Step, path by path: asks or not. -/
import Derived.Test.YtmhfpjnkjlhbpaaGreatDoorQj12
import Derived.Test.YtmhfpjnkjlhbpaaGreatDoorQj11
namespace Go.Proofs.YtmhfpjnkjlhbpaaGreatDoor
open Go.ChangeShapes Go.WideShapes Go.ChangeAt Go.RowKit Go.Deep
set_option linter.unusedVariables false
set_option maxRecDepth 100000
set_option linter.unusedSimpArgs false
set_option maxHeartbeats 3000000 in
theorem step_stopped {σ:Type} {O:Ops σ} {V:Pv} {Inv:σ->(Nat->Prop)->World->Prop} {can:Nat->σ->Prop} (hP:PortOk O V Inv can) (n:Nat) (s:σ) (own:Nat->Prop) (t:Th) (c:Cd) (W:World)
 (hI:Inv s own W) (hT:Tab W) (hca:c.At W) (hco:c.Ok) (hst:t.st≠0):
 Calls Tryz.prog 126 #[t.val,c.val,V.val O.size] W fun e W'=>e= .returned (t:Th).val/\Moves Inv (s) own W W':=by
 obtain ⟨tb,rb,W3,W4,htb,hW3,hsz3,hW4,hB3,hB4,T3,P3,R3,T4,P4,R4,hM,hca4,hT4,hrb,htb2,hrb4,hI4,hlt⟩:=step_boxes hP s own t c W hI hT hca
 unfold thArr Pv.arr th0 Fv.val at hW3
 unfold rnArr Fv.val at hW4
 have HX:=Lib.hid (And.intro hI (And.intro hB3 (And.intro hrb hlt)))
 have c0:W3.cell? ⟨tb,0,none⟩=some (.int .i64 t.pc):=(T3.cell 0).trans rfl
 have c1:W3.cell? ⟨tb,1,none⟩=some (.int .u32 (t.regs 0)):=(T3.cell 1).trans rfl
 have c2:W3.cell? ⟨tb,2,none⟩=some (.int .u32 (t.regs 1)):=(T3.cell 2).trans rfl
 have c3:W3.cell? ⟨tb,3,none⟩=some (.int .u32 (t.regs 2)):=(T3.cell 3).trans rfl
 have c4:W3.cell? ⟨tb,4,none⟩=some (.int .u32 (t.regs 3)):=(T3.cell 4).trans rfl
 have c5:W3.cell? ⟨tb,5,none⟩=some (.int .u32 (t.regs 4)):=(T3.cell 5).trans rfl
 have c6:W3.cell? ⟨tb,6,none⟩=some (.int .u32 (t.regs 5)):=(T3.cell 6).trans rfl
 have c7:W3.cell? ⟨tb,7,none⟩=some (.int .u32 (t.regs 6)):=(T3.cell 7).trans rfl
 have c8:W3.cell? ⟨tb,8,none⟩=some (.int .u32 (t.regs 7)):=(T3.cell 8).trans rfl
 have c9:W3.cell? ⟨tb,9,none⟩=some (.int .i64 t.st):=(T3.cell 9).trans rfl
 have HP:=Lib.hid hP
 clear hB3 hB4 T4 P4 R4 hM hca4 hT4 hca hT hI hI4 hW4 hsz3 P3 T3 hlt hP hrb4 hrb hco
 unfold Th.val Cd.val Pv.val Fv.val
 go_enter Tryz.func126,Tryz.ntmps126
 go_wp2_with (refine wpList_store_row rfl 124 (.tmp 6) (.tmp 12) rfl _ rfl (thArr t) rfl 124 _ R3 rfl th_info (th_one _) ?_;intro W9 hb9 hg9)
 exact bodyPost_ret (results_cell Tryz.results126 _ _ _ _ rfl (run_row _ _ _ _ _ _ hb9 Tryz.underlying124 rfl th_info)) rfl ⟨rfl,by
  obtain ⟨hI,hB3,hrb,hlt⟩:=HX.out
  have hno: ¬own (tb+1+1):=fun h=>by have :=hlt _ h;omega
  subst htb
  exact ⟨own,HP.out.keep s own W _ hI ((Stay.refl own W).grownB hlt hB3 hg9 hno),fun j h=> .inl h,(KeepOut.of_below (own:=own) hB3).grown hg9 (by omega)⟩⟩
set_option maxHeartbeats 3000000 in
theorem step_out {σ:Type} {O:Ops σ} {V:Pv} {Inv:σ->(Nat->Prop)->World->Prop} {can:Nat->σ->Prop} (hP:PortOk O V Inv can) (n:Nat) (s:σ) (own:Nat->Prop) (t:Th) (c:Cd) (W:World)
 (hI:Inv s own W) (hT:Tab W) (hca:c.At W) (hco:c.Ok) (hst:t.st=0) (hpc:t.pc<0∨(c.len:Int)<=t.pc) (hc:can (n+1) s):
 Calls Tryz.prog 126 #[t.val,c.val,V.val O.size] W fun e W'=>e= .returned ({t with st:=2}:Th).val/\Moves Inv (O.note s ⟨12,0,t.pc,0,0,0,0,false⟩) own W W':=by
 obtain ⟨pc,regs,st⟩:=t
 dsimp only at*
 subst hst
 obtain ⟨tb,rb,W3,W4,htb,hW3,hsz3,hW4,hB3,hB4,T3,P3,R3,T4,P4,R4,hM,hca4,hT4,hrb,htb2,hrb4,hI4,hlt⟩:=step_boxes hP s own ⟨pc,regs,0⟩ c W hI hT hca
 unfold thArr Pv.arr th0 Fv.val at hW3
 unfold rnArr Fv.val at hW4
 have HX:=Lib.hid (And.intro hP (And.intro hI (And.intro hB4 (And.intro hrb hrb4))))
 have c0:W3.cell? ⟨tb,0,none⟩=some (.int .i64 pc):=(T3.cell 0).trans rfl
 have c1:W3.cell? ⟨tb,1,none⟩=some (.int .u32 (regs 0)):=(T3.cell 1).trans rfl
 have c2:W3.cell? ⟨tb,2,none⟩=some (.int .u32 (regs 1)):=(T3.cell 2).trans rfl
 have c3:W3.cell? ⟨tb,3,none⟩=some (.int .u32 (regs 2)):=(T3.cell 3).trans rfl
 have c4:W3.cell? ⟨tb,4,none⟩=some (.int .u32 (regs 3)):=(T3.cell 4).trans rfl
 have c5:W3.cell? ⟨tb,5,none⟩=some (.int .u32 (regs 4)):=(T3.cell 5).trans rfl
 have c6:W3.cell? ⟨tb,6,none⟩=some (.int .u32 (regs 5)):=(T3.cell 6).trans rfl
 have c7:W3.cell? ⟨tb,7,none⟩=some (.int .u32 (regs 6)):=(T3.cell 7).trans rfl
 have c8:W3.cell? ⟨tb,8,none⟩=some (.int .u32 (regs 7)):=(T3.cell 8).trans rfl
 have c9:W3.cell? ⟨tb,9,none⟩=some (.int .i64 0):=(T3.cell 9).trans rfl
 have p0:W3.cell? ⟨tb+1,0,none⟩=some (.int .i64 (O.size:Int)):=(P3.cell 0).trans rfl
 have p1:W3.cell? ⟨tb+1,1,none⟩=some (.func (.func V.load.k) V.load.f V.load.c):=(P3.cell 1).trans rfl
 have p2:W3.cell? ⟨tb+1,2,none⟩=some (.func (.func V.room.k) V.room.f V.room.c):=(P3.cell 2).trans rfl
 have p3:W3.cell? ⟨tb+1,3,none⟩=some (.func (.func V.store.k) V.store.f V.store.c):=(P3.cell 3).trans rfl
 have p4:W3.cell? ⟨tb+1,4,none⟩=some (.func (.func V.empty.k) V.empty.f V.empty.c):=(P3.cell 4).trans rfl
 have p5:W3.cell? ⟨tb+1,5,none⟩=some (.func (.func V.flush.k) V.flush.f V.flush.c):=(P3.cell 5).trans rfl
 have p6:W3.cell? ⟨tb+1,6,none⟩=some (.func (.func V.swap.k) V.swap.f V.swap.c):=(P3.cell 6).trans rfl
 have p7:W3.cell? ⟨tb+1,7,none⟩=some (.func (.func V.sleep.k) V.sleep.f V.sleep.c):=(P3.cell 7).trans rfl
 have p8:W3.cell? ⟨tb+1,8,none⟩=some (.func (.func V.wake.k) V.wake.f V.wake.c):=(P3.cell 8).trans rfl
 have p9:W3.cell? ⟨tb+1,9,none⟩=some (.func (.func V.remote.k) V.remote.f V.remote.c):=(P3.cell 9).trans rfl
 have p10:W3.cell? ⟨tb+1,10,none⟩=some (.func (.func V.note.k) V.note.f V.note.c):=(P3.cell 10).trans rfl
 have d0:W4.cell? ⟨tb,0,none⟩=some (.int .i64 pc):=(T4.cell 0).trans rfl
 have hH:=hM.then_ (t':=⟨pc,regs,2⟩) (fun own1 k1 k2=>halts_any hP n s own1 rb ⟨pc,regs,0⟩ ins0 0 W4 hM.rn k1 k2 hc)
 dsimp only at hH
 have HR:=Lib.hid (And.intro R4 (And.intro hlt hrb))
 clear hB3 hB4 hca hT hI hlt hI4 hrb hrb4 T3 P3 R3 T4 P4 R4 hM hca4 hT4 hco hP hc
 unfold Th.val Cd.val Pv.val Fv.val
 dsimp only at hW3 hW4⊢
 rcases (by omega:pc<0∨(0<=pc/\(c.len:Int)<=pc))with hneg|⟨hpos,hbig⟩
 ·clear hpc
  go_enter Tryz.func126,Tryz.ntmps126
  go_wp2_with fail
  refine hH.mono ?_
  rintro e W5 ⟨rfl,hM5⟩
  have R5:=hM5.blk HR.out.1 (fun h=>by have :=HR.out.2.1 _ h;omega) (by have :=HR.out.2.2;omega)
  have HM5:=Lib.hid hM5
  clear hH hM5 HR
  unfold Th.val
  dsimp only
  go_wp2_with (refine wpList_store_row rfl 124 (.tmp 6) (.tmp 28) rfl _ rfl (thArr (⟨pc,regs,2⟩:Th)) rfl 124 _ R5 rfl th_info (th_one _) ?_;intro W9 hb9 hg9)
  exact bodyPost_ret (results_cell Tryz.results126 _ _ _ _ rfl (run_row _ _ _ _ _ _ hb9 Tryz.underlying124 rfl th_info)) rfl ⟨rfl,by
   obtain ⟨hP,hI,hB4,hrb,hrb4⟩:=HX.out
   subst htb
   exact step_end hP hI hB4 HM5.out (by omega) (by omega) (by omega) hg9⟩
 ·have hnn: ¬pc<0:=by omega
  clear hpc hpos
  go_enter Tryz.func126,Tryz.ntmps126
  go_wp2_with fail
  refine hH.mono ?_
  rintro e W5 ⟨rfl,hM5⟩
  have R5:=hM5.blk HR.out.1 (fun h=>by have :=HR.out.2.1 _ h;omega) (by have :=HR.out.2.2;omega)
  have HM5:=Lib.hid hM5
  clear hH hM5 HR
  unfold Th.val
  dsimp only
  go_wp2_with (refine wpList_store_row rfl 124 (.tmp 6) (.tmp 28) rfl _ rfl (thArr (⟨pc,regs,2⟩:Th)) rfl 124 _ R5 rfl th_info (th_one _) ?_;intro W9 hb9 hg9)
  exact bodyPost_ret (results_cell Tryz.results126 _ _ _ _ rfl (run_row _ _ _ _ _ _ hb9 Tryz.underlying124 rfl th_info)) rfl ⟨rfl,by
   obtain ⟨hP,hI,hB4,hrb,hrb4⟩:=HX.out
   subst htb
   exact step_end hP hI hB4 HM5.out (by omega) (by omega) (by omega) hg9⟩
set_option maxHeartbeats 3000000 in
theorem step_wrong {σ:Type} {O:Ops σ} {V:Pv} {Inv:σ->(Nat->Prop)->World->Prop} {can:Nat->σ->Prop} (hP:PortOk O V Inv can) (n:Nat) (s:σ) (own:Nat->Prop) (t:Th) (c:Cd) (W:World)
 (hI:Inv s own W) (hT:Tab W) (hca:c.At W) (hco:c.Ok) (hst:t.st=0) (p:Nat) (hpc:t.pc=(p:Int)) (hp:p<c.len) (hr:rightB (c.F p) c.len=false) (hc:can (n+1) s):
 Calls Tryz.prog 126 #[t.val,c.val,V.val O.size] W fun e W'=>e= .returned ({t with st:=3}:Th).val/\Moves Inv (O.note s ⟨13,0,t.pc,0,0,0,0,false⟩) own W W':=by
 obtain ⟨pc,regs,st⟩:=t
 dsimp only at*
 subst hst
 subst hpc
 obtain ⟨tb,rb,W3,W4,htb,hW3,hsz3,hW4,hB3,hB4,T3,P3,R3,T4,P4,R4,hM,hca4,hT4,hrb,htb2,hrb4,hI4,hlt⟩:=step_boxes hP s own ⟨(p:Int),regs,0⟩ c W hI hT hca
 unfold thArr Pv.arr th0 Fv.val at hW3
 unfold rnArr Fv.val at hW4
 have HX:=Lib.hid (And.intro hP (And.intro hI (And.intro hB4 (And.intro hrb hrb4))))
 have c0:W3.cell? ⟨tb,0,none⟩=some (.int .i64 (p:Int)):=(T3.cell 0).trans rfl
 have c1:W3.cell? ⟨tb,1,none⟩=some (.int .u32 (regs 0)):=(T3.cell 1).trans rfl
 have c2:W3.cell? ⟨tb,2,none⟩=some (.int .u32 (regs 1)):=(T3.cell 2).trans rfl
 have c3:W3.cell? ⟨tb,3,none⟩=some (.int .u32 (regs 2)):=(T3.cell 3).trans rfl
 have c4:W3.cell? ⟨tb,4,none⟩=some (.int .u32 (regs 3)):=(T3.cell 4).trans rfl
 have c5:W3.cell? ⟨tb,5,none⟩=some (.int .u32 (regs 4)):=(T3.cell 5).trans rfl
 have c6:W3.cell? ⟨tb,6,none⟩=some (.int .u32 (regs 5)):=(T3.cell 6).trans rfl
 have c7:W3.cell? ⟨tb,7,none⟩=some (.int .u32 (regs 6)):=(T3.cell 7).trans rfl
 have c8:W3.cell? ⟨tb,8,none⟩=some (.int .u32 (regs 7)):=(T3.cell 8).trans rfl
 have c9:W3.cell? ⟨tb,9,none⟩=some (.int .i64 0):=(T3.cell 9).trans rfl
 have p0:W3.cell? ⟨tb+1,0,none⟩=some (.int .i64 (O.size:Int)):=(P3.cell 0).trans rfl
 have p1:W3.cell? ⟨tb+1,1,none⟩=some (.func (.func V.load.k) V.load.f V.load.c):=(P3.cell 1).trans rfl
 have p2:W3.cell? ⟨tb+1,2,none⟩=some (.func (.func V.room.k) V.room.f V.room.c):=(P3.cell 2).trans rfl
 have p3:W3.cell? ⟨tb+1,3,none⟩=some (.func (.func V.store.k) V.store.f V.store.c):=(P3.cell 3).trans rfl
 have p4:W3.cell? ⟨tb+1,4,none⟩=some (.func (.func V.empty.k) V.empty.f V.empty.c):=(P3.cell 4).trans rfl
 have p5:W3.cell? ⟨tb+1,5,none⟩=some (.func (.func V.flush.k) V.flush.f V.flush.c):=(P3.cell 5).trans rfl
 have p6:W3.cell? ⟨tb+1,6,none⟩=some (.func (.func V.swap.k) V.swap.f V.swap.c):=(P3.cell 6).trans rfl
 have p7:W3.cell? ⟨tb+1,7,none⟩=some (.func (.func V.sleep.k) V.sleep.f V.sleep.c):=(P3.cell 7).trans rfl
 have p8:W3.cell? ⟨tb+1,8,none⟩=some (.func (.func V.wake.k) V.wake.f V.wake.c):=(P3.cell 8).trans rfl
 have p9:W3.cell? ⟨tb+1,9,none⟩=some (.func (.func V.remote.k) V.remote.f V.remote.c):=(P3.cell 9).trans rfl
 have p10:W3.cell? ⟨tb+1,10,none⟩=some (.func (.func V.note.k) V.note.f V.note.c):=(P3.cell 10).trans rfl
 have d0:W4.cell? ⟨tb,0,none⟩=some (.int .i64 (p:Int)):=(T4.cell 0).trans rfl
 obtain ⟨b,off,hA,hblt,hcc⟩:=hca4 (by omega)
 have hi:=hco.ins p hp
 obtain ⟨i,hci⟩: ∃i,c.F p=i:=⟨_,rfl⟩
 have hcr:=hcc p hp
 dsimp only at hcr
 rw [hci]at hi hr hcr
 have hra:W4.rangeAt b (off+p*5) i.cells:=hcr
 have hcl:c.len<=c.cap:=hco.hl
 have hcm:c.cap<=9223372036854775807:=hco.hm
 have hM5:=hM.setIns hP i
 have hth:W4.there rb 10 i.cells.toArray.size:=hM.rn.thereI
 have hone:i.cells.toArray.all (·.oneCell')=true:=by simp [Ins.cells,Value.oneCell']
 obtain ⟨W5,hW5⟩: ∃W5,W4.setCells rb 10 i.cells=W5:=⟨_,rfl⟩
 rw [hW5]at hM5
 have hT5:=hM5.tab hP hI4 hT4 (by omega)
 have hrI:=hM5.rn.rangeI
 have hRt:=right_any i c.len hi (by omega) (by omega) W5 hT5
 rw [hr]at hRt
 have HR:=Lib.hid (And.intro R4 (And.intro hlt (And.intro hrb (And.intro P4 (And.intro hi (And.intro hI4 (And.intro hT4 T4)))))))
 have HM5:=Lib.hid (And.intro hM5 hT5)
 have hp1:(p:Int)<(c.len:Int):=by omega
 have hp0: ¬(c.len:Int)<=(p:Int):=by omega
 have hpn: ¬(p:Int)<0:=by omega
 have hnn:(0:Int)<=(p:Int):=by omega
 have HP:=Lib.hid (And.intro hP hc)
 clear hB3 hB4 hca hT hI hlt hI4 hrb hrb4 T3 P3 R3 T4 P4 R4 hM hT4 hco hP hc hM5 hT5 hcc hcr hr hp hi
 unfold Th.val Cd.val Pv.val Fv.val
 dsimp only at hW3 hW4⊢
 rw [hA]
 go_enter Tryz.func126,Tryz.ntmps126
 go_wp2_with (first
  |(refine wpList_load_mid rfl 75 (.tmp 33) rfl _ _ rfl i.cells _ (by simpa using hra) Tryz.underlying75 rfl (by kernel_rfl) ?_)
  |(refine wpList_store_mid rfl 75 (.tmp 36) (.tmp 34) rfl _ _ i.cells.toArray rfl rfl hth (by kernel_rfl) hone ?_;change wpList _ _ _ _ _ (W4.setCells rb 10 i.cells);rw [hW5])
  |(refine wpList_load_mid rfl 75 (.tmp 39) rfl _ _ rfl i.cells _ hrI Tryz.underlying75 rfl (by kernel_rfl) ?_))
 refine hRt.mono ?_
 rintro e W6 ⟨rfl,hb6⟩
 have hM6:=HM5.out.1.below HP.out.1 hb6
 have hT6:=HM5.out.2.step hb6
 clear hRt hb6 HM5 hth hone hra hrI c0 c1 c2 c3 c4 c5 c6 c7 c8 c9 p0 p1 p2 p3 p4 p5 p6 p7 p8 p9 p10 hW3 hW4 hW5 hca4 htb2 d0 hp1 hp0 hpn hnn hcl hcm hblt
 have hH:=hM6.then_ (t':=⟨(p:Int),regs,3⟩) (fun own1 k1 k2=>faults_any HP.out.1 n s own1 rb ⟨(p:Int),regs,0⟩ i 0 W6 hM6.rn k1 k2 HP.out.2)
 clear hM6 hT6
 go_wp2_with fail
 refine hH.mono ?_
 rintro e W5 ⟨rfl,hM5⟩
 have R5:=hM5.blk HR.out.1 (fun h=>by have :=HR.out.2.1 _ h;omega) (by have :=HR.out.2.2.1;omega)
 have HM5:=Lib.hid hM5
 clear hH hM5 HR
 unfold Th.val
 dsimp only
 go_wp2_with (refine wpList_store_row rfl 124 (.tmp 6) (.tmp 46) rfl _ rfl (thArr (⟨(p:Int),regs,3⟩:Th)) rfl 124 _ R5 rfl th_info (th_one _) ?_;intro W9 hb9 hg9)
 exact bodyPost_ret (results_cell Tryz.results126 _ _ _ _ rfl (run_row _ _ _ _ _ _ hb9 Tryz.underlying124 rfl th_info)) rfl ⟨rfl,by
  obtain ⟨hP,hI,hB4,hrb,hrb4⟩:=HX.out
  subst htb
  exact step_end hP hI hB4 HM5.out (by omega) (by omega) (by omega) hg9⟩
set_option maxHeartbeats 3000000 in
theorem step_far {σ:Type} {O:Ops σ} {V:Pv} {Inv:σ->(Nat->Prop)->World->Prop} {can:Nat->σ->Prop} (hP:PortOk O V Inv can) (n:Nat) (s:σ) (own:Nat->Prop) (t:Th) (c:Cd) (W:World)
 (hI:Inv s own W) (hT:Tab W) (hca:c.At W) (hco:c.Ok) (hst:t.st=0) (p:Nat) (hpc:t.pc=(p:Int)) (hp:p<c.len) (hr:rightB (c.F p) c.len=true) (hk:askB (c.F p).op=true) (hsz:(O.size:Int)<=9223372036854775807) (hbig:(O.size:Int)<=addrF t (c.F p)) (hc:can (n+1) s):
 Calls Tryz.prog 126 #[t.val,c.val,V.val O.size] W fun e W'=>e= .returned ({t with st:=3}:Th).val/\Moves Inv (O.note s ⟨13,0,t.pc,0,0,0,0,false⟩) own W W':=by
 obtain ⟨pc,regs,st⟩:=t
 dsimp only at*
 subst hst
 subst hpc
 obtain ⟨tb,rb,W3,W4,htb,hW3,hsz3,hW4,hB3,hB4,T3,P3,R3,T4,P4,R4,hM,hca4,hT4,hrb,htb2,hrb4,hI4,hlt⟩:=step_boxes hP s own ⟨(p:Int),regs,0⟩ c W hI hT hca
 unfold thArr Pv.arr th0 Fv.val at hW3
 unfold rnArr Fv.val at hW4
 have HX:=Lib.hid (And.intro hP (And.intro hI (And.intro hB4 (And.intro hrb hrb4))))
 have c0:W3.cell? ⟨tb,0,none⟩=some (.int .i64 (p:Int)):=(T3.cell 0).trans rfl
 have c1:W3.cell? ⟨tb,1,none⟩=some (.int .u32 (regs 0)):=(T3.cell 1).trans rfl
 have c2:W3.cell? ⟨tb,2,none⟩=some (.int .u32 (regs 1)):=(T3.cell 2).trans rfl
 have c3:W3.cell? ⟨tb,3,none⟩=some (.int .u32 (regs 2)):=(T3.cell 3).trans rfl
 have c4:W3.cell? ⟨tb,4,none⟩=some (.int .u32 (regs 3)):=(T3.cell 4).trans rfl
 have c5:W3.cell? ⟨tb,5,none⟩=some (.int .u32 (regs 4)):=(T3.cell 5).trans rfl
 have c6:W3.cell? ⟨tb,6,none⟩=some (.int .u32 (regs 5)):=(T3.cell 6).trans rfl
 have c7:W3.cell? ⟨tb,7,none⟩=some (.int .u32 (regs 6)):=(T3.cell 7).trans rfl
 have c8:W3.cell? ⟨tb,8,none⟩=some (.int .u32 (regs 7)):=(T3.cell 8).trans rfl
 have c9:W3.cell? ⟨tb,9,none⟩=some (.int .i64 0):=(T3.cell 9).trans rfl
 have p0:W3.cell? ⟨tb+1,0,none⟩=some (.int .i64 (O.size:Int)):=(P3.cell 0).trans rfl
 have p1:W3.cell? ⟨tb+1,1,none⟩=some (.func (.func V.load.k) V.load.f V.load.c):=(P3.cell 1).trans rfl
 have p2:W3.cell? ⟨tb+1,2,none⟩=some (.func (.func V.room.k) V.room.f V.room.c):=(P3.cell 2).trans rfl
 have p3:W3.cell? ⟨tb+1,3,none⟩=some (.func (.func V.store.k) V.store.f V.store.c):=(P3.cell 3).trans rfl
 have p4:W3.cell? ⟨tb+1,4,none⟩=some (.func (.func V.empty.k) V.empty.f V.empty.c):=(P3.cell 4).trans rfl
 have p5:W3.cell? ⟨tb+1,5,none⟩=some (.func (.func V.flush.k) V.flush.f V.flush.c):=(P3.cell 5).trans rfl
 have p6:W3.cell? ⟨tb+1,6,none⟩=some (.func (.func V.swap.k) V.swap.f V.swap.c):=(P3.cell 6).trans rfl
 have p7:W3.cell? ⟨tb+1,7,none⟩=some (.func (.func V.sleep.k) V.sleep.f V.sleep.c):=(P3.cell 7).trans rfl
 have p8:W3.cell? ⟨tb+1,8,none⟩=some (.func (.func V.wake.k) V.wake.f V.wake.c):=(P3.cell 8).trans rfl
 have p9:W3.cell? ⟨tb+1,9,none⟩=some (.func (.func V.remote.k) V.remote.f V.remote.c):=(P3.cell 9).trans rfl
 have p10:W3.cell? ⟨tb+1,10,none⟩=some (.func (.func V.note.k) V.note.f V.note.c):=(P3.cell 10).trans rfl
 have d0:W4.cell? ⟨tb,0,none⟩=some (.int .i64 (p:Int)):=(T4.cell 0).trans rfl
 obtain ⟨b,off,hA,hblt,hcc⟩:=hca4 (by omega)
 have hi:=hco.ins p hp
 obtain ⟨i,hci⟩: ∃i,c.F p=i:=⟨_,rfl⟩
 have hcr:=hcc p hp
 dsimp only at hcr
 rw [hci]at hi hr hcr hk hbig
 have hra:W4.rangeAt b (off+p*5) i.cells:=hcr
 have hcl:c.len<=c.cap:=hco.hl
 have hcm:c.cap<=9223372036854775807:=hco.hm
 have hM5:=hM.setIns hP i
 have hth:W4.there rb 10 i.cells.toArray.size:=hM.rn.thereI
 have hone:i.cells.toArray.all (·.oneCell')=true:=by simp [Ins.cells,Value.oneCell']
 obtain ⟨W5,hW5⟩: ∃W5,W4.setCells rb 10 i.cells=W5:=⟨_,rfl⟩
 rw [hW5]at hM5
 have hT5:=hM5.tab hP hI4 hT4 (by omega)
 have hrI:=hM5.rn.rangeI
 have hRt:=right_any i c.len hi (by omega) (by omega) W5 hT5
 rw [hr]at hRt
 have HR:=Lib.hid (And.intro R4 (And.intro hlt (And.intro hrb (And.intro P4 (And.intro hi (And.intro hI4 (And.intro hT4 T4)))))))
 have HM5:=Lib.hid (And.intro hM5 hT5)
 have hp1:(p:Int)<(c.len:Int):=by omega
 have hp0: ¬(c.len:Int)<=(p:Int):=by omega
 have hpn: ¬(p:Int)<0:=by omega
 have hnn:(0:Int)<=(p:Int):=by omega
 have HP:=Lib.hid (And.intro hP hc)
 clear hB3 hB4 hca hT hI hlt hI4 hrb hrb4 T3 P3 R3 T4 P4 R4 hM hT4 hco hP hc hM5 hT5 hcc hcr hr hp hi
 unfold Th.val Cd.val Pv.val Fv.val
 dsimp only at hW3 hW4⊢
 rw [hA]
 go_enter Tryz.func126,Tryz.ntmps126
 go_wp2_with (first
  |(refine wpList_load_mid rfl 75 (.tmp 33) rfl _ _ rfl i.cells _ (by simpa using hra) Tryz.underlying75 rfl (by kernel_rfl) ?_)
  |(refine wpList_store_mid rfl 75 (.tmp 36) (.tmp 34) rfl _ _ i.cells.toArray rfl rfl hth (by kernel_rfl) hone ?_;change wpList _ _ _ _ _ (W4.setCells rb 10 i.cells);rw [hW5])
  |(refine wpList_load_mid rfl 75 (.tmp 39) rfl _ _ rfl i.cells _ hrI Tryz.underlying75 rfl (by kernel_rfl) ?_))
 refine hRt.mono ?_
 rintro e W6 ⟨rfl,hb6⟩
 have hM6:=HM5.out.1.below HP.out.1 hb6
 have hT6:=HM5.out.2.step hb6
 clear hRt hb6 HM5 hth hone hra hrI c0 c1 c2 c3 c4 c5 c6 c7 c8 c9 p0 p1 p2 p3 p4 p5 p6 p7 p8 p9 p10 hW3 hW4 hW5 hca4 htb2 d0 hp1 hp0 hpn hnn hcl hcm hblt
 have hAs:=asks_any i.op W6 hT6
 rw [hk]at hAs
 have q10:=hM6.rn.ic (j:=0) rfl
 have HM6:=Lib.hid (And.intro hM6 hT6)
 clear hM6 hT6
 go_wp2_with fail
 refine hAs.mono ?_
 rintro e W7 ⟨rfl,hb7⟩
 have hM7:=HM6.out.1.below HP.out.1 hb7
 have hT7:=HM6.out.2.step hb7
 clear hAs q10 hb7 HM6
 have hno: ¬own tb:=fun h=>by have :=HR.out.2.1 _ h;omega
 have T7:=hM7.blk HR.out.2.2.2.2.2.2.2 hno (by have :=HR.out.2.2.1;omega)
 have c0:W7.cell? ⟨tb,0,none⟩=some (.int .i64 (p:Int)):=(T7.cell 0).trans rfl
 have c1:W7.cell? ⟨tb,1,none⟩=some (.int .u32 (regs 0)):=(T7.cell 1).trans rfl
 have c2:W7.cell? ⟨tb,2,none⟩=some (.int .u32 (regs 1)):=(T7.cell 2).trans rfl
 have c3:W7.cell? ⟨tb,3,none⟩=some (.int .u32 (regs 2)):=(T7.cell 3).trans rfl
 have c4:W7.cell? ⟨tb,4,none⟩=some (.int .u32 (regs 3)):=(T7.cell 4).trans rfl
 have c5:W7.cell? ⟨tb,5,none⟩=some (.int .u32 (regs 4)):=(T7.cell 5).trans rfl
 have c6:W7.cell? ⟨tb,6,none⟩=some (.int .u32 (regs 5)):=(T7.cell 6).trans rfl
 have c7:W7.cell? ⟨tb,7,none⟩=some (.int .u32 (regs 6)):=(T7.cell 7).trans rfl
 have c8:W7.cell? ⟨tb,8,none⟩=some (.int .u32 (regs 7)):=(T7.cell 8).trans rfl
 have c9:W7.cell? ⟨tb,9,none⟩=some (.int .i64 0):=(T7.cell 9).trans rfl
 have e0:=hM7.rn.ic (j:=0) rfl
 have e1:=hM7.rn.ic (j:=1) rfl
 have e2:=hM7.rn.ic (j:=2) rfl
 have e3:=hM7.rn.ic (j:=3) rfl
 have e4:=hM7.rn.ic (j:=4) rfl
 obtain ⟨had0,had1⟩:=addrF_u32 ⟨(p:Int),regs,0⟩ i HR.out.2.2.2.2.1.k0 HR.out.2.2.2.2.1.k1
 have hAd:=address_any ⟨(p:Int),regs,0⟩ i HR.out.2.2.2.2.1.k0 HR.out.2.2.2.2.1.k1 W7.drew
 obtain ⟨ad,hade⟩: ∃ad,addrF ⟨(p:Int),regs,0⟩ i=ad:=⟨_,rfl⟩
 rw [hade]at hAd had0 had1 hbig
 have HM7:=Lib.hid (And.intro (hM7.drew HP.out.1) hT7.drew)
 clear T7 hno hM7 hT7
 unfold Th.val at hAd
 dsimp only at hAd
 go_wp2
 go_still_tail 5,(by kernel_rfl)
 change wpList _ _ _ _ _ W7.drew
 clear c0 c1 c2 c3 c4 c5 c6 c7 c8 c9 e0 e1 e2 e3 e4
 generalize W7.drew=W8 at hAd HM7⊢
 go_wp2_with fail
 refine hAd.mono ?_
 rintro e W9 ⟨rfl,hb9⟩
 have hM9:=HM7.out.1.below HP.out.1 hb9
 have hT9:=HM7.out.2.step hb9
 have P9:=hM9.blk HR.out.2.2.2.1 (fun h=>by have :=HR.out.2.1 _ h;omega) (by have :=HR.out.2.2.1;omega)
 have p0:W9.cell? ⟨tb+1,0,none⟩=some (.int .i64 (O.size:Int)):=(P9.cell 0).trans rfl
 clear hAd HM7 hb9 P9
 have hH:=hM9.then_ (t':=⟨(p:Int),regs,3⟩) (fun own1 k1 k2=>faults_any HP.out.1 n s own1 rb ⟨(p:Int),regs,0⟩ i 0 W9 hM9.rn k1 k2 HP.out.2)
 clear hM9 hT9
 have hs0:(0:Int)<=(O.size:Int):=by omega
 have had2:ad<=18446744073709551615:=by omega
 have hsz2:(O.size:Int)<=18446744073709551615:=by omega
 go_wp2_with fail
 refine hH.mono ?_
 rintro e W5 ⟨rfl,hM5⟩
 have R5:=hM5.blk HR.out.1 (fun h=>by have :=HR.out.2.1 _ h;omega) (by have :=HR.out.2.2.1;omega)
 have HM5:=Lib.hid hM5
 clear hH hM5 HR
 unfold Th.val
 dsimp only
 go_wp2_with (refine wpList_store_row rfl 124 (.tmp 6) (.tmp 66) rfl _ rfl (thArr (⟨(p:Int),regs,3⟩:Th)) rfl 124 _ R5 rfl th_info (th_one _) ?_;intro W9 hb9 hg9)
 exact bodyPost_ret (results_cell Tryz.results126 _ _ _ _ rfl (run_row _ _ _ _ _ _ hb9 Tryz.underlying124 rfl th_info)) rfl ⟨rfl,by
  obtain ⟨hP,hI,hB4,hrb,hrb4⟩:=HX.out
  subst htb
  exact step_end hP hI hB4 HM5.out (by omega) (by omega) (by omega) hg9⟩
end Go.Proofs.YtmhfpjnkjlhbpaaGreatDoor
