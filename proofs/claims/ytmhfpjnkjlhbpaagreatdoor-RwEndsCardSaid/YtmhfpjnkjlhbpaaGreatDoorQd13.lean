/- core.Step, path by path: the instruction is carried out. core.Step, path by path: the instruction is carried out. core.Step, path by path: the instruction is carried out. -/
import Derived.Test.YtmhfpjnkjlhbpaaGreatDoorQd11
import Derived.Test.YtmhfpjnkjlhbpaaGreatDoorQd10
namespace Go.Proofs.YtmhfpjnkjlhbpaaGreatDoor
open Go.ChangeShapes Go.WideShapes Go.ChangeAt Go.RowKit Go.Deep
set_option linter.unusedVariables false
set_option maxRecDepth 100000
set_option linter.unusedSimpArgs false
set_option maxHeartbeats 3000000 in
theorem step_halt {σ:Type} {O:Ops σ} {V:Pv} {Inv:σ->(Nat->Prop)->World->Prop} {can:Nat->σ->Prop} (hP:PortOk O V Inv can) (n:Nat) (s:σ) (own:Nat->Prop) (t:Th) (c:Cd) (W:World)
 (hI:Inv s own W) (hT:Tab W) (hca:c.At W) (hco:c.Ok) (hst:t.st=0) (p:Nat) (hpc:t.pc=(p:Int)) (hp:p<c.len) (hr:rightB (c.F p) c.len=true) (hk:askB (c.F p).op=false) (hdr: ¬DrainP (c.F p).op) (h17:(c.F p).op≠17) (h0:(c.F p).op=0) (hc:can (n+3) s):
 Calls Tryz.prog 126 #[t.val,c.val,V.val O.size] W fun e W'=>e= .returned ({t with st:=2}:Th).val/\Moves Inv (O.note s ⟨12,0,t.pc,0,0,0,0,false⟩) own W W':=by
 obtain ⟨pc,regs,st⟩:=t
 dsimp only at*
 subst hst
 subst hpc
 obtain ⟨tb,rb,W3,W4,htb,hW3,hsz3,hW4,hB3,hB4,T3,P3,R3,T4,P4,R4,hM,hca4,hT4,hrb,htb2,hrb4,hI4,hlt⟩:=step_boxes hP s own ⟨(p:Int),regs,0⟩ c W hI hT hca
 unfold thArr Pv.arr th0 Fv.val at hW3
 unfold rnArr Fv.val at hW4
 have HX:=Lib.hid (And.intro hP (And.intro hI (And.intro hB4 (And.intro hrb hrb4))))
 have c0:W3.cell? ⟨tb,0,none⟩=some (.int .i64 (p:Int)):=(T3.cell 0).trans rfl
 have c1:W3.cell? ⟨tb,1,none⟩=some (.int .u32 (regs 0)):=(T3.cell 1).trans rfl
 have c2:W3.cell? ⟨tb,2,none⟩=some (.int .u32 (regs 1)):=(T3.cell 2).trans rfl
 have c3:W3.cell? ⟨tb,3,none⟩=some (.int .u32 (regs 2)):=(T3.cell 3).trans rfl
 have c4:W3.cell? ⟨tb,4,none⟩=some (.int .u32 (regs 3)):=(T3.cell 4).trans rfl
 have c5:W3.cell? ⟨tb,5,none⟩=some (.int .u32 (regs 4)):=(T3.cell 5).trans rfl
 have c6:W3.cell? ⟨tb,6,none⟩=some (.int .u32 (regs 5)):=(T3.cell 6).trans rfl
 have c7:W3.cell? ⟨tb,7,none⟩=some (.int .u32 (regs 6)):=(T3.cell 7).trans rfl
 have c8:W3.cell? ⟨tb,8,none⟩=some (.int .u32 (regs 7)):=(T3.cell 8).trans rfl
 have c9:W3.cell? ⟨tb,9,none⟩=some (.int .i64 0):=(T3.cell 9).trans rfl
 have p0:W3.cell? ⟨tb+1,0,none⟩=some (.int .i64 (O.size:Int)):=(P3.cell 0).trans rfl
 have p1:W3.cell? ⟨tb+1,1,none⟩=some (.func (.func V.load.k) V.load.f V.load.c):=(P3.cell 1).trans rfl
 have p2:W3.cell? ⟨tb+1,2,none⟩=some (.func (.func V.room.k) V.room.f V.room.c):=(P3.cell 2).trans rfl
 have p3:W3.cell? ⟨tb+1,3,none⟩=some (.func (.func V.store.k) V.store.f V.store.c):=(P3.cell 3).trans rfl
 have p4:W3.cell? ⟨tb+1,4,none⟩=some (.func (.func V.empty.k) V.empty.f V.empty.c):=(P3.cell 4).trans rfl
 have p5:W3.cell? ⟨tb+1,5,none⟩=some (.func (.func V.flush.k) V.flush.f V.flush.c):=(P3.cell 5).trans rfl
 have p6:W3.cell? ⟨tb+1,6,none⟩=some (.func (.func V.swap.k) V.swap.f V.swap.c):=(P3.cell 6).trans rfl
 have p7:W3.cell? ⟨tb+1,7,none⟩=some (.func (.func V.sleep.k) V.sleep.f V.sleep.c):=(P3.cell 7).trans rfl
 have p8:W3.cell? ⟨tb+1,8,none⟩=some (.func (.func V.wake.k) V.wake.f V.wake.c):=(P3.cell 8).trans rfl
 have p9:W3.cell? ⟨tb+1,9,none⟩=some (.func (.func V.remote.k) V.remote.f V.remote.c):=(P3.cell 9).trans rfl
 have p10:W3.cell? ⟨tb+1,10,none⟩=some (.func (.func V.note.k) V.note.f V.note.c):=(P3.cell 10).trans rfl
 have d0:W4.cell? ⟨tb,0,none⟩=some (.int .i64 (p:Int)):=(T4.cell 0).trans rfl
 obtain ⟨b,off,hA,hblt,hcc⟩:=hca4 (by omega)
 have hi:=hco.ins p hp
 obtain ⟨i,hci⟩: ∃i,c.F p=i:=⟨_,rfl⟩
 have hcr:=hcc p hp
 dsimp only at hcr
 rw [hci]at hi hr hcr hk h0 hdr h17
 have HF:=Lib.hid (right_fields i _ hr)
 have HPL:=Lib.hid (And.intro hp (And.intro hco.hl hco.hm))
 have H00:=Lib.hid h0
 clear h0
 have hra:W4.rangeAt b (off+p*5) i.cells:=hcr
 have hcl:c.len<=c.cap:=hco.hl
 have hcm:c.cap<=9223372036854775807:=hco.hm
 have hM5:=hM.setIns hP i
 have hth:W4.there rb 10 i.cells.toArray.size:=hM.rn.thereI
 have hone:i.cells.toArray.all (·.oneCell')=true:=by simp [Ins.cells,Value.oneCell']
 obtain ⟨W5,hW5⟩: ∃W5,W4.setCells rb 10 i.cells=W5:=⟨_,rfl⟩
 rw [hW5]at hM5
 have hT5:=hM5.tab hP hI4 hT4 (by omega)
 have hrI:=hM5.rn.rangeI
 have hRt:=right_any i c.len hi (by omega) (by omega) W5 hT5
 rw [hr]at hRt
 have HR:=Lib.hid (And.intro R4 (And.intro hlt (And.intro hrb (And.intro P4 (And.intro hi (And.intro hI4 (And.intro hT4 T4)))))))
 have HM5:=Lib.hid (And.intro hM5 hT5)
 have hp1:(p:Int)<(c.len:Int):=by omega
 have hp0: ¬(c.len:Int)<=(p:Int):=by omega
 have hpn: ¬(p:Int)<0:=by omega
 have hnn:(0:Int)<=(p:Int):=by omega
 have HP:=Lib.hid (And.intro hP hc)
 clear hB3 hB4 hca hT hI hlt hI4 hrb hrb4 T3 P3 R3 T4 P4 R4 hM hT4 hco hP hc hM5 hT5 hcc hcr hr hp hi
 unfold Th.val Cd.val Pv.val Fv.val
 dsimp only at hW3 hW4⊢
 rw [hA]
 go_enter Tryz.func126,Tryz.ntmps126
 go_wp2_with (first
  |(refine wpList_load_mid rfl 75 (.tmp 33) rfl _ _ rfl i.cells _ (by simpa using hra) Tryz.underlying75 rfl (by kernel_rfl) ?_)
  |(refine wpList_store_mid rfl 75 (.tmp 36) (.tmp 34) rfl _ _ i.cells.toArray rfl rfl hth (by kernel_rfl) hone ?_;change wpList _ _ _ _ _ (W4.setCells rb 10 i.cells);rw [hW5])
  |(refine wpList_load_mid rfl 75 (.tmp 39) rfl _ _ rfl i.cells _ hrI Tryz.underlying75 rfl (by kernel_rfl) ?_))
 refine hRt.mono ?_
 rintro e W6 ⟨rfl,hb6⟩
 have hM6:=HM5.out.1.below HP.out.1 hb6
 have hT6:=HM5.out.2.step hb6
 clear hRt hb6 HM5 hth hone hra hrI c0 c1 c2 c3 c4 c5 c6 c7 c8 c9 p0 p1 p2 p3 p4 p5 p6 p7 p8 p9 p10 hW3 hW4 hW5 hca4 htb2 d0 hp1 hp0 hpn hnn hcl hcm hblt
 have h17': ¬i.op=17:=h17
 have hAs:=asks_any i.op W6 hT6
 rw [hk]at hAs
 have q10:=hM6.rn.ic (j:=0) rfl
 have HM6:=Lib.hid (And.intro hM6 hT6)
 clear hM6 hT6
 go_wp2_with fail
 refine hAs.mono ?_
 rintro e W7 ⟨rfl,hb7⟩
 have hM7:=HM6.out.1.below HP.out.1 hb7
 have hT7:=HM6.out.2.step hb7
 clear hAs q10 hb7 HM6
 have q10:=hM7.rn.ic (j:=0) rfl
 have hDr:=drains_v i.op W7
 have HMa:=Lib.hid (And.intro hM7 hT7)
 clear hM7 hT7
 rw [decide_eq_false hdr]at hDr
 go_wp2_with fail
 refine hDr.mono ?_
 rintro e W12 ⟨rfl,hb11⟩
 have hM12:=HMa.out.1.below HP.out.1 hb11
 have hT12:=HMa.out.2.step hb11
 clear hDr HMa hb11
 try clear c26 f26 p0 hs0 had2 hsz2 had0 had1 hsz
 try clear q10
 have q12:=hM12.rn.ic (j:=0) rfl
 rw [H00.out]at q12
 have hH:=hM12.then_ (t':=⟨(p:Int),regs,2⟩) (fun own1 k1 k2=>halts_any HP.out.1 (n+2) s own1 rb ⟨(p:Int),regs,0⟩ i 0 W12 hM12.rn k1 k2 HP.out.2)
 clear hM12 hT12
 go_wp2_with fail
 refine hH.mono ?_
 rintro e W5 ⟨rfl,hM5⟩
 have R5:=hM5.blk HR.out.1 (fun h=>by have :=HR.out.2.1 _ h;omega) (by have :=HR.out.2.2.1;omega)
 have HM5:=Lib.hid hM5
 clear hH hM5 HR
 unfold Th.val
 dsimp only
 go_wp2_with (refine wpList_store_row rfl 124 (.tmp 6) (.tmp 112) rfl _ rfl (thArr (⟨(p:Int),regs,2⟩:Th)) rfl 124 _ R5 rfl th_info (th_one _) ?_;intro W9 hb9 hg9)
 exact bodyPost_ret (results_cell Tryz.results126 _ _ _ _ rfl (run_row _ _ _ _ _ _ hb9 Tryz.underlying124 rfl th_info)) rfl ⟨rfl,by
  obtain ⟨hP,hI,hB4,hrb,hrb4⟩:=HX.out
  subst htb
  exact step_end hP hI hB4 HM5.out (by omega) (by omega) (by omega) hg9⟩
set_option maxHeartbeats 3000000 in
theorem step_jump_yes {σ:Type} {O:Ops σ} {V:Pv} {Inv:σ->(Nat->Prop)->World->Prop} {can:Nat->σ->Prop} (hP:PortOk O V Inv can) (n:Nat) (s:σ) (own:Nat->Prop) (t:Th) (c:Cd) (W:World)
 (hI:Inv s own W) (hT:Tab W) (hca:c.At W) (hco:c.Ok) (hst:t.st=0) (p:Nat) (hpc:t.pc=(p:Int)) (hp:p<c.len) (hr:rightB (c.F p) c.len=true) (hk:askB (c.F p).op=false) (hdr: ¬DrainP (c.F p).op) (h17:(c.F p).op≠17) (h0:(c.F p).op≠0) (hj:jmpB (c.F p).op=true) (hgoes:goesB (c.F p).op (t.regs (c.F p).a.toNat)=true) (hc:can (n+3) s):
 Calls Tryz.prog 126 #[t.val,c.val,V.val O.size] W fun e W'=>e= .returned ({t with pc:=(c.F p).k}:Th).val/\Moves Inv (s) own W W':=by
 obtain ⟨pc,regs,st⟩:=t
 dsimp only at*
 subst hst
 subst hpc
 obtain ⟨tb,rb,W3,W4,htb,hW3,hsz3,hW4,hB3,hB4,T3,P3,R3,T4,P4,R4,hM,hca4,hT4,hrb,htb2,hrb4,hI4,hlt⟩:=step_boxes hP s own ⟨(p:Int),regs,0⟩ c W hI hT hca
 unfold thArr Pv.arr th0 Fv.val at hW3
 unfold rnArr Fv.val at hW4
 have HX:=Lib.hid (And.intro hP (And.intro hI (And.intro hB4 (And.intro hrb hrb4))))
 have c0:W3.cell? ⟨tb,0,none⟩=some (.int .i64 (p:Int)):=(T3.cell 0).trans rfl
 have c1:W3.cell? ⟨tb,1,none⟩=some (.int .u32 (regs 0)):=(T3.cell 1).trans rfl
 have c2:W3.cell? ⟨tb,2,none⟩=some (.int .u32 (regs 1)):=(T3.cell 2).trans rfl
 have c3:W3.cell? ⟨tb,3,none⟩=some (.int .u32 (regs 2)):=(T3.cell 3).trans rfl
 have c4:W3.cell? ⟨tb,4,none⟩=some (.int .u32 (regs 3)):=(T3.cell 4).trans rfl
 have c5:W3.cell? ⟨tb,5,none⟩=some (.int .u32 (regs 4)):=(T3.cell 5).trans rfl
 have c6:W3.cell? ⟨tb,6,none⟩=some (.int .u32 (regs 5)):=(T3.cell 6).trans rfl
 have c7:W3.cell? ⟨tb,7,none⟩=some (.int .u32 (regs 6)):=(T3.cell 7).trans rfl
 have c8:W3.cell? ⟨tb,8,none⟩=some (.int .u32 (regs 7)):=(T3.cell 8).trans rfl
 have c9:W3.cell? ⟨tb,9,none⟩=some (.int .i64 0):=(T3.cell 9).trans rfl
 have p0:W3.cell? ⟨tb+1,0,none⟩=some (.int .i64 (O.size:Int)):=(P3.cell 0).trans rfl
 have p1:W3.cell? ⟨tb+1,1,none⟩=some (.func (.func V.load.k) V.load.f V.load.c):=(P3.cell 1).trans rfl
 have p2:W3.cell? ⟨tb+1,2,none⟩=some (.func (.func V.room.k) V.room.f V.room.c):=(P3.cell 2).trans rfl
 have p3:W3.cell? ⟨tb+1,3,none⟩=some (.func (.func V.store.k) V.store.f V.store.c):=(P3.cell 3).trans rfl
 have p4:W3.cell? ⟨tb+1,4,none⟩=some (.func (.func V.empty.k) V.empty.f V.empty.c):=(P3.cell 4).trans rfl
 have p5:W3.cell? ⟨tb+1,5,none⟩=some (.func (.func V.flush.k) V.flush.f V.flush.c):=(P3.cell 5).trans rfl
 have p6:W3.cell? ⟨tb+1,6,none⟩=some (.func (.func V.swap.k) V.swap.f V.swap.c):=(P3.cell 6).trans rfl
 have p7:W3.cell? ⟨tb+1,7,none⟩=some (.func (.func V.sleep.k) V.sleep.f V.sleep.c):=(P3.cell 7).trans rfl
 have p8:W3.cell? ⟨tb+1,8,none⟩=some (.func (.func V.wake.k) V.wake.f V.wake.c):=(P3.cell 8).trans rfl
 have p9:W3.cell? ⟨tb+1,9,none⟩=some (.func (.func V.remote.k) V.remote.f V.remote.c):=(P3.cell 9).trans rfl
 have p10:W3.cell? ⟨tb+1,10,none⟩=some (.func (.func V.note.k) V.note.f V.note.c):=(P3.cell 10).trans rfl
 have d0:W4.cell? ⟨tb,0,none⟩=some (.int .i64 (p:Int)):=(T4.cell 0).trans rfl
 obtain ⟨b,off,hA,hblt,hcc⟩:=hca4 (by omega)
 have hi:=hco.ins p hp
 obtain ⟨i,hci⟩: ∃i,c.F p=i:=⟨_,rfl⟩
 have hcr:=hcc p hp
 dsimp only at hcr
 rw [hci]at hi hr hcr hk h0 hj hgoes⊢hdr h17
 have HF:=Lib.hid (right_fields i _ hr)
 have HPL:=Lib.hid (And.intro hp (And.intro hco.hl hco.hm))
 have hra:W4.rangeAt b (off+p*5) i.cells:=hcr
 have hcl:c.len<=c.cap:=hco.hl
 have hcm:c.cap<=9223372036854775807:=hco.hm
 have hM5:=hM.setIns hP i
 have hth:W4.there rb 10 i.cells.toArray.size:=hM.rn.thereI
 have hone:i.cells.toArray.all (·.oneCell')=true:=by simp [Ins.cells,Value.oneCell']
 obtain ⟨W5,hW5⟩: ∃W5,W4.setCells rb 10 i.cells=W5:=⟨_,rfl⟩
 rw [hW5]at hM5
 have hT5:=hM5.tab hP hI4 hT4 (by omega)
 have hrI:=hM5.rn.rangeI
 have hRt:=right_any i c.len hi (by omega) (by omega) W5 hT5
 rw [hr]at hRt
 have HR:=Lib.hid (And.intro R4 (And.intro hlt (And.intro hrb (And.intro P4 (And.intro hi (And.intro hI4 (And.intro hT4 T4)))))))
 have HM5:=Lib.hid (And.intro hM5 hT5)
 have hp1:(p:Int)<(c.len:Int):=by omega
 have hp0: ¬(c.len:Int)<=(p:Int):=by omega
 have hpn: ¬(p:Int)<0:=by omega
 have hnn:(0:Int)<=(p:Int):=by omega
 have HP:=Lib.hid (And.intro hP hc)
 clear hB3 hB4 hca hT hI hlt hI4 hrb hrb4 T3 P3 R3 T4 P4 R4 hM hT4 hco hP hc hM5 hT5 hcc hcr hr hp hi
 unfold Th.val Cd.val Pv.val Fv.val
 dsimp only at hW3 hW4⊢
 rw [hA]
 go_enter Tryz.func126,Tryz.ntmps126
 go_wp2_with (first
  |(refine wpList_load_mid rfl 75 (.tmp 33) rfl _ _ rfl i.cells _ (by simpa using hra) Tryz.underlying75 rfl (by kernel_rfl) ?_)
  |(refine wpList_store_mid rfl 75 (.tmp 36) (.tmp 34) rfl _ _ i.cells.toArray rfl rfl hth (by kernel_rfl) hone ?_;change wpList _ _ _ _ _ (W4.setCells rb 10 i.cells);rw [hW5])
  |(refine wpList_load_mid rfl 75 (.tmp 39) rfl _ _ rfl i.cells _ hrI Tryz.underlying75 rfl (by kernel_rfl) ?_))
 refine hRt.mono ?_
 rintro e W6 ⟨rfl,hb6⟩
 have hM6:=HM5.out.1.below HP.out.1 hb6
 have hT6:=HM5.out.2.step hb6
 clear hRt hb6 HM5 hth hone hra hrI c0 c1 c2 c3 c4 c5 c6 c7 c8 c9 p0 p1 p2 p3 p4 p5 p6 p7 p8 p9 p10 hW3 hW4 hW5 hca4 htb2 d0 hp1 hp0 hpn hnn hcl hcm hblt
 have h17': ¬i.op=17:=h17
 have hAs:=asks_any i.op W6 hT6
 rw [hk]at hAs
 have q10:=hM6.rn.ic (j:=0) rfl
 have HM6:=Lib.hid (And.intro hM6 hT6)
 clear hM6 hT6
 go_wp2_with fail
 refine hAs.mono ?_
 rintro e W7 ⟨rfl,hb7⟩
 have hM7:=HM6.out.1.below HP.out.1 hb7
 have hT7:=HM6.out.2.step hb7
 clear hAs q10 hb7 HM6
 have q10:=hM7.rn.ic (j:=0) rfl
 have hDr:=drains_v i.op W7
 have HMa:=Lib.hid (And.intro hM7 hT7)
 clear hM7 hT7
 rw [decide_eq_false hdr]at hDr
 go_wp2_with fail
 refine hDr.mono ?_
 rintro e W12 ⟨rfl,hb11⟩
 have hM12:=HMa.out.1.below HP.out.1 hb11
 have hT12:=HMa.out.2.step hb11
 clear hDr HMa hb11
 try clear c26 f26 p0 hs0 had2 hsz2 had0 had1 hsz
 try clear q10
 have q12:=hM12.rn.ic (j:=0) rfl
 have hJ:=jumps_any i.op W12 hT12
 rw [hj]at hJ
 have HM12:=Lib.hid (And.intro hM12 hT12)
 clear hM12 hT12
 go_wp2_with fail
 refine hJ.mono ?_
 rintro e W13 ⟨rfl,hb13⟩
 have hM13:=HM12.out.1.below HP.out.1 hb13
 have hT13:=HM12.out.2.step hb13
 clear hJ HM12 hb13 q12
 obtain ⟨ho0,ho28,⟨a,ha,ha8⟩,_,_,hjk⟩:=HF.out
 have hGo:=goes_any HP.out.1 s own rb ⟨(p:Int),regs,0⟩ i 0 W4 W13 hM13 a (fun _=>ha) ha8
 dsimp only at hGo
 rw [ha]at hgoes
 rw [Int.toNat_natCast]at hgoes
 rw [hgoes]at hGo
 clear hM13 hT13 ha ha8 ho0 ho28 hjk
 go_wp2_with fail
 refine hGo.mono ?_
 rintro e W14 ⟨rfl,hM14⟩
 clear hGo
 have q14:=hM14.rn.ic (j:=4) rfl
 have f0:=hM14.rn.fz 0
 have c0:=hM14.rn.tc (j:=0) rfl
 dsimp only at c0
 have hik0:=HR.out.2.2.2.2.1.k0
 have hik1:=HR.out.2.2.2.2.1.k1
 have hMz:=hM14.setPc HP.out.1 i.k
 clear hM14
 have hrT:=hMz.rn.rangeT
 have Rz:=hMz.blk HR.out.1 (fun h=>by have :=HR.out.2.1 _ h;omega) (by have :=HR.out.2.2.1;omega)
 have HMz:=Lib.hid hMz
 clear hMz
 go_wp2_with (first
  |(refine wpList_load_mid rfl 124 (.tmp 134) rfl _ _ rfl (Th.cells (⟨i.k,regs,0⟩:Th)) _ hrT Tryz.underlying124 rfl th_info ?_)
  |(refine wpList_store_row rfl 124 (.tmp 6) (.tmp 135) rfl _ rfl (thArr (⟨i.k,regs,0⟩:Th)) rfl 124 _ Rz rfl th_info (th_one _) ?_;intro W9 hb9 hg9))
 exact bodyPost_ret (results_cell Tryz.results126 _ _ _ _ rfl (run_row _ _ _ _ _ _ hb9 Tryz.underlying124 rfl th_info)) rfl ⟨rfl,by
  obtain ⟨hP,hI,hB4,hrb,hrb4⟩:=HX.out
  subst htb
  exact step_end hP hI hB4 HMz.out (by omega) (by omega) (by omega) hg9⟩
set_option maxHeartbeats 3000000 in
theorem step_jump_no {σ:Type} {O:Ops σ} {V:Pv} {Inv:σ->(Nat->Prop)->World->Prop} {can:Nat->σ->Prop} (hP:PortOk O V Inv can) (n:Nat) (s:σ) (own:Nat->Prop) (t:Th) (c:Cd) (W:World)
 (hI:Inv s own W) (hT:Tab W) (hca:c.At W) (hco:c.Ok) (hst:t.st=0) (p:Nat) (hpc:t.pc=(p:Int)) (hp:p<c.len) (hr:rightB (c.F p) c.len=true) (hk:askB (c.F p).op=false) (hdr: ¬DrainP (c.F p).op) (h17:(c.F p).op≠17) (h0:(c.F p).op≠0) (hj:jmpB (c.F p).op=true) (hgoes:goesB (c.F p).op (t.regs (c.F p).a.toNat)=false) (hc:can (n+3) s):
 Calls Tryz.prog 126 #[t.val,c.val,V.val O.size] W fun e W'=>e= .returned ({t with pc:=t.pc+1}:Th).val/\Moves Inv (s) own W W':=by
 obtain ⟨pc,regs,st⟩:=t
 dsimp only at*
 subst hst
 subst hpc
 obtain ⟨tb,rb,W3,W4,htb,hW3,hsz3,hW4,hB3,hB4,T3,P3,R3,T4,P4,R4,hM,hca4,hT4,hrb,htb2,hrb4,hI4,hlt⟩:=step_boxes hP s own ⟨(p:Int),regs,0⟩ c W hI hT hca
 unfold thArr Pv.arr th0 Fv.val at hW3
 unfold rnArr Fv.val at hW4
 have HX:=Lib.hid (And.intro hP (And.intro hI (And.intro hB4 (And.intro hrb hrb4))))
 have c0:W3.cell? ⟨tb,0,none⟩=some (.int .i64 (p:Int)):=(T3.cell 0).trans rfl
 have c1:W3.cell? ⟨tb,1,none⟩=some (.int .u32 (regs 0)):=(T3.cell 1).trans rfl
 have c2:W3.cell? ⟨tb,2,none⟩=some (.int .u32 (regs 1)):=(T3.cell 2).trans rfl
 have c3:W3.cell? ⟨tb,3,none⟩=some (.int .u32 (regs 2)):=(T3.cell 3).trans rfl
 have c4:W3.cell? ⟨tb,4,none⟩=some (.int .u32 (regs 3)):=(T3.cell 4).trans rfl
 have c5:W3.cell? ⟨tb,5,none⟩=some (.int .u32 (regs 4)):=(T3.cell 5).trans rfl
 have c6:W3.cell? ⟨tb,6,none⟩=some (.int .u32 (regs 5)):=(T3.cell 6).trans rfl
 have c7:W3.cell? ⟨tb,7,none⟩=some (.int .u32 (regs 6)):=(T3.cell 7).trans rfl
 have c8:W3.cell? ⟨tb,8,none⟩=some (.int .u32 (regs 7)):=(T3.cell 8).trans rfl
 have c9:W3.cell? ⟨tb,9,none⟩=some (.int .i64 0):=(T3.cell 9).trans rfl
 have p0:W3.cell? ⟨tb+1,0,none⟩=some (.int .i64 (O.size:Int)):=(P3.cell 0).trans rfl
 have p1:W3.cell? ⟨tb+1,1,none⟩=some (.func (.func V.load.k) V.load.f V.load.c):=(P3.cell 1).trans rfl
 have p2:W3.cell? ⟨tb+1,2,none⟩=some (.func (.func V.room.k) V.room.f V.room.c):=(P3.cell 2).trans rfl
 have p3:W3.cell? ⟨tb+1,3,none⟩=some (.func (.func V.store.k) V.store.f V.store.c):=(P3.cell 3).trans rfl
 have p4:W3.cell? ⟨tb+1,4,none⟩=some (.func (.func V.empty.k) V.empty.f V.empty.c):=(P3.cell 4).trans rfl
 have p5:W3.cell? ⟨tb+1,5,none⟩=some (.func (.func V.flush.k) V.flush.f V.flush.c):=(P3.cell 5).trans rfl
 have p6:W3.cell? ⟨tb+1,6,none⟩=some (.func (.func V.swap.k) V.swap.f V.swap.c):=(P3.cell 6).trans rfl
 have p7:W3.cell? ⟨tb+1,7,none⟩=some (.func (.func V.sleep.k) V.sleep.f V.sleep.c):=(P3.cell 7).trans rfl
 have p8:W3.cell? ⟨tb+1,8,none⟩=some (.func (.func V.wake.k) V.wake.f V.wake.c):=(P3.cell 8).trans rfl
 have p9:W3.cell? ⟨tb+1,9,none⟩=some (.func (.func V.remote.k) V.remote.f V.remote.c):=(P3.cell 9).trans rfl
 have p10:W3.cell? ⟨tb+1,10,none⟩=some (.func (.func V.note.k) V.note.f V.note.c):=(P3.cell 10).trans rfl
 have d0:W4.cell? ⟨tb,0,none⟩=some (.int .i64 (p:Int)):=(T4.cell 0).trans rfl
 obtain ⟨b,off,hA,hblt,hcc⟩:=hca4 (by omega)
 have hi:=hco.ins p hp
 obtain ⟨i,hci⟩: ∃i,c.F p=i:=⟨_,rfl⟩
 have hcr:=hcc p hp
 dsimp only at hcr
 rw [hci]at hi hr hcr hk h0 hj hgoes hdr h17
 have HF:=Lib.hid (right_fields i _ hr)
 have HPL:=Lib.hid (And.intro hp (And.intro hco.hl hco.hm))
 have hra:W4.rangeAt b (off+p*5) i.cells:=hcr
 have hcl:c.len<=c.cap:=hco.hl
 have hcm:c.cap<=9223372036854775807:=hco.hm
 have hM5:=hM.setIns hP i
 have hth:W4.there rb 10 i.cells.toArray.size:=hM.rn.thereI
 have hone:i.cells.toArray.all (·.oneCell')=true:=by simp [Ins.cells,Value.oneCell']
 obtain ⟨W5,hW5⟩: ∃W5,W4.setCells rb 10 i.cells=W5:=⟨_,rfl⟩
 rw [hW5]at hM5
 have hT5:=hM5.tab hP hI4 hT4 (by omega)
 have hrI:=hM5.rn.rangeI
 have hRt:=right_any i c.len hi (by omega) (by omega) W5 hT5
 rw [hr]at hRt
 have HR:=Lib.hid (And.intro R4 (And.intro hlt (And.intro hrb (And.intro P4 (And.intro hi (And.intro hI4 (And.intro hT4 T4)))))))
 have HM5:=Lib.hid (And.intro hM5 hT5)
 have hp1:(p:Int)<(c.len:Int):=by omega
 have hp0: ¬(c.len:Int)<=(p:Int):=by omega
 have hpn: ¬(p:Int)<0:=by omega
 have hnn:(0:Int)<=(p:Int):=by omega
 have HP:=Lib.hid (And.intro hP hc)
 clear hB3 hB4 hca hT hI hlt hI4 hrb hrb4 T3 P3 R3 T4 P4 R4 hM hT4 hco hP hc hM5 hT5 hcc hcr hr hp hi
 unfold Th.val Cd.val Pv.val Fv.val
 dsimp only at hW3 hW4⊢
 rw [hA]
 go_enter Tryz.func126,Tryz.ntmps126
 go_wp2_with (first
  |(refine wpList_load_mid rfl 75 (.tmp 33) rfl _ _ rfl i.cells _ (by simpa using hra) Tryz.underlying75 rfl (by kernel_rfl) ?_)
  |(refine wpList_store_mid rfl 75 (.tmp 36) (.tmp 34) rfl _ _ i.cells.toArray rfl rfl hth (by kernel_rfl) hone ?_;change wpList _ _ _ _ _ (W4.setCells rb 10 i.cells);rw [hW5])
  |(refine wpList_load_mid rfl 75 (.tmp 39) rfl _ _ rfl i.cells _ hrI Tryz.underlying75 rfl (by kernel_rfl) ?_))
 refine hRt.mono ?_
 rintro e W6 ⟨rfl,hb6⟩
 have hM6:=HM5.out.1.below HP.out.1 hb6
 have hT6:=HM5.out.2.step hb6
 clear hRt hb6 HM5 hth hone hra hrI c0 c1 c2 c3 c4 c5 c6 c7 c8 c9 p0 p1 p2 p3 p4 p5 p6 p7 p8 p9 p10 hW3 hW4 hW5 hca4 htb2 d0 hp1 hp0 hpn hnn hcl hcm hblt
 have h17': ¬i.op=17:=h17
 have hAs:=asks_any i.op W6 hT6
 rw [hk]at hAs
 have q10:=hM6.rn.ic (j:=0) rfl
 have HM6:=Lib.hid (And.intro hM6 hT6)
 clear hM6 hT6
 go_wp2_with fail
 refine hAs.mono ?_
 rintro e W7 ⟨rfl,hb7⟩
 have hM7:=HM6.out.1.below HP.out.1 hb7
 have hT7:=HM6.out.2.step hb7
 clear hAs q10 hb7 HM6
 have q10:=hM7.rn.ic (j:=0) rfl
 have hDr:=drains_v i.op W7
 have HMa:=Lib.hid (And.intro hM7 hT7)
 clear hM7 hT7
 rw [decide_eq_false hdr]at hDr
 go_wp2_with fail
 refine hDr.mono ?_
 rintro e W12 ⟨rfl,hb11⟩
 have hM12:=HMa.out.1.below HP.out.1 hb11
 have hT12:=HMa.out.2.step hb11
 clear hDr HMa hb11
 try clear c26 f26 p0 hs0 had2 hsz2 had0 had1 hsz
 try clear q10
 have q12:=hM12.rn.ic (j:=0) rfl
 have hJ:=jumps_any i.op W12 hT12
 rw [hj]at hJ
 have HM12:=Lib.hid (And.intro hM12 hT12)
 clear hM12 hT12
 go_wp2_with fail
 refine hJ.mono ?_
 rintro e W13 ⟨rfl,hb13⟩
 have hM13:=HM12.out.1.below HP.out.1 hb13
 have hT13:=HM12.out.2.step hb13
 clear hJ HM12 hb13 q12
 obtain ⟨ho0,ho28,⟨a,ha,ha8⟩,_,_,hjk⟩:=HF.out
 have hGo:=goes_any HP.out.1 s own rb ⟨(p:Int),regs,0⟩ i 0 W4 W13 hM13 a (fun _=>ha) ha8
 dsimp only at hGo
 rw [ha]at hgoes
 rw [Int.toNat_natCast]at hgoes
 rw [hgoes]at hGo
 clear hM13 hT13 ha ha8 ho0 ho28 hjk
 go_wp2_with fail
 refine hGo.mono ?_
 rintro e W14 ⟨rfl,hM14⟩
 clear hGo
 have hpc':(⟨(p:Int),regs,0⟩:Th).pc=(p:Int):=rfl
 have c0:=hM14.rn.tc (j:=0) rfl
 rw [hpc']at c0
 have f0:=hM14.rn.fz 0
 have hMz:=hM14.setPc HP.out.1 ((p:Int)+1)
 clear hM14
 have hp9:(p:Int)+1<=9223372036854775807:=by have h1:=HPL.out.1;have h2:=HPL.out.2.1;have h3:=HPL.out.2.2;unfold maxLen at h3;omega
 have hrT:=hMz.rn.rangeT
 have Rz:=hMz.blk HR.out.1 (fun h=>by have :=HR.out.2.1 _ h;omega) (by have :=HR.out.2.2.1;omega)
 have HMz:=Lib.hid hMz
 clear hMz
 go_wp2_with (first
  |(refine wpList_load_mid rfl 124 (.tmp 156) rfl _ _ rfl (Th.cells (⟨(p:Int)+1,regs,0⟩:Th)) _ hrT Tryz.underlying124 rfl th_info ?_)
  |(refine wpList_store_row rfl 124 (.tmp 6) (.tmp 157) rfl _ rfl (thArr (⟨(p:Int)+1,regs,0⟩:Th)) rfl 124 _ Rz rfl th_info (th_one _) ?_;intro W9 hb9 hg9))
 exact bodyPost_ret (results_cell Tryz.results126 _ _ _ _ rfl (run_row _ _ _ _ _ _ hb9 Tryz.underlying124 rfl th_info)) rfl ⟨rfl,by
  obtain ⟨hP,hI,hB4,hrb,hrb4⟩:=HX.out
  subst htb
  exact step_end hP hI hB4 HMz.out (by omega) (by omega) (by omega) hg9⟩
end Go.Proofs.YtmhfpjnkjlhbpaaGreatDoor
