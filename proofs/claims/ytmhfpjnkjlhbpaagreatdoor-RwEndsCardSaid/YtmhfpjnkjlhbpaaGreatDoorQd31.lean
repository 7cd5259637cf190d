/- rw: claim, sleep, has, read, write, release (printed by gen/bldf.py). -/
import Derived.Test.YtmhfpjnkjlhbpaaGreatDoorQd26
namespace Go.Proofs.YtmhfpjnkjlhbpaaGreatDoor
open Go.ChangeShapes Go.WideShapes Go.ChangeAt Go.RowKit Go.Deep
set_option linter.unusedVariables false
set_option maxRecDepth 100000
set_option linter.unusedSimpArgs false
def BB.rclaim (b:BB) (mo:Int):BB:=(((((b.ins ⟨16,4,8,0,mo⟩).go 14 4 n_free).ins ⟨1,7,0,0,1⟩).go 13 0 n_end).at n_free).at n_again
def BB.rsleep (b:BB) (st:Int):BB:=(b.ins ⟨23,4,8,0,st⟩).go 13 0 n_again
def BB.rhas (b:BB) (mo k:Int):BB:=(b.ins ⟨1,4,0,0,k⟩).ins ⟨17,4,8,0,mo⟩
def BB.rread (b:BB) (st mo:Int):BB:=b|>.rclaim mo|>.ins ⟨16,4,8,0,st⟩|>.ins ⟨1,5,0,0,4294967295⟩|>.ins ⟨12,6,4,5,0⟩|>.go 15 6 n_sleep|>.ins ⟨1,5,0,0,1⟩|>.ins ⟨3,5,4,5,0⟩|>.ins ⟨2,6,4,0,0⟩|>.ins ⟨21,4,8,5,st⟩|>.ins ⟨12,6,4,6,0⟩|>.go 14 6 n_again|>.rhas mo 1|>.ins ⟨1,7,0,0,0⟩|>.go 13 0 n_end|>.at n_sleep|>.rsleep st|>.at n_end
def BB.rwrite (b:BB) (st mo:Int):BB:=b|>.rclaim mo|>.ins ⟨1,4,0,0,0⟩|>.ins ⟨1,5,0,0,4294967295⟩|>.ins ⟨21,4,8,5,st⟩|>.go 14 4 n_got|>.rsleep st|>.at n_got|>.rhas mo 2|>.close
def BB.rrel (b:BB) (st mo:Int):BB:=b|>.ins ⟨16,4,8,0,mo⟩|>.go 15 4 n_mine|>.ins ⟨1,7,0,0,2⟩|>.go 13 0 n_end|>.at n_mine|>.ins ⟨1,5,0,0,1⟩|>.ins ⟨12,6,4,5,0⟩|>.rhas mo 0|>.go 15 6 n_reader|>.ins ⟨1,4,0,0,0⟩|>.ins ⟨19,4,8,0,st⟩|>.go 13 0 n_wake|>.at n_reader|>.ins ⟨1,4,0,0,4294967295⟩|>.ins ⟨20,4,8,0,st⟩|>.ins ⟨1,5,0,0,1⟩|>.ins ⟨12,6,4,5,0⟩|>.go 14 6 n_done|>.at n_wake|>.ins ⟨1,4,0,0,4294967295⟩|>.ins ⟨24,4,8,0,st⟩|>.at n_done|>.close
theorem BB.Room.rclaim {b:BB} {n:Nat} (h:b.Room (n+6)) (mo:Int):(b.rclaim mo).Room n:=BB.Room.at (BB.Room.at (BB.Room.go (BB.Room.ins (BB.Room.go (BB.Room.ins (n:=n+5) h _) _ _ _) _) _ _ _) _) _
theorem BB.Room.rsleep {b:BB} {n:Nat} (h:b.Room (n+2)) (st:Int):(b.rsleep st).Room n:=BB.Room.go (BB.Room.ins h _) _ _ _
theorem BB.Room.rhas {b:BB} {n:Nat} (h:b.Room (n+2)) (mo k:Int):(b.rhas mo k).Room n:=BB.Room.ins (BB.Room.ins h _) _
theorem minus_one (W:World):Calls Tryz.prog 103 #[.int .u32 1] W fun e W'=>e= .returned (.int .u32 4294967295)/\W'=W:=by
 go_enter Tryz.func103,Tryz.ntmps103
 go_wp2
 go_ret
 exact ⟨by first|rfl|decide,rfl⟩
theorem writer_any (W:World):Calls Tryz.prog 95 #[] W fun e W'=>e= .returned (.int .u32 4294967295)/\W'=W:=by
 have cM:=minus_one W
 go_enter Tryz.func95,Tryz.ntmps95
 go_wp2_with fail
 refine cM.mono ?_
 rintro e W1 ⟨rfl,rfl⟩
 go_wp2
 go_ret
 exact ⟨rfl,rfl⟩
set_option maxHeartbeats 4000000 in
theorem b_rclaim {N0 bb:Nat} {b:BB} {n:Nat} (st mo:Int) {W:World} (h:BI N0 W bb b) (hr:b.Room (n+6)) (hf:b.places=[]):Bls 93 #[.agg #[.int .u32 st,.int .u32 mo],.pointer (some ⟨bb,0,none⟩)] N0 bb b (b.rclaim mo) W:=by
 unfold Bls
 have hq0:=Blk.new W 132 #[.int .u32 st,.int .u32 mo]
 have hB:=(Below.refl W.heap.size W).alloc (Nat.le_refl _) (.cells #[.int .u32 st,.int .u32 mo] 132)
 have hN0:N0<=W.heap.size:=by obtain ⟨vc,vl,mq,hP⟩:=h;exact hP.lt
 have h0:=h.below hB
 have p0:=(hq0.cell 0).trans rfl
 have q0:=(hq0.cell 1).trans rfl
 have b0:=BelF.of hB hN0
 clear hB
 go_enter Tryz.func93,Tryz.ntmps93
 go_wp2_with fail
 refine Bls.step (b_ask (n:=n+5) _ _ _ h0 hr) ?_
 rintro _ W1 ⟨⟨u0,rfl⟩,h1,b1⟩
 have hq1:=b1.f _ _ _ (by decide) (by decide) (by decide) hq0
 have p1:=(hq1.cell 0).trans rfl
 have q1:=(hq1.cell 1).trans rfl
 have r1:=BI.rins (n:=n+5) h1 hr
 go_wp2_with fail
 try rw [str_free]
 refine Bls.step (b_go (n:=n+4) _ _ n_free h1 r1) ?_
 rintro _ W2 ⟨⟨u1,rfl⟩,h2,b2⟩
 have hq2:=b2.f _ _ _ (by decide) (by decide) (by decide) hq1
 have p2:=(hq2.cell 0).trans rfl
 have q2:=(hq2.cell 1).trans rfl
 have r2:=BI.rgo (n:=n+4) h2 r1
 go_wp2_with fail
 refine Bls.step (b_set (n:=n+3) _ _ h2 r2) ?_
 rintro _ W3 ⟨⟨u2,rfl⟩,h3,b3⟩
 have hq3:=b3.f _ _ _ (by decide) (by decide) (by decide) hq2
 have p3:=(hq3.cell 0).trans rfl
 have q3:=(hq3.cell 1).trans rfl
 have r3:=BI.rins (n:=n+3) h3 r2
 go_wp2_with fail
 try rw [str_end]
 refine Bls.step (b_go (n:=n+2) _ _ n_end h3 r3) ?_
 rintro _ W4 ⟨⟨u3,rfl⟩,h4,b4⟩
 have hq4:=b4.f _ _ _ (by decide) (by decide) (by decide) hq3
 have p4:=(hq4.cell 0).trans rfl
 have q4:=(hq4.cell 1).trans rfl
 have r4:=BI.rgo (n:=n+2) h4 r3
 go_wp2_with fail
 try rw [str_free]
 refine Bls.step (b_at (n:=n+1) n_free nm_free h4 r4 (by show b.places.lookup n_free=none;rw [hf];rfl)) ?_
 rintro _ W5 ⟨⟨u4,rfl⟩,h5,b5⟩
 have hq5:=b5.f _ _ _ (by decide) (by decide) (by decide) hq4
 have p5:=(hq5.cell 0).trans rfl
 have q5:=(hq5.cell 1).trans rfl
 have r5:=BI.rat (n:=n+1) h5 r4
 go_wp2_with fail
 try rw [str_again]
 refine Bls.step (b_at (n:=n+0) n_again nm_again h5 r5 (by show List.lookup n_again ((n_free,_)::b.places)=none;rw [hf];rfl)) ?_
 rintro _ W6 ⟨⟨u5,rfl⟩,h6,b6⟩
 have hq6:=b6.f _ _ _ (by decide) (by decide) (by decide) hq5
 have p6:=(hq6.cell 0).trans rfl
 have q6:=(hq6.cell 1).trans rfl
 have r6:=BI.rat (n:=n+0) h6 r5
 go_wp2
 go_end0
 exact ⟨⟨_,rfl⟩,h6,b0.trans (b1.trans (b2.trans (b3.trans (b4.trans (b5.trans (b6))))))⟩
set_option maxHeartbeats 4000000 in
theorem b_rsleep {N0 bb:Nat} {b:BB} {n:Nat} (st mo:Int) {W:World} (h:BI N0 W bb b) (hr:b.Room (n+2)):Bls 98 #[.agg #[.int .u32 st,.int .u32 mo],.pointer (some ⟨bb,0,none⟩)] N0 bb b (b.rsleep st) W:=by
 unfold Bls
 have hq0:=Blk.new W 132 #[.int .u32 st,.int .u32 mo]
 have hB:=(Below.refl W.heap.size W).alloc (Nat.le_refl _) (.cells #[.int .u32 st,.int .u32 mo] 132)
 have hN0:N0<=W.heap.size:=by obtain ⟨vc,vl,mq,hP⟩:=h;exact hP.lt
 have h0:=h.below hB
 have p0:=(hq0.cell 0).trans rfl
 have q0:=(hq0.cell 1).trans rfl
 have b0:=BelF.of hB hN0
 clear hB
 go_enter Tryz.func98,Tryz.ntmps98
 go_wp2_with fail
 refine Bls.step (b_ask (n:=n+1) _ _ _ h0 hr) ?_
 rintro _ W1 ⟨⟨u0,rfl⟩,h1,b1⟩
 have hq1:=b1.f _ _ _ (by decide) (by decide) (by decide) hq0
 have p1:=(hq1.cell 0).trans rfl
 have q1:=(hq1.cell 1).trans rfl
 have r1:=BI.rins (n:=n+1) h1 hr
 go_wp2_with fail
 try rw [str_again]
 refine Bls.step (b_go (n:=n+0) _ _ n_again h1 r1) ?_
 rintro _ W2 ⟨⟨u1,rfl⟩,h2,b2⟩
 have hq2:=b2.f _ _ _ (by decide) (by decide) (by decide) hq1
 have p2:=(hq2.cell 0).trans rfl
 have q2:=(hq2.cell 1).trans rfl
 have r2:=BI.rgo (n:=n+0) h2 r1
 go_wp2
 go_end0
 exact ⟨⟨_,rfl⟩,h2,b0.trans (b1.trans (b2))⟩
set_option maxHeartbeats 4000000 in
theorem b_rhas {N0 bb:Nat} {b:BB} {n:Nat} (st mo k:Int) {W:World} (h:BI N0 W bb b) (hr:b.Room (n+2)):Bls 100 #[.agg #[.int .u32 st,.int .u32 mo],.pointer (some ⟨bb,0,none⟩),.int .u32 k] N0 bb b (b.rhas mo k) W:=by
 unfold Bls
 have hq0:=Blk.new W 132 #[.int .u32 st,.int .u32 mo]
 have hB:=(Below.refl W.heap.size W).alloc (Nat.le_refl _) (.cells #[.int .u32 st,.int .u32 mo] 132)
 have hN0:N0<=W.heap.size:=by obtain ⟨vc,vl,mq,hP⟩:=h;exact hP.lt
 have h0:=h.below hB
 have p0:=(hq0.cell 0).trans rfl
 have q0:=(hq0.cell 1).trans rfl
 have b0:=BelF.of hB hN0
 clear hB
 go_enter Tryz.func100,Tryz.ntmps100
 go_wp2_with fail
 refine Bls.step (b_set (n:=n+1) _ _ h0 hr) ?_
 rintro _ W1 ⟨⟨u0,rfl⟩,h1,b1⟩
 have hq1:=b1.f _ _ _ (by decide) (by decide) (by decide) hq0
 have p1:=(hq1.cell 0).trans rfl
 have q1:=(hq1.cell 1).trans rfl
 have r1:=BI.rins (n:=n+1) h1 hr
 go_wp2_with fail
 refine Bls.step (b_ask (n:=n+0) _ _ _ h1 r1) ?_
 rintro _ W2 ⟨⟨u1,rfl⟩,h2,b2⟩
 have hq2:=b2.f _ _ _ (by decide) (by decide) (by decide) hq1
 have p2:=(hq2.cell 0).trans rfl
 have q2:=(hq2.cell 1).trans rfl
 have r2:=BI.rins (n:=n+0) h2 r1
 go_wp2
 go_end0
 exact ⟨⟨_,rfl⟩,h2,b0.trans (b1.trans (b2))⟩
set_option maxHeartbeats 4000000 in
theorem b_rread {N0 bb:Nat} {n:Nat} (st mo:Int) {W:World} (h:BI N0 W bb BB.e) (hr:BB.e.Room (n+24)):Bls 54 #[.agg #[.int .u32 st,.int .u32 mo],.pointer (some ⟨bb,0,none⟩)] N0 bb BB.e (BB.e.rread st mo) W:=by
 unfold Bls
 have hq0:=Blk.new W 132 #[.int .u32 st,.int .u32 mo]
 have hB:=(Below.refl W.heap.size W).alloc (Nat.le_refl _) (.cells #[.int .u32 st,.int .u32 mo] 132)
 have hN0:N0<=W.heap.size:=by obtain ⟨vc,vl,mq,hP⟩:=h;exact hP.lt
 have h0:=h.below hB
 have p0:=(hq0.cell 0).trans rfl
 have q0:=(hq0.cell 1).trans rfl
 have b0:=BelF.of hB hN0
 clear hB
 go_enter Tryz.func54,Tryz.ntmps54
 go_wp2_with fail
 refine Bls.step (b_rclaim (n:=n+18) st mo h0 hr rfl) ?_
 rintro _ W1 ⟨⟨u0,rfl⟩,h1,b1⟩
 have hq1:=b1.f _ _ _ (by decide) (by decide) (by decide) hq0
 have p1:=(hq1.cell 0).trans rfl
 have q1:=(hq1.cell 1).trans rfl
 have r1:=BB.Room.rclaim (n:=n+18) hr mo
 go_wp2_with fail
 refine Bls.step (b_ask (n:=n+17) _ _ _ h1 r1) ?_
 rintro _ W2 ⟨⟨u1,rfl⟩,h2,b2⟩
 have hq2:=b2.f _ _ _ (by decide) (by decide) (by decide) hq1
 have p2:=(hq2.cell 0).trans rfl
 have q2:=(hq2.cell 1).trans rfl
 have r2:=BI.rins (n:=n+17) h2 r1
 go_wp2_with fail
 refine (writer_any _).mono ?_
 rintro e W3 ⟨rfl,rfl⟩
 have h3:=h2
 have b3:=BelF.refl N0 W3
 have r3:=r2
 have hq3:=hq2
 go_wp2_with fail
 refine Bls.step (b_set (n:=n+16) _ _ h3 r3) ?_
 rintro _ W4 ⟨⟨u3,rfl⟩,h4,b4⟩
 have hq4:=b4.f _ _ _ (by decide) (by decide) (by decide) hq3
 have p4:=(hq4.cell 0).trans rfl
 have q4:=(hq4.cell 1).trans rfl
 have r4:=BI.rins (n:=n+16) h4 r3
 go_wp2_with fail
 refine Bls.step (b_alu (n:=n+15) _ _ _ _ h4 r4) ?_
 rintro _ W5 ⟨⟨u4,rfl⟩,h5,b5⟩
 have hq5:=b5.f _ _ _ (by decide) (by decide) (by decide) hq4
 have p5:=(hq5.cell 0).trans rfl
 have q5:=(hq5.cell 1).trans rfl
 have r5:=BI.rins (n:=n+15) h5 r4
 go_wp2_with fail
 try rw [str_sleep]
 refine Bls.step (b_go (n:=n+14) _ _ n_sleep h5 r5) ?_
 rintro _ W6 ⟨⟨u5,rfl⟩,h6,b6⟩
 have hq6:=b6.f _ _ _ (by decide) (by decide) (by decide) hq5
 have p6:=(hq6.cell 0).trans rfl
 have q6:=(hq6.cell 1).trans rfl
 have r6:=BI.rgo (n:=n+14) h6 r5
 go_wp2_with fail
 refine Bls.step (b_set (n:=n+13) _ _ h6 r6) ?_
 rintro _ W7 ⟨⟨u6,rfl⟩,h7,b7⟩
 have hq7:=b7.f _ _ _ (by decide) (by decide) (by decide) hq6
 have p7:=(hq7.cell 0).trans rfl
 have q7:=(hq7.cell 1).trans rfl
 have r7:=BI.rins (n:=n+13) h7 r6
 go_wp2_with fail
 refine Bls.step (b_alu (n:=n+12) _ _ _ _ h7 r7) ?_
 rintro _ W8 ⟨⟨u7,rfl⟩,h8,b8⟩
 have hq8:=b8.f _ _ _ (by decide) (by decide) (by decide) hq7
 have p8:=(hq8.cell 0).trans rfl
 have q8:=(hq8.cell 1).trans rfl
 have r8:=BI.rins (n:=n+12) h8 r7
 go_wp2_with fail
 refine Bls.step (b_do (n:=n+11) _ _ _ _ _ h8 r8) ?_
 rintro _ W9 ⟨⟨u8,rfl⟩,h9,b9⟩
 have hq9:=b9.f _ _ _ (by decide) (by decide) (by decide) hq8
 have p9:=(hq9.cell 0).trans rfl
 have q9:=(hq9.cell 1).trans rfl
 have r9:=BI.rins (n:=n+11) h9 r8
 go_wp2_with fail
 refine Bls.step (b_cas (n:=n+10) _ _ _ h9 r9) ?_
 rintro _ W10 ⟨⟨u9,rfl⟩,h10,b10⟩
 have hq10:=b10.f _ _ _ (by decide) (by decide) (by decide) hq9
 have p10:=(hq10.cell 0).trans rfl
 have q10:=(hq10.cell 1).trans rfl
 have r10:=BI.rins (n:=n+10) h10 r9
 go_wp2_with fail
 refine Bls.step (b_alu (n:=n+9) _ _ _ _ h10 r10) ?_
 rintro _ W11 ⟨⟨u10,rfl⟩,h11,b11⟩
 have hq11:=b11.f _ _ _ (by decide) (by decide) (by decide) hq10
 have p11:=(hq11.cell 0).trans rfl
 have q11:=(hq11.cell 1).trans rfl
 have r11:=BI.rins (n:=n+9) h11 r10
 go_wp2_with fail
 try rw [str_again]
 refine Bls.step (b_go (n:=n+8) _ _ n_again h11 r11) ?_
 rintro _ W12 ⟨⟨u11,rfl⟩,h12,b12⟩
 have hq12:=b12.f _ _ _ (by decide) (by decide) (by decide) hq11
 have p12:=(hq12.cell 0).trans rfl
 have q12:=(hq12.cell 1).trans rfl
 have r12:=BI.rgo (n:=n+8) h12 r11
 go_wp2_with fail
 refine Bls.step (b_rhas (n:=n+6) st mo 1 h12 r12) ?_
 rintro _ W13 ⟨⟨u12,rfl⟩,h13,b13⟩
 have hq13:=b13.f _ _ _ (by decide) (by decide) (by decide) hq12
 have p13:=(hq13.cell 0).trans rfl
 have q13:=(hq13.cell 1).trans rfl
 have r13:=BB.Room.rhas (n:=n+6) r12 mo 1
 go_wp2_with fail
 refine Bls.step (b_set (n:=n+5) _ _ h13 r13) ?_
 rintro _ W14 ⟨⟨u13,rfl⟩,h14,b14⟩
 have hq14:=b14.f _ _ _ (by decide) (by decide) (by decide) hq13
 have p14:=(hq14.cell 0).trans rfl
 have q14:=(hq14.cell 1).trans rfl
 have r14:=BI.rins (n:=n+5) h14 r13
 go_wp2_with fail
 try rw [str_end]
 refine Bls.step (b_go (n:=n+4) _ _ n_end h14 r14) ?_
 rintro _ W15 ⟨⟨u14,rfl⟩,h15,b15⟩
 have hq15:=b15.f _ _ _ (by decide) (by decide) (by decide) hq14
 have p15:=(hq15.cell 0).trans rfl
 have q15:=(hq15.cell 1).trans rfl
 have r15:=BI.rgo (n:=n+4) h15 r14
 go_wp2_with fail
 try rw [str_sleep]
 refine Bls.step (b_at (n:=n+3) n_sleep nm_sleep h15 r15 (by kernel_rfl)) ?_
 rintro _ W16 ⟨⟨u15,rfl⟩,h16,b16⟩
 have hq16:=b16.f _ _ _ (by decide) (by decide) (by decide) hq15
 have p16:=(hq16.cell 0).trans rfl
 have q16:=(hq16.cell 1).trans rfl
 have r16:=BI.rat (n:=n+3) h16 r15
 go_wp2_with fail
 refine Bls.step (b_rsleep (n:=n+1) st mo h16 r16) ?_
 rintro _ W17 ⟨⟨u16,rfl⟩,h17,b17⟩
 have hq17:=b17.f _ _ _ (by decide) (by decide) (by decide) hq16
 have p17:=(hq17.cell 0).trans rfl
 have q17:=(hq17.cell 1).trans rfl
 have r17:=BB.Room.rsleep (n:=n+1) r16 st
 go_wp2_with fail
 try rw [str_end]
 refine Bls.step (b_at (n:=n+0) n_end nm_end h17 r17 (by kernel_rfl)) ?_
 rintro _ W18 ⟨⟨u17,rfl⟩,h18,b18⟩
 have hq18:=b18.f _ _ _ (by decide) (by decide) (by decide) hq17
 have p18:=(hq18.cell 0).trans rfl
 have q18:=(hq18.cell 1).trans rfl
 have r18:=BI.rat (n:=n+0) h18 r17
 go_wp2
 go_end0
 exact ⟨⟨_,rfl⟩,h18,b0.trans (b1.trans (b2.trans (b3.trans (b4.trans (b5.trans (b6.trans (b7.trans (b8.trans (b9.trans (b10.trans (b11.trans (b12.trans (b13.trans (b14.trans (b15.trans (b16.trans (b17.trans (b18))))))))))))))))))⟩
set_option maxHeartbeats 4000000 in
theorem b_rwrite {N0 bb:Nat} {n:Nat} (st mo:Int) {W:World} (h:BI N0 W bb BB.e) (hr:BB.e.Room (n+17)):Bls 53 #[.agg #[.int .u32 st,.int .u32 mo],.pointer (some ⟨bb,0,none⟩)] N0 bb BB.e (BB.e.rwrite st mo) W:=by
 unfold Bls
 have hq0:=Blk.new W 132 #[.int .u32 st,.int .u32 mo]
 have hB:=(Below.refl W.heap.size W).alloc (Nat.le_refl _) (.cells #[.int .u32 st,.int .u32 mo] 132)
 have hN0:N0<=W.heap.size:=by obtain ⟨vc,vl,mq,hP⟩:=h;exact hP.lt
 have h0:=h.below hB
 have p0:=(hq0.cell 0).trans rfl
 have q0:=(hq0.cell 1).trans rfl
 have b0:=BelF.of hB hN0
 clear hB
 go_enter Tryz.func53,Tryz.ntmps53
 go_wp2_with fail
 refine Bls.step (b_rclaim (n:=n+11) st mo h0 hr rfl) ?_
 rintro _ W1 ⟨⟨u0,rfl⟩,h1,b1⟩
 have hq1:=b1.f _ _ _ (by decide) (by decide) (by decide) hq0
 have p1:=(hq1.cell 0).trans rfl
 have q1:=(hq1.cell 1).trans rfl
 have r1:=BB.Room.rclaim (n:=n+11) hr mo
 go_wp2_with fail
 refine Bls.step (b_set (n:=n+10) _ _ h1 r1) ?_
 rintro _ W2 ⟨⟨u1,rfl⟩,h2,b2⟩
 have hq2:=b2.f _ _ _ (by decide) (by decide) (by decide) hq1
 have p2:=(hq2.cell 0).trans rfl
 have q2:=(hq2.cell 1).trans rfl
 have r2:=BI.rins (n:=n+10) h2 r1
 go_wp2_with fail
 refine (writer_any _).mono ?_
 rintro e W3 ⟨rfl,rfl⟩
 have h3:=h2
 have b3:=BelF.refl N0 W3
 have r3:=r2
 have hq3:=hq2
 go_wp2_with fail
 refine Bls.step (b_set (n:=n+9) _ _ h3 r3) ?_
 rintro _ W4 ⟨⟨u3,rfl⟩,h4,b4⟩
 have hq4:=b4.f _ _ _ (by decide) (by decide) (by decide) hq3
 have p4:=(hq4.cell 0).trans rfl
 have q4:=(hq4.cell 1).trans rfl
 have r4:=BI.rins (n:=n+9) h4 r3
 go_wp2_with fail
 refine Bls.step (b_cas (n:=n+8) _ _ _ h4 r4) ?_
 rintro _ W5 ⟨⟨u4,rfl⟩,h5,b5⟩
 have hq5:=b5.f _ _ _ (by decide) (by decide) (by decide) hq4
 have p5:=(hq5.cell 0).trans rfl
 have q5:=(hq5.cell 1).trans rfl
 have r5:=BI.rins (n:=n+8) h5 r4
 go_wp2_with fail
 try rw [str_got]
 refine Bls.step (b_go (n:=n+7) _ _ n_got h5 r5) ?_
 rintro _ W6 ⟨⟨u5,rfl⟩,h6,b6⟩
 have hq6:=b6.f _ _ _ (by decide) (by decide) (by decide) hq5
 have p6:=(hq6.cell 0).trans rfl
 have q6:=(hq6.cell 1).trans rfl
 have r6:=BI.rgo (n:=n+7) h6 r5
 go_wp2_with fail
 refine Bls.step (b_rsleep (n:=n+5) st mo h6 r6) ?_
 rintro _ W7 ⟨⟨u6,rfl⟩,h7,b7⟩
 have hq7:=b7.f _ _ _ (by decide) (by decide) (by decide) hq6
 have p7:=(hq7.cell 0).trans rfl
 have q7:=(hq7.cell 1).trans rfl
 have r7:=BB.Room.rsleep (n:=n+5) r6 st
 go_wp2_with fail
 try rw [str_got]
 refine Bls.step (b_at (n:=n+4) n_got nm_got h7 r7 (by kernel_rfl)) ?_
 rintro _ W8 ⟨⟨u7,rfl⟩,h8,b8⟩
 have hq8:=b8.f _ _ _ (by decide) (by decide) (by decide) hq7
 have p8:=(hq8.cell 0).trans rfl
 have q8:=(hq8.cell 1).trans rfl
 have r8:=BI.rat (n:=n+4) h8 r7
 go_wp2_with fail
 refine Bls.step (b_rhas (n:=n+2) st mo 2 h8 r8) ?_
 rintro _ W9 ⟨⟨u8,rfl⟩,h9,b9⟩
 have hq9:=b9.f _ _ _ (by decide) (by decide) (by decide) hq8
 have p9:=(hq9.cell 0).trans rfl
 have q9:=(hq9.cell 1).trans rfl
 have r9:=BB.Room.rhas (n:=n+2) r8 mo 2
 go_wp2_with fail
 refine Bls.step (b_close (n:=n+0) h9 r9 (by kernel_rfl)) ?_
 rintro _ W10 ⟨⟨u9,rfl⟩,h10,b10⟩
 have hq10:=b10.f _ _ _ (by decide) (by decide) (by decide) hq9
 have p10:=(hq10.cell 0).trans rfl
 have q10:=(hq10.cell 1).trans rfl
 have r10:=BB.Room.close (n:=n+0) r9
 go_wp2
 go_end0
 exact ⟨⟨_,rfl⟩,h10,b0.trans (b1.trans (b2.trans (b3.trans (b4.trans (b5.trans (b6.trans (b7.trans (b8.trans (b9.trans (b10))))))))))⟩
set_option maxHeartbeats 4000000 in
theorem b_rrel {N0 bb:Nat} {n:Nat} (st mo:Int) {W:World} (h:BI N0 W bb BB.e) (hr:BB.e.Room (n+25)):Bls 55 #[.agg #[.int .u32 st,.int .u32 mo],.pointer (some ⟨bb,0,none⟩)] N0 bb BB.e (BB.e.rrel st mo) W:=by
 unfold Bls
 have hq0:=Blk.new W 132 #[.int .u32 st,.int .u32 mo]
 have hB:=(Below.refl W.heap.size W).alloc (Nat.le_refl _) (.cells #[.int .u32 st,.int .u32 mo] 132)
 have hN0:N0<=W.heap.size:=by obtain ⟨vc,vl,mq,hP⟩:=h;exact hP.lt
 have h0:=h.below hB
 have p0:=(hq0.cell 0).trans rfl
 have q0:=(hq0.cell 1).trans rfl
 have b0:=BelF.of hB hN0
 clear hB
 go_enter Tryz.func55,Tryz.ntmps55
 go_wp2_with fail
 refine Bls.step (b_ask (n:=n+24) _ _ _ h0 hr) ?_
 rintro _ W1 ⟨⟨u0,rfl⟩,h1,b1⟩
 have hq1:=b1.f _ _ _ (by decide) (by decide) (by decide) hq0
 have p1:=(hq1.cell 0).trans rfl
 have q1:=(hq1.cell 1).trans rfl
 have r1:=BI.rins (n:=n+24) h1 hr
 go_wp2_with fail
 try rw [str_mine]
 refine Bls.step (b_go (n:=n+23) _ _ n_mine h1 r1) ?_
 rintro _ W2 ⟨⟨u1,rfl⟩,h2,b2⟩
 have hq2:=b2.f _ _ _ (by decide) (by decide) (by decide) hq1
 have p2:=(hq2.cell 0).trans rfl
 have q2:=(hq2.cell 1).trans rfl
 have r2:=BI.rgo (n:=n+23) h2 r1
 go_wp2_with fail
 refine Bls.step (b_set (n:=n+22) _ _ h2 r2) ?_
 rintro _ W3 ⟨⟨u2,rfl⟩,h3,b3⟩
 have hq3:=b3.f _ _ _ (by decide) (by decide) (by decide) hq2
 have p3:=(hq3.cell 0).trans rfl
 have q3:=(hq3.cell 1).trans rfl
 have r3:=BI.rins (n:=n+22) h3 r2
 go_wp2_with fail
 try rw [str_end]
 refine Bls.step (b_go (n:=n+21) _ _ n_end h3 r3) ?_
 rintro _ W4 ⟨⟨u3,rfl⟩,h4,b4⟩
 have hq4:=b4.f _ _ _ (by decide) (by decide) (by decide) hq3
 have p4:=(hq4.cell 0).trans rfl
 have q4:=(hq4.cell 1).trans rfl
 have r4:=BI.rgo (n:=n+21) h4 r3
 go_wp2_with fail
 try rw [str_mine]
 refine Bls.step (b_at (n:=n+20) n_mine nm_mine h4 r4 (by kernel_rfl)) ?_
 rintro _ W5 ⟨⟨u4,rfl⟩,h5,b5⟩
 have hq5:=b5.f _ _ _ (by decide) (by decide) (by decide) hq4
 have p5:=(hq5.cell 0).trans rfl
 have q5:=(hq5.cell 1).trans rfl
 have r5:=BI.rat (n:=n+20) h5 r4
 go_wp2_with fail
 refine Bls.step (b_set (n:=n+19) _ _ h5 r5) ?_
 rintro _ W6 ⟨⟨u5,rfl⟩,h6,b6⟩
 have hq6:=b6.f _ _ _ (by decide) (by decide) (by decide) hq5
 have p6:=(hq6.cell 0).trans rfl
 have q6:=(hq6.cell 1).trans rfl
 have r6:=BI.rins (n:=n+19) h6 r5
 go_wp2_with fail
 refine Bls.step (b_alu (n:=n+18) _ _ _ _ h6 r6) ?_
 rintro _ W7 ⟨⟨u6,rfl⟩,h7,b7⟩
 have hq7:=b7.f _ _ _ (by decide) (by decide) (by decide) hq6
 have p7:=(hq7.cell 0).trans rfl
 have q7:=(hq7.cell 1).trans rfl
 have r7:=BI.rins (n:=n+18) h7 r6
 go_wp2_with fail
 refine Bls.step (b_rhas (n:=n+16) st mo 0 h7 r7) ?_
 rintro _ W8 ⟨⟨u7,rfl⟩,h8,b8⟩
 have hq8:=b8.f _ _ _ (by decide) (by decide) (by decide) hq7
 have p8:=(hq8.cell 0).trans rfl
 have q8:=(hq8.cell 1).trans rfl
 have r8:=BB.Room.rhas (n:=n+16) r7 mo 0
 go_wp2_with fail
 try rw [str_reader]
 refine Bls.step (b_go (n:=n+15) _ _ n_reader h8 r8) ?_
 rintro _ W9 ⟨⟨u8,rfl⟩,h9,b9⟩
 have hq9:=b9.f _ _ _ (by decide) (by decide) (by decide) hq8
 have p9:=(hq9.cell 0).trans rfl
 have q9:=(hq9.cell 1).trans rfl
 have r9:=BI.rgo (n:=n+15) h9 r8
 go_wp2_with fail
 refine Bls.step (b_set (n:=n+14) _ _ h9 r9) ?_
 rintro _ W10 ⟨⟨u9,rfl⟩,h10,b10⟩
 have hq10:=b10.f _ _ _ (by decide) (by decide) (by decide) hq9
 have p10:=(hq10.cell 0).trans rfl
 have q10:=(hq10.cell 1).trans rfl
 have r10:=BI.rins (n:=n+14) h10 r9
 go_wp2_with fail
 refine Bls.step (b_ask (n:=n+13) _ _ _ h10 r10) ?_
 rintro _ W11 ⟨⟨u10,rfl⟩,h11,b11⟩
 have hq11:=b11.f _ _ _ (by decide) (by decide) (by decide) hq10
 have p11:=(hq11.cell 0).trans rfl
 have q11:=(hq11.cell 1).trans rfl
 have r11:=BI.rins (n:=n+13) h11 r10
 go_wp2_with fail
 try rw [str_wake]
 refine Bls.step (b_go (n:=n+12) _ _ n_wake h11 r11) ?_
 rintro _ W12 ⟨⟨u11,rfl⟩,h12,b12⟩
 have hq12:=b12.f _ _ _ (by decide) (by decide) (by decide) hq11
 have p12:=(hq12.cell 0).trans rfl
 have q12:=(hq12.cell 1).trans rfl
 have r12:=BI.rgo (n:=n+12) h12 r11
 go_wp2_with fail
 try rw [str_reader]
 refine Bls.step (b_at (n:=n+11) n_reader nm_reader h12 r12 (by kernel_rfl)) ?_
 rintro _ W13 ⟨⟨u12,rfl⟩,h13,b13⟩
 have hq13:=b13.f _ _ _ (by decide) (by decide) (by decide) hq12
 have p13:=(hq13.cell 0).trans rfl
 have q13:=(hq13.cell 1).trans rfl
 have r13:=BI.rat (n:=n+11) h13 r12
 go_wp2_with fail
 refine (minus_one _).mono ?_
 rintro e W14 ⟨rfl,rfl⟩
 have h14:=h13
 have b14:=BelF.refl N0 W14
 have r14:=r13
 have hq14:=hq13
 go_wp2_with fail
 refine Bls.step (b_set (n:=n+10) _ _ h14 r14) ?_
 rintro _ W15 ⟨⟨u14,rfl⟩,h15,b15⟩
 have hq15:=b15.f _ _ _ (by decide) (by decide) (by decide) hq14
 have p15:=(hq15.cell 0).trans rfl
 have q15:=(hq15.cell 1).trans rfl
 have r15:=BI.rins (n:=n+10) h15 r14
 go_wp2_with fail
 refine Bls.step (b_ask (n:=n+9) _ _ _ h15 r15) ?_
 rintro _ W16 ⟨⟨u15,rfl⟩,h16,b16⟩
 have hq16:=b16.f _ _ _ (by decide) (by decide) (by decide) hq15
 have p16:=(hq16.cell 0).trans rfl
 have q16:=(hq16.cell 1).trans rfl
 have r16:=BI.rins (n:=n+9) h16 r15
 go_wp2_with fail
 refine Bls.step (b_set (n:=n+8) _ _ h16 r16) ?_
 rintro _ W17 ⟨⟨u16,rfl⟩,h17,b17⟩
 have hq17:=b17.f _ _ _ (by decide) (by decide) (by decide) hq16
 have p17:=(hq17.cell 0).trans rfl
 have q17:=(hq17.cell 1).trans rfl
 have r17:=BI.rins (n:=n+8) h17 r16
 go_wp2_with fail
 refine Bls.step (b_alu (n:=n+7) _ _ _ _ h17 r17) ?_
 rintro _ W18 ⟨⟨u17,rfl⟩,h18,b18⟩
 have hq18:=b18.f _ _ _ (by decide) (by decide) (by decide) hq17
 have p18:=(hq18.cell 0).trans rfl
 have q18:=(hq18.cell 1).trans rfl
 have r18:=BI.rins (n:=n+7) h18 r17
 go_wp2_with fail
 try rw [str_done]
 refine Bls.step (b_go (n:=n+6) _ _ n_done h18 r18) ?_
 rintro _ W19 ⟨⟨u18,rfl⟩,h19,b19⟩
 have hq19:=b19.f _ _ _ (by decide) (by decide) (by decide) hq18
 have p19:=(hq19.cell 0).trans rfl
 have q19:=(hq19.cell 1).trans rfl
 have r19:=BI.rgo (n:=n+6) h19 r18
 go_wp2_with fail
 try rw [str_wake]
 refine Bls.step (b_at (n:=n+5) n_wake nm_wake h19 r19 (by kernel_rfl)) ?_
 rintro _ W20 ⟨⟨u19,rfl⟩,h20,b20⟩
 have hq20:=b20.f _ _ _ (by decide) (by decide) (by decide) hq19
 have p20:=(hq20.cell 0).trans rfl
 have q20:=(hq20.cell 1).trans rfl
 have r20:=BI.rat (n:=n+5) h20 r19
 go_wp2_with fail
 refine (minus_one _).mono ?_
 rintro e W21 ⟨rfl,rfl⟩
 have h21:=h20
 have b21:=BelF.refl N0 W21
 have r21:=r20
 have hq21:=hq20
 go_wp2_with fail
 refine Bls.step (b_set (n:=n+4) _ _ h21 r21) ?_
 rintro _ W22 ⟨⟨u21,rfl⟩,h22,b22⟩
 have hq22:=b22.f _ _ _ (by decide) (by decide) (by decide) hq21
 have p22:=(hq22.cell 0).trans rfl
 have q22:=(hq22.cell 1).trans rfl
 have r22:=BI.rins (n:=n+4) h22 r21
 go_wp2_with fail
 refine Bls.step (b_ask (n:=n+3) _ _ _ h22 r22) ?_
 rintro _ W23 ⟨⟨u22,rfl⟩,h23,b23⟩
 have hq23:=b23.f _ _ _ (by decide) (by decide) (by decide) hq22
 have p23:=(hq23.cell 0).trans rfl
 have q23:=(hq23.cell 1).trans rfl
 have r23:=BI.rins (n:=n+3) h23 r22
 go_wp2_with fail
 try rw [str_done]
 refine Bls.step (b_at (n:=n+2) n_done nm_done h23 r23 (by kernel_rfl)) ?_
 rintro _ W24 ⟨⟨u23,rfl⟩,h24,b24⟩
 have hq24:=b24.f _ _ _ (by decide) (by decide) (by decide) hq23
 have p24:=(hq24.cell 0).trans rfl
 have q24:=(hq24.cell 1).trans rfl
 have r24:=BI.rat (n:=n+2) h24 r23
 go_wp2_with fail
 refine Bls.step (b_close (n:=n+0) h24 r24 (by kernel_rfl)) ?_
 rintro _ W25 ⟨⟨u24,rfl⟩,h25,b25⟩
 have hq25:=b25.f _ _ _ (by decide) (by decide) (by decide) hq24
 have p25:=(hq25.cell 0).trans rfl
 have q25:=(hq25.cell 1).trans rfl
 have r25:=BB.Room.close (n:=n+0) r24
 go_wp2
 go_end0
 exact ⟨⟨_,rfl⟩,h25,b0.trans (b1.trans (b2.trans (b3.trans (b4.trans (b5.trans (b6.trans (b7.trans (b8.trans (b9.trans (b10.trans (b11.trans (b12.trans (b13.trans (b14.trans (b15.trans (b16.trans (b17.trans (b18.trans (b19.trans (b20.trans (b21.trans (b22.trans (b23.trans (b24.trans (b25)))))))))))))))))))))))))⟩
end Go.Proofs.YtmhfpjnkjlhbpaaGreatDoor
