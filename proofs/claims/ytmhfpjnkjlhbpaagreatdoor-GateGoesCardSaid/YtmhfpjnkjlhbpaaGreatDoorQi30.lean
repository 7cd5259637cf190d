/- seq: more, begin, read (printed by gen/bldf.py). seq.Code at what may be asked (printed by gen/bldf.py). gate: wake, enter, done, barrier (strangers); gate.Code there (printed by gen/bldf.py). gate: meet, barrier; gate.Code of who has a part in a barrier. once (plain): the code of a thread that enters what is done once, and does it if it is told so; what holds whatever the turns. once (plain): whatever is picked, what holds of what is done once holds. -/
import Derived.Test.YtmhfpjnkjlhbpaaGreatDoorQi09
import Derived.Test.YtmhfpjnkjlhbpaaGreatDoorQi20
import Derived.Test.YtmhfpjnkjlhbpaaGreatDoorQi07
import Derived.Test.YtmhfpjnkjlhbpaaGreatDoorQi26
namespace Go.Proofs.YtmhfpjnkjlhbpaaGreatDoor
open Go.ChangeShapes Go.WideShapes Go.ChangeAt Go.RowKit Go.Deep
set_option linter.unusedVariables false
set_option maxRecDepth 100000
set_option linter.unusedSimpArgs false
theorem BI.fresh {N0:Nat} {W:World} (hN:N0<=W.heap.size):BI N0 (W.alloc (.cells #[.slice none 0 0,.map none,.slice none 0 0,.bool false] 130)) W.heap.size BB.e:=
 ⟨_,_,none,Blk.new _ _ _,hN,⟨rfl,.inl ⟨rfl,rfl⟩⟩,⟨rfl,.inl ⟨rfl,rfl⟩⟩,rfl⟩
theorem BB.e_room (n:Nat) (h:n<=1000):BB.e.Room n:=⟨by show 0+n<=_;omega,by show 0+n<=_;omega,by show 0+n<=_;omega⟩
theorem OutI.below {W0 W1 W':World} {v:Value} {l:List Ins} (h:OutI W1 v l W') (hs:W0.heap.size<=W1.heap.size):OutI W0 v l W':=by
 obtain ⟨og,cap,cs,h1,h2,h3,h4,h5,h6,h7⟩:=h
 exact ⟨og,cap,cs,h1,h2,h3,h4,h5,Nat.le_trans hs h6,h7⟩
def BB.wake (b:BB) (k a:Int):BB:=(b.ins ⟨1,4,0,0,k⟩).ins ⟨24,4,8,0,a⟩
theorem BB.Room.wake {b:BB} {n:Nat} (h:b.Room (n+2)) (k a:Int):(b.wake k a).Room n:=BB.Room.ins (BB.Room.ins h _) _
theorem every_any (W:World):Calls Tryz.prog 112 #[] W fun e W'=>e= .returned (.int .u32 4294967295)/\W'=W:=by
 have cM:Calls Tryz.prog 103 #[.int .u32 1] W fun e W'=>e= .returned (.int .u32 4294967295)/\W'=W:=by
  go_enter Tryz.func103,Tryz.ntmps103
  go_wp2
  go_ret
  exact ⟨by first|rfl|decide,rfl⟩
 go_enter Tryz.func112,Tryz.ntmps112
 go_wp2_with fail
 refine cM.mono ?_
 rintro e W1 ⟨rfl,rfl⟩
 go_wp2
 go_ret
 exact ⟨rfl,rfl⟩
set_option maxHeartbeats 2000000 in
theorem b_wake {N0 bb:Nat} {b:BB} {n:Nat} (k a:Int) {W:World} (h:BI N0 W bb b) (hr:b.Room (n+2)):Bls 111 #[.pointer (some ⟨bb,0,none⟩),.int .u32 k,.int .u32 a] N0 bb b (b.wake k a) W:=by
 unfold Bls
 go_enter Tryz.func111,Tryz.ntmps111
 go_wp2_with fail
 refine Bls.step (b_set (n:=n+1) _ _ h hr) ?_
 rintro _ W1 ⟨⟨u0,rfl⟩,h1,b1⟩
 have r1:=BI.rins (n:=n+1) h1 hr
 go_wp2_with fail
 refine Bls.step (b_ask (n:=n+0) _ _ _ h1 r1) ?_
 rintro _ W2 ⟨⟨u1,rfl⟩,h2,b2⟩
 have r2:=BI.rins (n:=n+0) h2 r1
 go_wp2
 go_end0
 exact ⟨⟨_,rfl⟩,h2,b1.trans (b2)⟩
set_option maxHeartbeats 2000000 in
theorem b_barS {N0 bb:Nat} {n:Nat} (N t base arg:Int) {W:World} (h:BI N0 W bb BB.e) (hr:BB.e.Room (n+1)) (hN:1<=N/\N<=8) (ht:0<=t/\t<=1000) (ha:0<=arg/\arg<=4294967295) (hs:N<=t):Bls 69 #[.pointer (some ⟨bb,0,none⟩),.agg #[.int .i64 13,.int .i64 N,.int .i64 0,.int .i64 0],.int .i64 t,.int .u32 base,.int .u32 arg] N0 bb BB.e (BB.e.ins ⟨1,7,0,0,4⟩) W:=by
 unfold Bls
 have hq:=Blk.new W 46 #[.int .i64 13,.int .i64 N,.int .i64 0,.int .i64 0]
 have hB:=(Below.refl W.heap.size W).alloc (Nat.le_refl _) (.cells #[.int .i64 13,.int .i64 N,.int .i64 0,.int .i64 0] 46)
 have q1:=(hq.cell 1).trans rfl
 have hI:=h.below hB
 have hN0:N0<=W.heap.size:=by obtain ⟨vc,vl,mo,hP⟩:=h;exact hP.lt
 go_enter Tryz.func69,Tryz.ntmps69
 go_wp2_with fail
 refine Bls.step (b_set (n:=n) _ _ hI hr) ?_
 rintro _ W1 ⟨⟨u0,rfl⟩,h1,b1⟩
 go_wp2
 go_end0
 exact ⟨⟨_,rfl⟩,h1,(BelF.of hB hN0).trans b1⟩
set_option maxHeartbeats 4000000 in
theorem code_barS (N threads base t arg:Int) (ht:1<=threads/\threads<=8) (h0:0<=t/\t<threads) (ha:0<=arg/\arg<=4294967295) (hN:1<=N/\N<=threads) (hs:N<=t) (W:World) (hT:Tab W) (hO:ONam W):
 Calls Tryz.prog 34 #[.agg #[.int .i64 13,.int .i64 N,.int .i64 0,.int .i64 0],.int .i64 9,.int .i64 threads,.int .i64 t,.int .u32 base,.int .u32 arg] W fun e W'=>(∃v,e= .returned (.tuple #[v,.bool true])/\OutI W v (BB.e.ins ⟨1,7,0,0,4⟩).out W')/\Below W.heap.size W W':=by
 have hq:=Blk.new W 46 #[.int .i64 13,.int .i64 N,.int .i64 0,.int .i64 0]
 have hB:=(Below.refl W.heap.size W).alloc (Nat.le_refl _) (.cells #[.int .i64 13,.int .i64 N,.int .i64 0,.int .i64 0] 46)
 have q0:=(hq.cell 0).trans rfl
 have q1:=(hq.cell 1).trans rfl
 have q2:=(hq.cell 2).trans rfl
 have q3:=(hq.cell 3).trans rfl
 have htt:t<=1000:=by omega
 have cMy:=may_bar N threads t hN ht h0 (W.alloc (.cells #[.int .i64 13,.int .i64 N,.int .i64 0,.int .i64 0] 46))
 go_enter Tryz.func34,Tryz.ntmps34
 go_wp2_with fail
 refine cMy.mono ?_
 rintro e V0 ⟨rfl,hB0⟩
 clear cMy
 have hq0:=hq.below hB0 hq.lt
 have hb0:=step_below hB hB0
 clear q0 q1 q2 q3 hB hB0 hq
 have hI:=BI.fresh (N0:=W.heap.size) (W:=V0) hb0.size
 have hal:=(Below.refl V0.heap.size V0).alloc (Nat.le_refl _) (.cells #[.slice none 0 0,.map none,.slice none 0 0,.bool false] 130)
 have hb1:=step_below hb0 hal
 have hqs:=hq0.below hal hq0.lt
 have q0:=(hqs.cell 0).trans rfl
 have q1:=(hqs.cell 1).trans rfl
 have q2:=(hqs.cell 2).trans rfl
 have q3:=(hqs.cell 3).trans rfl
 clear hal hqs hq0
 have HZ:=Lib.hid (And.intro hb0 (And.intro hb1 hT))
 clear hb0 hT
 obtain ⟨bb,hbb⟩: ∃bb,V0.heap.size=bb:=⟨_,rfl⟩
 rw [hbb]at hI
 have hr:=BB.e_room 900 (by decide)
 go_wp2_with fail
 try rw [hbb]
 refine Bls.step (b_barS (n:=899) N t base arg hI hr (by omega) (by omega) ha hs) ?_
 rintro _ W1 ⟨⟨u0,rfl⟩,h1,b1⟩
 have hbz:=hb1.trans b1.b
 have hTz:=HZ.out.2.2.step hbz
 go_wp2_with fail
 refine (bcode_any W.heap.size bb _ W1 h1 hTz (by kernel_rfl) (Nat.le_of_ble_eq_true (by kernel_rfl)) (Nat.le_of_ble_eq_true (by kernel_rfl)) (Nat.le_of_ble_eq_true (by kernel_rfl))).mono ?_
 rintro e V9 ⟨⟨v,rfl,hO9⟩,hB9⟩
 go_wp2
 go_ret2
 exact ⟨⟨_,rfl,hO9.below hbz.size⟩,step_below hbz hB9⟩
def BB.gmore (b:BB) (a:Int):BB:=(b.ins ⟨1,4,0,0,1⟩).ins ⟨20,4,8,0,a⟩
def BB.gmeet (b:BB) (base k:Int):BB:=b|>.ins ⟨16,5,8,0,base+1⟩|>.gmore base|>.ins ⟨1,6,0,0,k⟩|>.ins ⟨12,6,4,6,0⟩|>.go 14 6 n_look|>.zero base|>.gmore (base+1)|>.wake 4294967295 (base+1)|>.go 13 0 n_done|>.at n_look|>.ins ⟨16,4,8,0,base+1⟩|>.ins ⟨12,6,4,5,0⟩|>.go 14 6 n_done|>.ins ⟨2,4,5,0,0⟩|>.ins ⟨23,4,8,0,base+1⟩|>.go 13 0 n_look|>.at n_done|>.close
theorem BB.Room.gmore {b:BB} {n:Nat} (h:b.Room (n+2)) (a:Int):(b.gmore a).Room n:=BB.Room.ins (BB.Room.ins h _) _
set_option maxHeartbeats 2000000 in
theorem b_gmore {N0 bb:Nat} {b:BB} {n:Nat} (a:Int) {W:World} (h:BI N0 W bb b) (hr:b.Room (n+2)):Bls 110 #[.pointer (some ⟨bb,0,none⟩),.int .u32 a] N0 bb b (b.gmore a) W:=by
 unfold Bls
 go_enter Tryz.func110,Tryz.ntmps110
 go_wp2_with fail
 refine Bls.step (b_set (n:=n+1) _ _ h hr) ?_
 rintro _ W1 ⟨⟨u0,rfl⟩,h1,b1⟩
 have r1:=BI.rins (n:=n+1) h1 hr
 go_wp2_with fail
 refine Bls.step (b_ask (n:=n+0) _ _ _ h1 r1) ?_
 rintro _ W2 ⟨⟨u1,rfl⟩,h2,b2⟩
 have r2:=BI.rins (n:=n+0) h2 r1
 go_wp2
 go_end0
 exact ⟨⟨_,rfl⟩,h2,b1.trans (b2)⟩
set_option maxHeartbeats 2000000 in
theorem b_meet {N0 bb:Nat} {n:Nat} (N base:Int) {W:World} (h:BI N0 W bb BB.e) (hr:BB.e.Room (n+23)) (hN:1<=N/\N<=8) (hb:0<=base/\base<=4294960000):Bls 113 #[.pointer (some ⟨bb,0,none⟩),.int .i64 N,.int .u32 base] N0 bb BB.e (BB.gmeet BB.e base (N-1)) W:=by
 unfold Bls
 go_enter Tryz.func113,Tryz.ntmps113
 go_wp2_with fail
 refine Bls.step (b_ask (n:=n+22) _ _ _ h hr) ?_
 rintro _ W1 ⟨⟨u0,rfl⟩,h1,b1⟩
 have r1:=BI.rins (n:=n+22) h1 hr
 go_wp2_with fail
 refine Bls.step (b_gmore (n:=n+20) _ h1 r1) ?_
 rintro _ W2 ⟨⟨u1,rfl⟩,h2,b2⟩
 have r2:=BB.Room.gmore r1 base
 go_wp2_with fail
 refine Bls.step (b_set (n:=n+19) _ _ h2 r2) ?_
 rintro _ W3 ⟨⟨u2,rfl⟩,h3,b3⟩
 have r3:=BI.rins (n:=n+19) h3 r2
 go_wp2_with fail
 refine Bls.step (b_alu (n:=n+18) _ _ _ _ h3 r3) ?_
 rintro _ W4 ⟨⟨u3,rfl⟩,h4,b4⟩
 have r4:=BI.rins (n:=n+18) h4 r3
 go_wp2_with fail
 try rw [str_look]
 refine Bls.step (b_go (n:=n+17) _ _ n_look h4 r4) ?_
 rintro _ W5 ⟨⟨u4,rfl⟩,h5,b5⟩
 have r5:=BI.rgo (n:=n+17) h5 r4
 go_wp2_with fail
 refine Bls.step (b_zero (n:=n+15) _ h5 r5) ?_
 rintro _ W6 ⟨⟨u5,rfl⟩,h6,b6⟩
 have r6:=BB.Room.zero r5 base
 go_wp2_with fail
 refine Bls.step (b_gmore (n:=n+13) _ h6 r6) ?_
 rintro _ W7 ⟨⟨u6,rfl⟩,h7,b7⟩
 have r7:=BB.Room.gmore r6 (base+1)
 go_wp2_with fail
 refine (every_any _).mono ?_
 rintro e W8 ⟨rfl,rfl⟩
 have h8:=h7
 have b8:=BelF.refl N0 W8
 have r8:=r7
 go_wp2_with fail
 refine Bls.step (b_wake (n:=n+11) _ _ h8 r8) ?_
 rintro _ W9 ⟨⟨u8,rfl⟩,h9,b9⟩
 have r9:=BB.Room.wake r8 4294967295 (base+1)
 go_wp2_with fail
 try rw [str_done]
 refine Bls.step (b_go (n:=n+10) _ _ n_done h9 r9) ?_
 rintro _ W10 ⟨⟨u9,rfl⟩,h10,b10⟩
 have r10:=BI.rgo (n:=n+10) h10 r9
 go_wp2_with fail
 try rw [str_look]
 refine Bls.step (b_at (n:=n+9) n_look nm_look h10 r10 (by kernel_rfl)) ?_
 rintro _ W11 ⟨⟨u10,rfl⟩,h11,b11⟩
 have r11:=BI.rat (n:=n+9) h11 r10
 go_wp2_with fail
 refine Bls.step (b_ask (n:=n+8) _ _ _ h11 r11) ?_
 rintro _ W12 ⟨⟨u11,rfl⟩,h12,b12⟩
 have r12:=BI.rins (n:=n+8) h12 r11
 go_wp2_with fail
 refine Bls.step (b_alu (n:=n+7) _ _ _ _ h12 r12) ?_
 rintro _ W13 ⟨⟨u12,rfl⟩,h13,b13⟩
 have r13:=BI.rins (n:=n+7) h13 r12
 go_wp2_with fail
 try rw [str_done]
 refine Bls.step (b_go (n:=n+6) _ _ n_done h13 r13) ?_
 rintro _ W14 ⟨⟨u13,rfl⟩,h14,b14⟩
 have r14:=BI.rgo (n:=n+6) h14 r13
 go_wp2_with fail
 refine Bls.step (b_do (n:=n+5) _ _ _ _ _ h14 r14) ?_
 rintro _ W15 ⟨⟨u14,rfl⟩,h15,b15⟩
 have r15:=BI.rins (n:=n+5) h15 r14
 go_wp2_with fail
 refine Bls.step (b_ask (n:=n+4) _ _ _ h15 r15) ?_
 rintro _ W16 ⟨⟨u15,rfl⟩,h16,b16⟩
 have r16:=BI.rins (n:=n+4) h16 r15
 go_wp2_with fail
 try rw [str_look]
 refine Bls.step (b_go (n:=n+3) _ _ n_look h16 r16) ?_
 rintro _ W17 ⟨⟨u16,rfl⟩,h17,b17⟩
 have r17:=BI.rgo (n:=n+3) h17 r16
 go_wp2_with fail
 try rw [str_done]
 refine Bls.step (b_at (n:=n+2) n_done nm_done h17 r17 (by kernel_rfl)) ?_
 rintro _ W18 ⟨⟨u17,rfl⟩,h18,b18⟩
 have r18:=BI.rat (n:=n+2) h18 r17
 go_wp2_with fail
 refine Bls.step (b_close (n:=n) h18 r18 (by kernel_rfl)) ?_
 rintro _ W19 ⟨⟨u18,rfl⟩,h19,b19⟩
 have r19:=BB.Room.close r18
 go_wp2
 go_end0
 exact ⟨⟨_,rfl⟩,h19,b1.trans (b2.trans (b3.trans (b4.trans (b5.trans (b6.trans (b7.trans (b8.trans (b9.trans (b10.trans (b11.trans (b12.trans (b13.trans (b14.trans (b15.trans (b16.trans (b17.trans (b18.trans (b19))))))))))))))))))⟩
set_option maxHeartbeats 2000000 in
theorem b_barM {N0 bb:Nat} {n:Nat} (N t base:Int) {W:World} (h:BI N0 W bb BB.e) (hr:BB.e.Room (n+23)) (hN:1<=N/\N<=8) (ht:0<=t/\t<=1000) (hs: ¬N<=t) (hb:0<=base/\base<=4294960000):Bls 69 #[.pointer (some ⟨bb,0,none⟩),.agg #[.int .i64 13,.int .i64 N,.int .i64 0,.int .i64 0],.int .i64 t,.int .u32 base,.int .u32 N] N0 bb BB.e (BB.gmeet BB.e base (N-1)) W:=by
 unfold Bls
 have hq:=Blk.new W 46 #[.int .i64 13,.int .i64 N,.int .i64 0,.int .i64 0]
 have hB:=(Below.refl W.heap.size W).alloc (Nat.le_refl _) (.cells #[.int .i64 13,.int .i64 N,.int .i64 0,.int .i64 0] 46)
 have q1:=(hq.cell 1).trans rfl
 have hI:=h.below hB
 have hN0:N0<=W.heap.size:=by obtain ⟨vc,vl,mo,hP⟩:=h;exact hP.lt
 go_enter Tryz.func69,Tryz.ntmps69
 go_wp2_with fail
 refine Bls.step (b_meet (n:=n) _ _ hI hr hN hb) ?_
 rintro _ W1 ⟨⟨u0,rfl⟩,h1,b1⟩
 go_wp2
 go_end0
 exact ⟨⟨_,rfl⟩,h1,(BelF.of hB hN0).trans b1⟩
set_option maxHeartbeats 4000000 in
theorem code_barM (N threads base t:Int) (ht:1<=threads/\threads<=8) (h0:0<=t/\t<threads) (hb:0<=base/\base<=4294960000) (hN:1<=N/\N<=threads) (hs: ¬N<=t) (W:World) (hT:Tab W) (hO:ONam W):
 Calls Tryz.prog 34 #[.agg #[.int .i64 13,.int .i64 N,.int .i64 0,.int .i64 0],.int .i64 9,.int .i64 threads,.int .i64 t,.int .u32 base,.int .u32 N] W fun e W'=>(∃v,e= .returned (.tuple #[v,.bool true])/\OutI W v (BB.gmeet BB.e base (N-1)).out W')/\Below W.heap.size W W':=by
 have hq:=Blk.new W 46 #[.int .i64 13,.int .i64 N,.int .i64 0,.int .i64 0]
 have hB:=(Below.refl W.heap.size W).alloc (Nat.le_refl _) (.cells #[.int .i64 13,.int .i64 N,.int .i64 0,.int .i64 0] 46)
 have q0:=(hq.cell 0).trans rfl
 have q1:=(hq.cell 1).trans rfl
 have q2:=(hq.cell 2).trans rfl
 have q3:=(hq.cell 3).trans rfl
 have htt:t<=1000:=by omega
 have cMy:=may_bar N threads t hN ht h0 (W.alloc (.cells #[.int .i64 13,.int .i64 N,.int .i64 0,.int .i64 0] 46))
 go_enter Tryz.func34,Tryz.ntmps34
 go_wp2_with fail
 refine cMy.mono ?_
 rintro e V0 ⟨rfl,hB0⟩
 clear cMy
 have hq0:=hq.below hB0 hq.lt
 have hb0:=step_below hB hB0
 clear q0 q1 q2 q3 hB hB0 hq
 have hI:=BI.fresh (N0:=W.heap.size) (W:=V0) hb0.size
 have hal:=(Below.refl V0.heap.size V0).alloc (Nat.le_refl _) (.cells #[.slice none 0 0,.map none,.slice none 0 0,.bool false] 130)
 have hb1:=step_below hb0 hal
 have hqs:=hq0.below hal hq0.lt
 have q0:=(hqs.cell 0).trans rfl
 have q1:=(hqs.cell 1).trans rfl
 have q2:=(hqs.cell 2).trans rfl
 have q3:=(hqs.cell 3).trans rfl
 clear hal hqs hq0
 have HZ:=Lib.hid (And.intro hb0 (And.intro hb1 hT))
 clear hb0 hT
 obtain ⟨bb,hbb⟩: ∃bb,V0.heap.size=bb:=⟨_,rfl⟩
 rw [hbb]at hI
 have hr:=BB.e_room 900 (by decide)
 go_wp2_with fail
 try rw [hbb]
 refine Bls.step (b_barM (n:=877) N t base hI hr (by omega) (by omega) (by omega) hb) ?_
 rintro _ W1 ⟨⟨u0,rfl⟩,h1,b1⟩
 have hbz:=hb1.trans b1.b
 have hTz:=HZ.out.2.2.step hbz
 go_wp2_with fail
 refine (bcode_any W.heap.size bb _ W1 h1 hTz (by kernel_rfl) (Nat.le_of_ble_eq_true (by kernel_rfl)) (Nat.le_of_ble_eq_true (by kernel_rfl)) (Nat.le_of_ble_eq_true (by kernel_rfl))).mono ?_
 rintro e V9 ⟨⟨v,rfl,hO9⟩,hB9⟩
 go_wp2
 go_ret2
 exact ⟨⟨_,rfl,hO9.below hbz.size⟩,step_below hbz hB9⟩
def cntE (f:Evt->Bool) (l:List Evt):Nat:=(l.filter f).length
theorem cntE_snoc (f:Evt->Bool) (l:List Evt) (x:Evt):cntE f (l++[x])=cntE f l+(if f x=true then 1 else 0):=by
 unfold cntE
 rw [List.filter_append,List.length_append]
 cases h:f x<;>simp [List.filter_cons,h]
theorem cntE_quiet {f:Evt->Bool} {l m:List Evt} (h: ∀x∈m,f x=false):cntE f (l++m)=cntE f l:=by
 unfold cntE
 have e:m.filter f=[]:=List.filter_eq_nil_iff.2 (fun x hx=>by rw [h x hx];decide)
 rw [List.filter_append,e,List.append_nil]
inductive Ph
 |free|busy (u:Nat)|over
def S1 (m:Int) (t:Nat) (b:List Ent):Prop:=(b=[(17,(t:Int)+1)]/\m=0)∨(b=[]/\m=(t:Int)+1)
def S2 (m:Int) (t:Nat) (b:List Ent):Prop:=(b=[(17,(t:Int)+1),(17,0)]/\m=0)∨(b=[(17,0)]/\m=(t:Int)+1)∨(b=[]/\m=0)
def oA (g:Ph) (m:Int) (e5 e2:Nat) (t:Nat) (r:Nat->Int) (b:List Ent):Nat->Prop
 |0=>g≠ .busy t/\b=[]
 |1=>g≠ .busy t/\b=[]
 |2=>g≠ .busy t/\b=[]/\r 4≠((t:Int)+1)
 |3=>g≠ .busy t/\b=[]/\r 4≠((t:Int)+1)/\r 5=((t:Int)+1)
 |4=>g≠ .busy t/\b=[]/\r 6=0/\r 5=((t:Int)+1)
 |7=>g≠ .busy t/\b=[]/\r 5=((t:Int)+1)
 |8=>g≠ .busy t/\b=[]/\r 5=((t:Int)+1)/\(r 4=2->e2=1)
 |9=>g≠ .busy t/\b=[]/\r 5=((t:Int)+1)/\r 6=2/\(r 4=2->e2=1)
 |10=>g≠ .busy t/\b=[]/\r 5=((t:Int)+1)/\(r 6≠0->e2=1)
 |11=>g≠ .busy t/\b=[]/\r 5=((t:Int)+1)
 |12=>g≠ .busy t/\b=[]/\r 5=((t:Int)+1)/\r 4=0
 |13=>g≠ .busy t/\b=[]/\r 5=((t:Int)+1)/\r 4=0/\r 6=1
 |14=>(g≠ .busy t/\b=[]/\r 4≠0/\r 5=((t:Int)+1))∨(g= .busy t/\b=[]/\r 4=0/\r 5=((t:Int)+1)/\m=0/\e5=0/\e2=0)
 |15=>g≠ .busy t/\b=[]/\r 5=((t:Int)+1)
 |16=>g≠ .busy t/\b=[]/\r 5=((t:Int)+1)
 |17=>g≠ .busy t/\b=[]/\r 5=((t:Int)+1)
 |18=>g≠ .busy t/\b=[]/\r 5=((t:Int)+1)
 |19=>g≠ .busy t/\b=[]/\r 5=((t:Int)+1)
 |20=>g= .busy t/\b=[]/\r 5=((t:Int)+1)/\m=0/\e5=0/\e2=0
 |21=>g= .busy t/\S1 m t b/\e5=0/\e2=0
 |22=>g= .busy t/\S1 m t b/\e5=0/\e2=0/\r 7=5
 |23=>g≠ .busy t/\b=[]/\e2=1
 |24=>(g≠ .busy t/\b=[]/\e2=1/\r 7=0)∨(g= .busy t/\S1 m t b/\e5=0/\e2=0/\r 7=5)
 |25=>(g≠ .busy t/\b=[]/\r 7=0)∨(g= .busy t/\S1 m t b/\e5=1/\e2=0/\r 7=5)
 |26=>g= .busy t/\S1 m t b/\e5=1/\e2=0
 |27=>g= .busy t/\S1 m t b/\e5=1/\e2=1
 |28=>g= .busy t/\S1 m t b/\e5=1/\e2=1/\r 4=((t:Int)+1)
 |29=>g= .busy t/\S1 m t b/\e5=1/\e2=1/\r 4=((t:Int)+1)/\r 5=((t:Int)+1)
 |30=>g= .busy t/\S1 m t b/\e5=1/\e2=1/\r 6=1
 |33=>g= .busy t/\S1 m t b/\e5=1/\e2=1
 |34=>g= .busy t/\S1 m t b/\e5=1/\e2=1/\r 4=0
 |35=>g= .busy t/\S2 m t b/\e5=1/\e2=1
 |36=>g= .busy t/\S2 m t b/\e5=1/\e2=1/\r 4=2
 |37=>g≠ .busy t/\b=[]
 |38=>g≠ .busy t/\b=[]
 |39=>g≠ .busy t/\b=[]
 |40=>g≠ .busy t/\b=[]/\r 7=0
 |_=>False
section
variable {nt:Nat} {rd:Nat->Nat} {v:Vw} {g:Ph} {e5 e2 t:Nat}
theorem updR_at (r:Nat->Int) (a:Nat) (x:Int):updR r a x a=x:=if_pos rfl
theorem updR_ot (r:Nat->Int) (a:Nat) (x:Int) (k:Nat) (h:k≠a):updR r a x k=r k:=if_neg h
end
theorem Th.parts {th:Th} {p:Int} {st:Int} (h1:th.pc=p) (h2:th.st=st):th=⟨p,th.regs,st⟩:=by rw [<-h1,<-h2]
end Go.Proofs.YtmhfpjnkjlhbpaaGreatDoor
