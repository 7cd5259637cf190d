/- rw.Code at what may be asked (printed by gen/rwcode.py). -/
import Derived.Test.YtmhfpjnkjlhbpaaGreatDoorQe35
import Derived.Test.YtmhfpjnkjlhbpaaGreatDoorQe29
import Derived.Test.YtmhfpjnkjlhbpaaGreatDoorQe33
namespace Go.Proofs.YtmhfpjnkjlhbpaaGreatDoor
open Go.ChangeShapes Go.WideShapes Go.ChangeAt Go.RowKit Go.Deep
set_option linter.unusedVariables false
set_option maxRecDepth 100000
set_option linter.unusedSimpArgs false
def fnR (v:Value):Option (DataW Unit×List MemPlace):=
 match v with
 | .func (.func n) f c=>if f.size=0/\c.size=0 then some (.lit (.int .i64 (n:Int)),[])else none
 | .nilFunc=>some (.lit (.bool false),[])
 |_=>none
theorem fnR_inv {v : Value} {n : Nat} {ps : List MemPlace} (h : fnR v = some (.lit (.int .i64 (n : Int)), ps)) : v = .func (.func n) #[] #[] := by
 unfold fnR at h
 split at h
 ·rename_i m f c
  by_cases q:f.size=0/\c.size=0
  ·rw [if_pos q]at h
   simp only [Option.some.injEq,Prod.mk.injEq,DataW.lit.injEq,Lit.int.injEq,true_and]at h
   obtain ⟨rfl⟩:=Array.size_eq_zero_iff.1 q.1
   obtain ⟨rfl⟩:=Array.size_eq_zero_iff.1 q.2
   have :m=n:=Int.ofNat_inj.1 h.1
   rw [this]
  ·rw [if_neg q]at h;cases h
 ·simp at h
 ·cases h
theorem BI.freshR {N0:Nat} {W:World} (hN:N0<=W.heap.size):BI N0 (W.alloc (.cells #[.slice none 0 0,.map none,.slice none 0 0,.bool false] 130)) W.heap.size BB.e:=
 ⟨_,_,none,Blk.new _ _ _,hN,⟨rfl,.inl ⟨rfl,rfl⟩⟩,⟨rfl,.inl ⟨rfl,rfl⟩⟩,rfl⟩
theorem BB.e_roomR (n:Nat) (h:n<=1000):BB.e.Room n:=⟨by show 0+n<=_;omega,by show 0+n<=_;omega,by show 0+n<=_;omega⟩
theorem OutI.belowR {W0 W1 W':World} {v:Value} {l:List Ins} (h:OutI W1 v l W') (hs:W0.heap.size<=W1.heap.size):OutI W0 v l W':=by
 obtain ⟨og,cap,cs,h1,h2,h3,h4,h5,h6,h7⟩:=h
 exact ⟨og,cap,cs,h1,h2,h3,h4,h5,Nat.le_trans hs h6,h7⟩
theorem rwkey_law:Maps.Keyed Tryz.prog 3:=Maps.int_keyed Tryz.underlying3
theorem rwkey (k:Int) (hk:0<=k/\k<=1000):keyOf Tryz.prog 3 (.int .i64 k)=some (.int .i64 k):=Maps.keyOf_int_mk Tryz.underlying3 (Go.WalkArith.wf_i64 (by omega))
theorem zero_fnB (w:World):(zeroValue 133).run Tryz.prog w= .ok .nilFunc w:=by kernel_rfl
set_option maxHeartbeats 4000000 in
theorem code_rwrite (threads base t arg:Int) (ht:1<=threads/\threads<=8) (h0:0<=t/\t<threads) (hb:0<=base/\base<=4294960000) (W:World) (hT:Tab W) (hO:ONam W):
 Calls Tryz.prog 24 #[.agg #[.int .i64 14,.int .i64 0,.int .i64 0,.int .i64 0],.int .i64 1,.int .i64 threads,.int .i64 t,.int .u32 base,.int .u32 arg] W fun e W'=>(∃v,e= .returned (.tuple #[v,.bool true])/\OutI W v (BB.rwrite BB.e base (base+1+t)).out W')/\Below W.heap.size W W':=by
 have hq:=Blk.new W 46 #[.int .i64 14,.int .i64 0,.int .i64 0,.int .i64 0]
 have hB:=(Below.refl W.heap.size W).alloc (Nat.le_refl _) (.cells #[.int .i64 14,.int .i64 0,.int .i64 0,.int .i64 0] 46)
 have q0:=(hq.cell 0).trans rfl
 have q1:=(hq.cell 1).trans rfl
 have q2:=(hq.cell 2).trans rfl
 have q3:=(hq.cell 3).trans rfl
 have cMy:=may_nam 14 (by decide) 1 threads t ht h0 (by decide) _ (hO.step hB)
 go_enter Tryz.func24,Tryz.ntmps24
 go_wp2_with fail
 refine cMy.mono ?_
 rintro e V0 ⟨rfl,hB0⟩
 clear cMy
 have hb0:=step_below hB hB0
 clear q0 q1 q2 q3 hB hB0 hq
 have hI:=BI.freshR (N0:=W.heap.size) (W:=V0) hb0.size
 have hal:=(Below.refl V0.heap.size V0).alloc (Nat.le_refl _) (.cells #[.slice none 0 0,.map none,.slice none 0 0,.bool false] 130)
 have hb1:=step_below hb0 hal
 obtain ⟨V1,hV1⟩: ∃V1,V0.alloc (.cells #[.slice none 0 0,.map none,.slice none 0 0,.bool false] 130)=V1:=⟨_,rfl⟩
 rw [hV1]at hI hb1
 have hal2:=(Below.refl V1.heap.size V1).alloc (Nat.le_refl _) (.cells #[.int .u32 base,.int .u32 (base+1+t)] 132)
 have hI2:=hI.below hal2
 have hb2:=step_below hb1 hal2
 have hw2:=Blk.new V1 132 #[.int .u32 base,.int .u32 (base+1+t)]
 obtain ⟨V2,hV2⟩: ∃V2,V1.alloc (.cells #[.int .u32 base,.int .u32 (base+1+t)] 132)=V2:=⟨_,rfl⟩
 rw [hV2]at hI2 hb2 hw2
 clear hal hal2 hI
 have qm:=run_makeMap (P:=Tryz.prog) 135 V2
 have o0:=World.ownsMap_made V2 Tryz.prog 3 fnR
 obtain ⟨X1, u1, o1, g1⟩ := o0.update rwkey_law Tryz.underlying135 (show 0 < maxLen by decide) (rwkey 1 (by decide)) (val := .func (.func 53) #[] #[]) (d := .lit (.int .i64 ((53 : Nat) : Int))) (ps := []) rfl
 obtain ⟨X2, u2, o2, g2⟩ := o1.update rwkey_law Tryz.underlying135 (show 1 < maxLen by decide) (rwkey 3 (by decide)) (val := .func (.func 54) #[] #[]) (d := .lit (.int .i64 ((54 : Nat) : Int))) (ps := []) rfl
 obtain ⟨X3, u3, o3, g3⟩ := o2.update rwkey_law Tryz.underlying135 (show 2 < maxLen by decide) (rwkey 2 (by decide)) (val := .func (.func 55) #[] #[]) (d := .lit (.int .i64 ((55 : Nat) : Int))) (ps := []) rfl
 obtain ⟨v,ps,hl,hv⟩:=o3.lookup rwkey_law Tryz.underlying135 (zero_fnB X3) (z:= .nilFunc) (zd:= .lit (.bool false)) (zp:=[]) rfl (rwkey 1 (by decide))
 obtain rfl : v = .func (.func 53) #[] #[] := fnR_inv (hv.trans rfl)
 have hm0:=(Below.refl V2.heap.size V2).alloc (Nat.le_refl _) (.map #[] 0)
 have hge: ∀g,some V2.heap.size=some g->V2.heap.size<=g:=fun g e=>by cases e;exact Nat.le_refl _
 have hm3:=((hm0.trans (below_of_grown hm0.size g1 hge)).trans (below_of_grown (Nat.le_trans hm0.size g1.size) g2 hge)).trans (below_of_grown (Nat.le_trans (Nat.le_trans hm0.size g1.size) g2.size) g3 hge)
 have hI3:=hI2.below hm3
 have hw3:=hw2.below hm3 hw2.lt
 have hb3:=step_below hb2 hm3
 have c0:=(hw3.cell 0).trans rfl
 have c1:=(hw3.cell 1).trans rfl
 have HZ:=Lib.hid (And.intro hb3 hT)
 clear hb0 hb1 hT hI2 hb2 hw2 hm0 hge hm3 o0 o1 o2 o3 g1 g2 g3 hv hb3 hw3
 have hbt:base+1+t<=4294967295:=by omega
 have hr:=BB.e_roomR 900 (by decide)
 obtain ⟨bb,hbb⟩: ∃bb,V0.heap.size=bb:=⟨_,rfl⟩
 rw [hbb]at hI3
 go_wp2_with fail
 try rw [hbb]
 refine Bls.step (b_rwrite (n:=883) _ _ hI3 hr) ?_
 rintro _ W1 ⟨⟨u0,rfl⟩,h1,b1⟩
 have hbz:=HZ.out.1.trans b1.b
 have hTz:=HZ.out.2.step hbz
 go_wp2_with fail
 refine (bcode_any W.heap.size bb _ W1 h1 hTz (by kernel_rfl) (Nat.le_of_ble_eq_true (by kernel_rfl)) (Nat.le_of_ble_eq_true (by kernel_rfl)) (Nat.le_of_ble_eq_true (by kernel_rfl))).mono ?_
 rintro e V9 ⟨⟨v,rfl,hO9⟩,hB9⟩
 go_wp2
 go_ret2
 exact ⟨⟨_,rfl,hO9.belowR hbz.size⟩,step_below hbz hB9⟩
set_option maxHeartbeats 4000000 in
theorem code_rread (threads base t arg:Int) (ht:1<=threads/\threads<=8) (h0:0<=t/\t<threads) (hb:0<=base/\base<=4294960000) (W:World) (hT:Tab W) (hO:ONam W):
 Calls Tryz.prog 24 #[.agg #[.int .i64 14,.int .i64 0,.int .i64 0,.int .i64 0],.int .i64 3,.int .i64 threads,.int .i64 t,.int .u32 base,.int .u32 arg] W fun e W'=>(∃v,e= .returned (.tuple #[v,.bool true])/\OutI W v (BB.rread BB.e base (base+1+t)).out W')/\Below W.heap.size W W':=by
 have hq:=Blk.new W 46 #[.int .i64 14,.int .i64 0,.int .i64 0,.int .i64 0]
 have hB:=(Below.refl W.heap.size W).alloc (Nat.le_refl _) (.cells #[.int .i64 14,.int .i64 0,.int .i64 0,.int .i64 0] 46)
 have q0:=(hq.cell 0).trans rfl
 have q1:=(hq.cell 1).trans rfl
 have q2:=(hq.cell 2).trans rfl
 have q3:=(hq.cell 3).trans rfl
 have cMy:=may_nam 14 (by decide) 3 threads t ht h0 (by decide) _ (hO.step hB)
 go_enter Tryz.func24,Tryz.ntmps24
 go_wp2_with fail
 refine cMy.mono ?_
 rintro e V0 ⟨rfl,hB0⟩
 clear cMy
 have hb0:=step_below hB hB0
 clear q0 q1 q2 q3 hB hB0 hq
 have hI:=BI.freshR (N0:=W.heap.size) (W:=V0) hb0.size
 have hal:=(Below.refl V0.heap.size V0).alloc (Nat.le_refl _) (.cells #[.slice none 0 0,.map none,.slice none 0 0,.bool false] 130)
 have hb1:=step_below hb0 hal
 obtain ⟨V1,hV1⟩: ∃V1,V0.alloc (.cells #[.slice none 0 0,.map none,.slice none 0 0,.bool false] 130)=V1:=⟨_,rfl⟩
 rw [hV1]at hI hb1
 have hal2:=(Below.refl V1.heap.size V1).alloc (Nat.le_refl _) (.cells #[.int .u32 base,.int .u32 (base+1+t)] 132)
 have hI2:=hI.below hal2
 have hb2:=step_below hb1 hal2
 have hw2:=Blk.new V1 132 #[.int .u32 base,.int .u32 (base+1+t)]
 obtain ⟨V2,hV2⟩: ∃V2,V1.alloc (.cells #[.int .u32 base,.int .u32 (base+1+t)] 132)=V2:=⟨_,rfl⟩
 rw [hV2]at hI2 hb2 hw2
 clear hal hal2 hI
 have qm:=run_makeMap (P:=Tryz.prog) 135 V2
 have o0:=World.ownsMap_made V2 Tryz.prog 3 fnR
 obtain ⟨X1, u1, o1, g1⟩ := o0.update rwkey_law Tryz.underlying135 (show 0 < maxLen by decide) (rwkey 1 (by decide)) (val := .func (.func 53) #[] #[]) (d := .lit (.int .i64 ((53 : Nat) : Int))) (ps := []) rfl
 obtain ⟨X2, u2, o2, g2⟩ := o1.update rwkey_law Tryz.underlying135 (show 1 < maxLen by decide) (rwkey 3 (by decide)) (val := .func (.func 54) #[] #[]) (d := .lit (.int .i64 ((54 : Nat) : Int))) (ps := []) rfl
 obtain ⟨X3, u3, o3, g3⟩ := o2.update rwkey_law Tryz.underlying135 (show 2 < maxLen by decide) (rwkey 2 (by decide)) (val := .func (.func 55) #[] #[]) (d := .lit (.int .i64 ((55 : Nat) : Int))) (ps := []) rfl
 obtain ⟨v,ps,hl,hv⟩:=o3.lookup rwkey_law Tryz.underlying135 (zero_fnB X3) (z:= .nilFunc) (zd:= .lit (.bool false)) (zp:=[]) rfl (rwkey 3 (by decide))
 obtain rfl : v = .func (.func 54) #[] #[] := fnR_inv (hv.trans rfl)
 have hm0:=(Below.refl V2.heap.size V2).alloc (Nat.le_refl _) (.map #[] 0)
 have hge: ∀g,some V2.heap.size=some g->V2.heap.size<=g:=fun g e=>by cases e;exact Nat.le_refl _
 have hm3:=((hm0.trans (below_of_grown hm0.size g1 hge)).trans (below_of_grown (Nat.le_trans hm0.size g1.size) g2 hge)).trans (below_of_grown (Nat.le_trans (Nat.le_trans hm0.size g1.size) g2.size) g3 hge)
 have hI3:=hI2.below hm3
 have hw3:=hw2.below hm3 hw2.lt
 have hb3:=step_below hb2 hm3
 have c0:=(hw3.cell 0).trans rfl
 have c1:=(hw3.cell 1).trans rfl
 have HZ:=Lib.hid (And.intro hb3 hT)
 clear hb0 hb1 hT hI2 hb2 hw2 hm0 hge hm3 o0 o1 o2 o3 g1 g2 g3 hv hb3 hw3
 have hbt:base+1+t<=4294967295:=by omega
 have hr:=BB.e_roomR 900 (by decide)
 obtain ⟨bb,hbb⟩: ∃bb,V0.heap.size=bb:=⟨_,rfl⟩
 rw [hbb]at hI3
 go_wp2_with fail
 try rw [hbb]
 refine Bls.step (b_rread (n:=876) _ _ hI3 hr) ?_
 rintro _ W1 ⟨⟨u0,rfl⟩,h1,b1⟩
 have hbz:=HZ.out.1.trans b1.b
 have hTz:=HZ.out.2.step hbz
 go_wp2_with fail
 refine (bcode_any W.heap.size bb _ W1 h1 hTz (by kernel_rfl) (Nat.le_of_ble_eq_true (by kernel_rfl)) (Nat.le_of_ble_eq_true (by kernel_rfl)) (Nat.le_of_ble_eq_true (by kernel_rfl))).mono ?_
 rintro e V9 ⟨⟨v,rfl,hO9⟩,hB9⟩
 go_wp2
 go_ret2
 exact ⟨⟨_,rfl,hO9.belowR hbz.size⟩,step_below hbz hB9⟩
set_option maxHeartbeats 4000000 in
theorem code_rrel (threads base t arg:Int) (ht:1<=threads/\threads<=8) (h0:0<=t/\t<threads) (hb:0<=base/\base<=4294960000) (W:World) (hT:Tab W) (hO:ONam W):
 Calls Tryz.prog 24 #[.agg #[.int .i64 14,.int .i64 0,.int .i64 0,.int .i64 0],.int .i64 2,.int .i64 threads,.int .i64 t,.int .u32 base,.int .u32 arg] W fun e W'=>(∃v,e= .returned (.tuple #[v,.bool true])/\OutI W v (BB.rrel BB.e base (base+1+t)).out W')/\Below W.heap.size W W':=by
 have hq:=Blk.new W 46 #[.int .i64 14,.int .i64 0,.int .i64 0,.int .i64 0]
 have hB:=(Below.refl W.heap.size W).alloc (Nat.le_refl _) (.cells #[.int .i64 14,.int .i64 0,.int .i64 0,.int .i64 0] 46)
 have q0:=(hq.cell 0).trans rfl
 have q1:=(hq.cell 1).trans rfl
 have q2:=(hq.cell 2).trans rfl
 have q3:=(hq.cell 3).trans rfl
 have cMy:=may_nam 14 (by decide) 2 threads t ht h0 (by decide) _ (hO.step hB)
 go_enter Tryz.func24,Tryz.ntmps24
 go_wp2_with fail
 refine cMy.mono ?_
 rintro e V0 ⟨rfl,hB0⟩
 clear cMy
 have hb0:=step_below hB hB0
 clear q0 q1 q2 q3 hB hB0 hq
 have hI:=BI.freshR (N0:=W.heap.size) (W:=V0) hb0.size
 have hal:=(Below.refl V0.heap.size V0).alloc (Nat.le_refl _) (.cells #[.slice none 0 0,.map none,.slice none 0 0,.bool false] 130)
 have hb1:=step_below hb0 hal
 obtain ⟨V1,hV1⟩: ∃V1,V0.alloc (.cells #[.slice none 0 0,.map none,.slice none 0 0,.bool false] 130)=V1:=⟨_,rfl⟩
 rw [hV1]at hI hb1
 have hal2:=(Below.refl V1.heap.size V1).alloc (Nat.le_refl _) (.cells #[.int .u32 base,.int .u32 (base+1+t)] 132)
 have hI2:=hI.below hal2
 have hb2:=step_below hb1 hal2
 have hw2:=Blk.new V1 132 #[.int .u32 base,.int .u32 (base+1+t)]
 obtain ⟨V2,hV2⟩: ∃V2,V1.alloc (.cells #[.int .u32 base,.int .u32 (base+1+t)] 132)=V2:=⟨_,rfl⟩
 rw [hV2]at hI2 hb2 hw2
 clear hal hal2 hI
 have qm:=run_makeMap (P:=Tryz.prog) 135 V2
 have o0:=World.ownsMap_made V2 Tryz.prog 3 fnR
 obtain ⟨X1, u1, o1, g1⟩ := o0.update rwkey_law Tryz.underlying135 (show 0 < maxLen by decide) (rwkey 1 (by decide)) (val := .func (.func 53) #[] #[]) (d := .lit (.int .i64 ((53 : Nat) : Int))) (ps := []) rfl
 obtain ⟨X2, u2, o2, g2⟩ := o1.update rwkey_law Tryz.underlying135 (show 1 < maxLen by decide) (rwkey 3 (by decide)) (val := .func (.func 54) #[] #[]) (d := .lit (.int .i64 ((54 : Nat) : Int))) (ps := []) rfl
 obtain ⟨X3, u3, o3, g3⟩ := o2.update rwkey_law Tryz.underlying135 (show 2 < maxLen by decide) (rwkey 2 (by decide)) (val := .func (.func 55) #[] #[]) (d := .lit (.int .i64 ((55 : Nat) : Int))) (ps := []) rfl
 obtain ⟨v,ps,hl,hv⟩:=o3.lookup rwkey_law Tryz.underlying135 (zero_fnB X3) (z:= .nilFunc) (zd:= .lit (.bool false)) (zp:=[]) rfl (rwkey 2 (by decide))
 obtain rfl : v = .func (.func 55) #[] #[] := fnR_inv (hv.trans rfl)
 have hm0:=(Below.refl V2.heap.size V2).alloc (Nat.le_refl _) (.map #[] 0)
 have hge: ∀g,some V2.heap.size=some g->V2.heap.size<=g:=fun g e=>by cases e;exact Nat.le_refl _
 have hm3:=((hm0.trans (below_of_grown hm0.size g1 hge)).trans (below_of_grown (Nat.le_trans hm0.size g1.size) g2 hge)).trans (below_of_grown (Nat.le_trans (Nat.le_trans hm0.size g1.size) g2.size) g3 hge)
 have hI3:=hI2.below hm3
 have hw3:=hw2.below hm3 hw2.lt
 have hb3:=step_below hb2 hm3
 have c0:=(hw3.cell 0).trans rfl
 have c1:=(hw3.cell 1).trans rfl
 have HZ:=Lib.hid (And.intro hb3 hT)
 clear hb0 hb1 hT hI2 hb2 hw2 hm0 hge hm3 o0 o1 o2 o3 g1 g2 g3 hv hb3 hw3
 have hbt:base+1+t<=4294967295:=by omega
 have hr:=BB.e_roomR 900 (by decide)
 obtain ⟨bb,hbb⟩: ∃bb,V0.heap.size=bb:=⟨_,rfl⟩
 rw [hbb]at hI3
 go_wp2_with fail
 try rw [hbb]
 refine Bls.step (b_rrel (n:=875) _ _ hI3 hr) ?_
 rintro _ W1 ⟨⟨u0,rfl⟩,h1,b1⟩
 have hbz:=HZ.out.1.trans b1.b
 have hTz:=HZ.out.2.step hbz
 go_wp2_with fail
 refine (bcode_any W.heap.size bb _ W1 h1 hTz (by kernel_rfl) (Nat.le_of_ble_eq_true (by kernel_rfl)) (Nat.le_of_ble_eq_true (by kernel_rfl)) (Nat.le_of_ble_eq_true (by kernel_rfl))).mono ?_
 rintro e V9 ⟨⟨v,rfl,hO9⟩,hB9⟩
 go_wp2
 go_ret2
 exact ⟨⟨_,rfl,hO9.belowR hbz.size⟩,step_below hbz hB9⟩
end Go.Proofs.YtmhfpjnkjlhbpaaGreatDoor
