/- law08's Yard: wake. -/
import Derived.Test.YtjmnogpnjombgaaDoorYardE1
import Derived.Test.YtjmnogpnjombgaaDoorKernRw
namespace Go.Proofs.YtjmnogpnjombgaaDoor
open Go.ChangeShapes Go.WideShapes Go.ChangeAt Go.RowKit Go.Deep
set_option linter.unusedVariables false
set_option maxRecDepth 100000
set_option linter.unusedSimpArgs false

set_option maxHeartbeats 2000000 in
theorem ywake_any (B : YB) (s : Yst) (own : Nat → Prop) (W0 : World) (h : YInv B s own W0) (hx : s.asks.size + 1 ≤ 1000000) (hs : s.slp.length ≤ 10000) (hb : B.base ≤ W0.heap.size) (a n : Nat) (hn : n ≤ 4294967295) :
    Calls Tryd.prog 66 #[.int .i64 (a : Int), .int .u32 (n : Int), .pointer (some ⟨B.ab, 0, none⟩), .pointer (some ⟨B.wb, 0, none⟩)] W0 fun e W' => e = .returned (.int .u32 ((wk (a : Int) n s.slp).2.length : Int)) ∧ Moves (YInv B) { s with asks := s.asks ++ ⟨#[119]⟩, slp := (wk (a : Int) n s.slp).1 } own W0 W' := by
  have hA := yask_any B s own W0 h ⟨#[119]⟩ hx
  obtain ⟨a0, _, _⟩ := h.abx
  have hoy := h.oyb
  have hwl := wk_len (a : Int) n s.slp
  obtain ⟨S, hS⟩ : ∃ S, wk (a : Int) n s.slp = S := ⟨_, rfl⟩
  rw [hS] at hwl ⊢
  obtain ⟨m, hm⟩ : ∃ m, S.2.length = m := ⟨_, rfl⟩
  rw [hm] at hwl ⊢
  have hl2 : m ≤ 10000 := by omega
  have HS := Lib.hid (And.intro hS hm)
  clear h hx hwl hS hm
  go_enter Tryd.func66, Tryd.ntmps66
  go_wp2_with fail
  refine hA.mono ?_
  rintro e W ⟨⟨u, rfl⟩, h, hg1⟩
  have HM := Lib.hid (ymoves h hg1 hoy)
  have hb : B.base ≤ W.heap.size := Nat.le_trans hb hg1.size
  obtain ⟨arr, A, cap, hwb, hyb, ha6, hr, hnw, hny⟩ := h.slps
  dsimp only at ha6 hr hnw hny
  obtain ⟨A', cap', e1, _, hsl⟩ := own_sle slpc (fun _ => rfl) (0, 0) s.slp hr
  injection e1 with e1 _ e2
  subst e1 e2
  have hW := refWake_any A cap s.slp hs (a : Int) n hn W hsl
  have w0 := (hwb.cell 0).trans rfl
  have y5 := (hyb.cell 5).trans ha6
  have HC := Lib.hid (And.intro hwb (And.intro hyb ha6))
  have hE := fun own1 (h1 : YInv B _ own1 W) W4 v4 (h2 : Below W.heap.size W W4) (h3 : W4.ownsRow W.heap.size 98 2 v4 S.1.length (S.1.flatMap slpc)) => YInv.setSlp (s := { s with asks := s.asks ++ ⟨#[119]⟩ }) (l := S.1) h1 h2 (own_base h3 hb) (fun g hg => own_ge h3 g hg)
  have HE0 := Lib.hid hE
  unfold RefW at hW
  rw [HS.out.1, HS.out.2] at hW
  obtain ⟨sl, hsll⟩ : ∃ sl, s.slp.length = sl := ⟨_, rfl⟩
  rw [hsll] at hW y5
  clear h hwb hyb ha6 hr hnw hny hA a0 hg1 hsl hE hb hs hsll
  go_wp2_with fail
  refine hW.mono ?_
  rintro e W2 ⟨lv, ov, rfl, hl, ho, hB⟩
  obtain ⟨oA, oc, rfl, _, _⟩ := own_sl ho
  have HF := Lib.hid (HM.out.bind (fun own1 h1 => HE0.out own1 h1 W2 lv hB hl))
  obtain ⟨lA, lc, rfl, _, _⟩ := own_sl hl
  have w0' := ((HC.out.1.below hB HC.out.1.lt).cell 0).trans rfl
  have y5' := ((HC.out.2.1.below hB HC.out.2.1.lt).cell 5).trans HC.out.2.2
  have f5' := (HC.out.2.1.below hB HC.out.2.1.lt).frozen 5
  clear w0 y5 hW hl ho hB
  go_wp2
  go_ret
  exact ⟨rfl, HF.out⟩
end Go.Proofs.YtjmnogpnjombgaaDoor
