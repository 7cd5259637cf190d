/- GateGoes: by any even script all who enter a barrier come to an end: the card. -/
import Derived.Test.YtmhfpjnkjlhbpaaGreatDoorQi47
import Derived.Test.YtmhfpjnkjlhbpaaGreatDoorQi39
import Derived.Test.YtmhfpjnkjlhbpaaGreatDoorQi40
namespace Go.Proofs.YtmhfpjnkjlhbpaaGreatDoor
open Go.ChangeShapes Go.WideShapes Go.ChangeAt Go.RowKit Go.Deep
set_option linter.unusedVariables false
set_option maxRecDepth 100000
set_option linter.unusedSimpArgs false
theorem gateGoes_met (os:Os):laidMet Tryz.prog theLaid ((laidWorld os).forCall (fun _ _=>0) ⟨#[],#[.agg #[.int .u8 0,.int .u8 0,.int .u8 0,.int .u8 0],.slice none 0 0,.int .u8 0],[]⟩).memory:=
 laidMet_of_run' 8 (by kernel_rfl) (by kernel_rfl)
theorem gateGoes_reads (os:Os) {H:Type} (enc:TypeId×Value->H): ∃places,DataW.whole enc Tryz.prog ((laidWorld os).forCall (fun _ _=>0) ⟨#[],#[.agg #[.int .u8 0,.int .u8 0,.int .u8 0,.int .u8 0],.slice none 0 0,.int .u8 0],[]⟩).memory Tryz.f13.params.toList Rows.gateGoesSpec.vars false (#[.agg #[.int .u8 0,.int .u8 0,.int .u8 0,.int .u8 0],.slice none 0 0,.int .u8 0]:Array Value).toList 8=some ([.agg [.lit (.int .u8 0),.lit (.int .u8 0),.lit (.int .u8 0),.lit (.int .u8 0)],.nil,.lit (.int .u8 0)],[],places):=
 ⟨[],by kernel_rfl⟩
set_option maxRecDepth 100000 in
theorem gateGoes_lifted (os : Os) (started : os.Started) (H : Type) (enc : TypeId × Value -> H) (F : Stop.Interp) :
    ReturnsInHanded {} Tryz.checked os 13 .any ((OpenSpec.ofChange Rows.gateGoesSpec).preRow enc Tryz.prog Tryz.f13 Rows.gateGoesRow.domain false Rows.gateGoesRow.laid) (((OpenSpec.ofChange Rows.gateGoesSpec).at F).post enc Tryz.prog Tryz.f13 false true false false) := by
  obtain ⟨places, hx⟩ := gateGoes_reads os enc
  refine card_lifted started (by kernel_rfl) Tryz.func13
    (witness_row_at (enc := enc) (C := Tryz.checked) false (laidWorld os) #[.agg #[.int .u8 0, .int .u8 0, .int .u8 0, .int .u8 0], .slice none 0 0, .int .u8 0] rfl (by kernel_rfl) (by kernel_rfl) (by kernel_rfl)
      (OpenSpec.preRow_of_cond 8 hx (by kernel_rfl) (fun k hk => by cases hk) (by kernel_rfl) (gateGoes_met os)))
    4 rfl (by kernel_rfl) Tryz.underlying4 (fun ds h => ?_) (by kernel_rfl) ?_
  · rw [show Tryz.f13.params.size = 3 from by kernel_rfl] at h
    match ds, h with
    | [_, _, _], _ => rfl
  intro W base args ds p hT hO hval hA hlt hsz
  rw [Tryz.params13] at hA hval hsz
  obtain ⟨v0, v1, v2, d0, d1, d2, p0, p1, p2, rfl, rfl, rfl, h0, h1, h2⟩ := trodAll_three hA
  obtain ⟨lc, hlc5, rfl, hle⟩ := agg_u8 Tryz.underlying91 (by kernel_rfl) (by kernel_rfl) (fun i f hf => by
    rcases i with _ | _ | _ | _ | i
    · obtain rfl := Option.some.inj hf; exact Tryz.underlying5
    · obtain rfl := Option.some.inj hf; exact Tryz.underlying5
    · obtain rfl := Option.some.inj hf; exact Tryz.underlying5
    · obtain rfl := Option.some.inj hf; exact Tryz.underlying5
    · cases hf) (hval 0 91 v0 rfl rfl) h0
  obtain ⟨a, b, c, d, rfl⟩ : ∃ a b c d, lc = [a, b, c, d] := by
    match lc, hlc5 with
    | [a, b, c, d], _ => exact ⟨a, b, c, d, rfl⟩
  have h255 : a <= 255 /\ b <= 255 /\ c <= 255 /\ d <= 255 := ⟨hle a (by simp), hle b (by simp), hle c (by simp), hle d (by simp)⟩
  obtain ⟨B, sn, scap, Y, rfl, hlc, hcm, hsl, hwz⟩ := open_sl_ints Tryz.underlying24 Tryz.underlying5 (by kernel_rfl) (hval 1 24 v1 rfl rfl) h1 (fun x hx => hlt x (List.mem_append_left _ (List.mem_append_right _ hx)))
  obtain ⟨mo, rfl, rfl, rfl, wmo⟩ := open_int Tryz.underlying5 (hval 2 5 v2 rfl rfl) h2
  have hmo := bounds_u8 wmo
  obtain ⟨mn, rfl⟩ : ∃ mn : Nat, mo = (mn : Int) := ⟨mo.toNat, by omega⟩
  exact gateGoes_true a b c d h255 B sn scap Y mn (by omega) hlc hcm (fun i hi => bounds_u8 (hwz i hi)) W hT hO hsl
theorem gateGoes_said:Rows.GateGoesSaid:=
 OpenClaim.holds_of_cond 13 Tryz.f13 rfl rfl rfl rfl rfl rfl rfl ⟨rfl,rfl,rfl,rfl,rfl⟩ rfl rfl rfl rfl rfl (by kernel_rfl) Tryz.func13 (by kernel_rfl)
  (of_decide_eq_true (by kernel_rfl)) (by unfold Func.isWrapper;first|(rw [if_pos (by decide+kernel)];kernel_rfl)|(rw [if_neg (by decide+kernel)];exact ⟨rfl,rfl⟩))
  (fun os started H enc _ F=>by rw [OpenClaim.pre_eq_preRow];exact gateGoes_lifted os started H enc F)
theorem gateGoes_plain (f:FuncId) (fn:Func) (hf:Tryz.pinned.checked.prog.funcNamed "deadlatch/deadlatchlaw21.GateGoes" =some f) (hfn:Tryz.pinned.checked.prog.funcs[f]?=some fn):
 true=Tryz.pinned.checked.prog.looks []/\ ∀(j:Nat) t,fn.params[j]?=some t->Tryz.pinned.checked.prog.wantsStandIn t=false:=by
 obtain rfl:f=13:=Option.some.inj ((show Tryz.prog.funcNamed "deadlatch/deadlatchlaw21.GateGoes" =some 13 by kernel_rfl).symm.trans hf)|>.symm
 obtain rfl:fn=Tryz.f13:=(Option.some.inj (Tryz.func13.symm.trans hfn)).symm
 refine ⟨by kernel_rfl,fun j t ht=>?_⟩
 rw [Tryz.params13]at ht
 have hm:t=91∨t=24∨t=5:=by simpa using Array.mem_of_getElem? ht
 rcases hm with rfl|rfl|rfl
 ·exact (show Tryz.prog.wantsStandIn 91=false by kernel_rfl)
 ·exact (show Tryz.prog.wantsStandIn 24=false by kernel_rfl)
 ·exact (show Tryz.prog.wantsStandIn 5=false by kernel_rfl)
theorem gateGoes_card:Rows.GateGoesCardSaid:=
 Claim7.holds_tied_plain_at .later [] _ _ _ _ gateGoes_said (fun _ h=>by cases h) (by kernel_rfl) (fun _ h=>by cases h) gateGoes_row_tie rfl ⟨rfl,rfl⟩ (by kernel_rfl) rfl gateGoes_plain (by kernel_rfl)
end Go.Proofs.YtmhfpjnkjlhbpaaGreatDoor
