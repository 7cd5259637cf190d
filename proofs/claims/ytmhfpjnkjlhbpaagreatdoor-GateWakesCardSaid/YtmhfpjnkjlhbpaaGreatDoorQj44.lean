/- A law over the two tables of package isa and the names of package obj (XCard, with a table more): what the row's list gives, a world for the witness, the row's step, the card. GateWakes: who sleep at a condition are all woken: the card. -/
import Derived.Test.YtmhfpjnkjlhbpaaGreatDoorQj01
import Derived.Test.YtmhfpjnkjlhbpaaGreatDoorQj02
import Derived.Test.YtmhfpjnkjlhbpaaGreatDoorQj07
import Derived.Test.YtmhfpjnkjlhbpaaGreatDoorCards
import Derived.Test.YtmhfpjnkjlhbpaaGreatDoorTie
import Derived.Test.YtmhfpjnkjlhbpaaGreatDoorQj43
namespace Go.Proofs.YtmhfpjnkjlhbpaaGreatDoor
open Go.ChangeShapes Go.WideShapes Go.ChangeAt Go.RowKit
set_option linter.unusedVariables false
set_option maxRecDepth 100000
section
variable {H:Type} {enc:TypeId×Value->H} {P:Program} {w:World} {base:Nat} {sp:Nat->Bool} {held:Bool} {fuel:Nat} {t e:TypeId} {n:Nat} {cs:List Value} {p:List MemPlace}
theorem arr_at (ht:P.underlying t=some (.array n e)) (hce:P.cellsOf e=1) (hct:P.cellsOf t=n) {ds:List (DataW H)}
 (h:DataW.trod enc P w base sp held fuel t cs=some (.agg ds,p)) (i:Nat) (hi:i<n):cs.length=n/\ ∃c d q m,cs[i]?=some c/\ds[i]?=some d/\DataW.trod enc P w base sp held m e [c]=some (d,q):=by
 obtain ⟨xs,m,_,hx,hl,hxl,hg⟩:=DataW.trod_array ht h
 have g:=hg i hi
 rw [hce,Nat.mul_one]at g
 rw [hct]at hl
 refine ⟨hl,cs[i]'(by omega),(xs[i]'(by omega)).1,(xs[i]'(by omega)).2,m,List.getElem?_eq_getElem (by omega),?_,?_⟩
 ·have hd:ds=xs.map (·.1):=by
   have :=congrArg Prod.fst hx
   simpa using this
  rw [hd,List.getElem?_map,List.getElem?_eq_getElem (by omega)]
  rfl
 ·rw [List.drop_eq_getElem_cons (by omega)]at g
  rw [List.getElem?_eq_getElem (by omega)]at g
  exact g
theorem ints_of_arr {k:IntKind} {zs:List Int} (ht:P.underlying t=some (.array n e)) (he:P.underlying e=some (.int k)) (hce:P.cellsOf e=1) (hct:P.cellsOf t=n)
 (h:DataW.trod enc P w base sp held fuel t cs=some (.agg (zs.map fun z=> .lit (.int k z)),p)) (i:Nat) (hi:i<n):cs[i]?=some (.int k (zs.getD i 0)):=by
 obtain ⟨_,c,d,q,m,h1,h2,h3⟩:=arr_at ht hce hct h i hi
 obtain ⟨z,e1,e2,_⟩:=DataW.trod_int he h3
 simp only [List.cons.injEq,and_true]at e1
 simp only [Prod.mk.injEq]at e2
 rw [List.getElem?_map,e2.1]at h2
 obtain ⟨z',h4,h5⟩:=Option.map_eq_some_iff.1 h2
 injection h5 with h5
 injection h5 with _ h5
 rw [h1,e1,List.getD_eq_getElem?_getD,h4,<-h5]
 rfl
theorem strs_of_arr {ss:List ByteArray} (ht:P.underlying t=some (.array n e)) (he:P.underlying e=some .string) (hce:P.cellsOf e=1) (hct:P.cellsOf t=n)
 (h:DataW.trod enc P w base sp held fuel t cs=some (.agg (ss.map fun s=> .lit (.string s.data.toList)),p)) (i:Nat) (hi:i<n):cs[i]?=some (.string (ss.getD i ⟨#[]⟩)):=by
 obtain ⟨_,c,d,q,m,h1,h2,h3⟩:=arr_at ht hce hct h i hi
 obtain ⟨s,e1,e2,_⟩:=DataW.trod_string he h3
 simp only [List.cons.injEq,and_true]at e1
 simp only [Prod.mk.injEq]at e2
 rw [List.getElem?_map,e2.1]at h2
 obtain ⟨s',h4,h5⟩:=Option.map_eq_some_iff.1 h2
 injection h5 with h5
 injection h5 with h5
 have :s'=s:=by
  cases s'
  cases s
  simp only [ByteArray.mk.injEq]
  exact Array.ext' h5
 rw [h1,e1,List.getD_eq_getElem?_getD,h4,this]
 rfl
end
theorem gUses:Tryz.prog.globalNamed "deadlatch/isa.uses" =some 0:=by kernel_rfl
theorem gNames:Tryz.prog.globalNamed "deadlatch/isa.names" =some 1:=by kernel_rfl
theorem gObj:Tryz.prog.globalNamed "deadlatch/obj.names" =some 2:=by kernel_rfl
theorem gObjT:(Tryz.prog.globals[2]?).map (·.type)=some 235:=by kernel_rfl
theorem gUsesT:(Tryz.prog.globals[0]?).map (·.type)=some 196:=by kernel_rfl
theorem gNamesT:(Tryz.prog.globals[1]?).map (·.type)=some 226:=by kernel_rfl
theorem tab_of {W:World} (h:laidMet Tryz.prog [("deadlatch/isa.uses",Rows.laid_deadlatch_isa_uses),("deadlatch/isa.names",Rows.laid_deadlatch_isa_names),("deadlatch/obj.names",Rows.laid_deadlatch_obj_names)] W):Tab W/\ONam W:=by
 obtain ⟨ps,⟨g,t,cs,fuel,p,q,hg,ht,hvar,hd,⟨g',t',cs',fuel',p',q',hg',ht',hvar',hd',⟨g2,t2,cs2,fuel2,p2,q2,hg2,ht2,hvar2,hd2,_,_⟩,_⟩,_⟩,_⟩:=h
 obtain rfl:=Option.some.inj (gObj.symm.trans hg2)
 obtain rfl:=Option.some.inj (gObjT.symm.trans ht2)
 obtain rfl:=Option.some.inj (gUses.symm.trans hg)
 obtain rfl:=Option.some.inj (gUsesT.symm.trans ht)
 obtain rfl:=Option.some.inj (gNames.symm.trans hg')
 obtain rfl:=Option.some.inj (gNamesT.symm.trans ht')
 have a: ∀i,i<28->W.cell? ⟨0,i,none⟩=some (.int .i64 (useN i)):=fun i hi=>by
  have h1:=ints_of_arr (zs:=useL) (k:= .i64) Tryz.underlying196 Tryz.underlying3 (by kernel_rfl) (by kernel_rfl) hd i hi
  have h2:=World.var?_cell gUses hvar i
  exact h2.trans (by rw [<-Array.getElem?_toList];exact h1)
 have b: ∀i,i<28->W.cell? ⟨1,i,none⟩=some (.string (nmS i)):=fun i hi=>by
  have h1:=strs_of_arr (ss:=nmL) Tryz.underlying226 Tryz.underlying9 (by kernel_rfl) (by kernel_rfl) hd' i hi
  have h2:=World.var?_cell gNames hvar' i
  exact h2.trans (by rw [<-Array.getElem?_toList];exact h1)
 have c: ∀i,i<16->W.cell? ⟨2,i,none⟩=some (.string (onS i)):=fun i hi=>by
  have h1:=strs_of_arr (ss:=onL) Tryz.underlying235 Tryz.underlying9 (by kernel_rfl) (by kernel_rfl) hd2 i hi
  have h2:=World.var?_cell gObj hvar2 i
  exact h2.trans (by rw [<-Array.getElem?_toList];exact h1)
 exact ⟨⟨World.block_lt_of_cell? W _ (b 0 (by decide)),a,b⟩,World.block_lt_of_cell? W _ (c 0 (by decide)),c⟩
def relay (cs:Array Value):Obj->Obj
 | .cells _ t frozen=> .cells cs t frozen
 |o=>o
noncomputable def laidWorld (os:Os):World:=
 {World.holding Tryz.prog os ⟨#[],#[],[]⟩with heap:=(((World.holding Tryz.prog os ⟨#[],#[],[]⟩).heap.modify 0 (relay (useL.map fun z=>Value.int .i64 z).toArray)).modify 1 (relay (nmL.map Value.string).toArray)).modify 2 (relay (onL.map Value.string).toArray)}
abbrev theLaid:List (String×DataW Unit):=[("deadlatch/isa.uses",Rows.laid_deadlatch_isa_uses),("deadlatch/isa.names",Rows.laid_deadlatch_isa_names),("deadlatch/obj.names",Rows.laid_deadlatch_obj_names)]
section
variable {H:Type} {enc:TypeId×Value->H}
theorem card_lifted {os : Os} {F : Stop.Interp} {f : FuncId} {fn : Func} {s : ChangeSpec} (started : os.Started) (noInit : Tryz.checked.prog.inits.idxOf? f = none) (hfn : Tryz.checked.prog.funcs[f]? = some fn)
    (witness : ∃ (w : World) (tape : Tape) (i : Input), w.os = os /\ (w.forCall tape i).Shaped Tryz.checked.prog /\ i.vars = [] /\ Input.okWide Tryz.checked.prog (w.forCall tape i) .any w.heap.size f i /\
      (OpenSpec.ofChange s).preRow enc Tryz.checked.prog fn [] false theLaid (w.forCall tape i).memory i.args /\ ({} : Assume).holds Tryz.checked.prog (lone (Frame.enter Tryz.checked.prog f i.args .normal) [] (w.forCall tape i)))
    (tb : TypeId) (hv : s.vars = []) (hrt : fn.resultTypes = #[tb]) (hub : Tryz.prog.underlying tb = some .bool)
    (hf : ∀ ds : List (DataW H), ds.length = fn.params.size -> s.fn H (ds ++ []) = { results := [.lit (.bool true)], args := ds })
    (hr : fn.params.toList.all (fun t => Tryz.prog.readableRec t && decide (t < Tryz.prog.types.size)) = true)
    (contract : ∀ (W : World) (base : Nat) (args : Array Value) (ds : List (DataW H)) (p : List MemPlace), Tab W -> ONam W ->
      (∀ (j : Nat) t v, fn.params[j]? = some t -> args[j]? = some v -> Value.okWide Tryz.prog W .any base t v) ->
      DataW.TrodAll enc Tryz.prog W 0 (fun _ => true) true fn.params.toList args.toList ds p -> (∀ x ∈ p, x.block < W.heap.size) ->
      (DataW.weightsEach Tryz.prog fn.params.toList ds).all (· <= reachBytes) = true ->
      Calls Tryz.prog f args W fun e W' => e = .returned (.bool true) /\ Below W.heap.size W W') :
    ReturnsInHanded {} Tryz.checked os f .any ((OpenSpec.ofChange s).preRow enc Tryz.prog fn [] false theLaid) (((OpenSpec.ofChange s).at F).post enc Tryz.prog fn false true false false) := by
  refine returnsInHanded_of_row (C := Tryz.checked) (s := OpenSpec.ofChange s) base_own started noInit hfn witness ?_
  intro W base args ds gs before hval hW _ _ hsz0 hL _ _
  have hW : DataW.Whole enc Tryz.prog fn.params.toList s.vars false W args.toList ds gs before := hW
  have hW' := hW
  obtain ⟨p, q, hA, hV, rfl, _, _⟩ := hW
  have hvt : s.plain.varTypes Tryz.checked.prog = [] := by
    unfold DataSpec.varTypes
    simp [ChangeSpec.plain, hv]
  rw [hv] at hV
  obtain ⟨rfl, rfl⟩ := trodVars_none hV
  have hsz0 : (DataW.weightsEach Tryz.checked.prog (fn.params.toList ++ s.plain.varTypes Tryz.checked.prog) (ds ++ [])).all (· <= reachBytes) = true := hsz0
  rw [hvt] at hsz0
  simp only [List.append_nil] at hsz0
  have hlen : ds.length = fn.params.size := by simpa using trodAll_length _ _ _ _ hA
  refine (contract W base args ds p (tab_of hL).1 (tab_of hL).2 hval hA (fun x hx => hW'.lt x (List.mem_append_left _ hx)) hsz0).mono fun e W' ⟨he, hb⟩ => ?_
  exact ⟨_, he, law_post tb hv hrt hub hW' (hf ds hlen) hr hb⟩
end
end Go.Proofs.YtmhfpjnkjlhbpaaGreatDoor
namespace Go.Proofs.YtmhfpjnkjlhbpaaGreatDoor
open Go.ChangeShapes Go.WideShapes Go.ChangeAt Go.RowKit Go.Deep
set_option linter.unusedVariables false
set_option maxRecDepth 100000
set_option linter.unusedSimpArgs false
theorem gateWakes_met (os:Os):laidMet Tryz.prog theLaid ((laidWorld os).forCall (fun _ _=>0) ⟨#[],#[.int .u8 0,.int .u8 0,.slice none 0 0,.int .u8 0],[]⟩).memory:=
 laidMet_of_run' 8 (by kernel_rfl) (by kernel_rfl)
theorem gateWakes_reads (os:Os) {H:Type} (enc:TypeId×Value->H): ∃places,DataW.whole enc Tryz.prog ((laidWorld os).forCall (fun _ _=>0) ⟨#[],#[.int .u8 0,.int .u8 0,.slice none 0 0,.int .u8 0],[]⟩).memory Tryz.f12.params.toList Rows.gateWakesSpec.vars false (#[.int .u8 0,.int .u8 0,.slice none 0 0,.int .u8 0]:Array Value).toList 8=some ([.lit (.int .u8 0),.lit (.int .u8 0),.nil,.lit (.int .u8 0)],[],places):=
 ⟨[],by kernel_rfl⟩
set_option maxRecDepth 100000 in
theorem gateWakes_lifted (os : Os) (started : os.Started) (H : Type) (enc : TypeId × Value -> H) (F : Stop.Interp) :
    ReturnsInHanded {} Tryz.checked os 12 .any ((OpenSpec.ofChange Rows.gateWakesSpec).preRow enc Tryz.prog Tryz.f12 Rows.gateWakesRow.domain false Rows.gateWakesRow.laid) (((OpenSpec.ofChange Rows.gateWakesSpec).at F).post enc Tryz.prog Tryz.f12 false true false false) := by
  obtain ⟨places, hx⟩ := gateWakes_reads os enc
  refine card_lifted started (by kernel_rfl) Tryz.func12
    (witness_row_at (enc := enc) (C := Tryz.checked) false (laidWorld os) #[.int .u8 0, .int .u8 0, .slice none 0 0, .int .u8 0] rfl (by kernel_rfl) (by kernel_rfl) (by kernel_rfl)
      (OpenSpec.preRow_of_cond 8 hx (by kernel_rfl) (fun k hk => by cases hk) (by kernel_rfl) (gateWakes_met os)))
    4 rfl (by kernel_rfl) Tryz.underlying4 (fun ds h => ?_) (by kernel_rfl) ?_
  · rw [show Tryz.f12.params.size = 4 from by kernel_rfl] at h
    match ds, h with
    | [_, _, _, _], _ => rfl
  intro W base args ds p hT hO hval hA hlt hsz
  rw [Tryz.params12] at hA hval hsz
  obtain ⟨v0, v1, v2, v3, d0, d1, d2, d3, p0, p1, p2, p3, rfl, rfl, rfl, h0, h1, h2, h3⟩ := trodAll_four hA
  obtain ⟨a, rfl, rfl, rfl, wa⟩ := open_int Tryz.underlying5 (hval 0 5 v0 rfl rfl) h0
  obtain ⟨b, rfl, rfl, rfl, wb⟩ := open_int Tryz.underlying5 (hval 1 5 v1 rfl rfl) h1
  obtain ⟨B, sn, scap, Y, rfl, hlc, hcm, hsl, hwz⟩ := open_sl_ints Tryz.underlying24 Tryz.underlying5 (by kernel_rfl) (hval 2 24 v2 rfl rfl) h2 (fun x hx => hlt x (List.mem_append_left _ (List.mem_append_right _ hx)))
  obtain ⟨mo, rfl, rfl, rfl, wmo⟩ := open_int Tryz.underlying5 (hval 3 5 v3 rfl rfl) h3
  have ha := bounds_u8 wa
  have hb := bounds_u8 wb
  have hmo := bounds_u8 wmo
  obtain ⟨an, rfl⟩ : ∃ an : Nat, a = (an : Int) := ⟨a.toNat, by omega⟩
  obtain ⟨bn, rfl⟩ : ∃ bn : Nat, b = (bn : Int) := ⟨b.toNat, by omega⟩
  obtain ⟨mn, rfl⟩ : ∃ mn : Nat, mo = (mn : Int) := ⟨mo.toNat, by omega⟩
  exact gateWakes_true an bn mn (by omega) B sn scap Y hlc hcm (fun i hi => bounds_u8 (hwz i hi)) W hT hO hsl
theorem gateWakes_said:Rows.GateWakesSaid:=
 OpenClaim.holds_of_cond 12 Tryz.f12 rfl rfl rfl rfl rfl rfl rfl ⟨rfl,rfl,rfl,rfl,rfl⟩ rfl rfl rfl rfl rfl (by kernel_rfl) Tryz.func12 (by kernel_rfl)
  (of_decide_eq_true (by kernel_rfl)) (by unfold Func.isWrapper;first|(rw [if_pos (by decide+kernel)];kernel_rfl)|(rw [if_neg (by decide+kernel)];exact ⟨rfl,rfl⟩))
  (fun os started H enc _ F=>by rw [OpenClaim.pre_eq_preRow];exact gateWakes_lifted os started H enc F)
theorem gateWakes_plain (f:FuncId) (fn:Func) (hf:Tryz.pinned.checked.prog.funcNamed "deadlatch/deadlatchlaw21.GateWakes" =some f) (hfn:Tryz.pinned.checked.prog.funcs[f]?=some fn):
 true=Tryz.pinned.checked.prog.looks []/\ ∀(j:Nat) t,fn.params[j]?=some t->Tryz.pinned.checked.prog.wantsStandIn t=false:=by
 obtain rfl:f=12:=Option.some.inj ((show Tryz.prog.funcNamed "deadlatch/deadlatchlaw21.GateWakes" =some 12 by kernel_rfl).symm.trans hf)|>.symm
 obtain rfl:fn=Tryz.f12:=(Option.some.inj (Tryz.func12.symm.trans hfn)).symm
 refine ⟨by kernel_rfl,fun j t ht=>?_⟩
 rw [Tryz.params12]at ht
 have hm:t=5∨t=5∨t=24∨t=5:=by simpa using Array.mem_of_getElem? ht
 rcases hm with rfl|rfl|rfl|rfl
 ·exact (show Tryz.prog.wantsStandIn 5=false by kernel_rfl)
 ·exact (show Tryz.prog.wantsStandIn 5=false by kernel_rfl)
 ·exact (show Tryz.prog.wantsStandIn 24=false by kernel_rfl)
 ·exact (show Tryz.prog.wantsStandIn 5=false by kernel_rfl)
theorem gateWakes_card:Rows.GateWakesCardSaid:=
 Claim7.holds_tied_plain_at .later [] _ _ _ _ gateWakes_said (fun _ h=>by cases h) (by kernel_rfl) (fun _ h=>by cases h) gateWakes_row_tie rfl ⟨rfl,rfl⟩ (by kernel_rfl) rfl gateWakes_plain (by kernel_rfl)
end Go.Proofs.YtmhfpjnkjlhbpaaGreatDoor
