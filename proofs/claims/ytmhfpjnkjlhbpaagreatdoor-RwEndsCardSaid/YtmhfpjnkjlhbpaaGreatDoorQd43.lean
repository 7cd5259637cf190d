/- law22's Use, opened. A law over the two tables of package isa and the names of package obj (XCard, with a table more): what the row's list gives, a world for the witness, the row's step, the card. RwEnds: by any even script all come to an end: the card. -/
import Derived.Test.YtmhfpjnkjlhbpaaGreatDoorQd02
import Derived.Lib.SmallJoins
import Derived.Test.YtmhfpjnkjlhbpaaGreatDoorQd03
import Derived.Test.YtmhfpjnkjlhbpaaGreatDoorQd29
import Derived.Test.YtmhfpjnkjlhbpaaGreatDoorCards
import Derived.Test.YtmhfpjnkjlhbpaaGreatDoorTie
import Derived.Test.YtmhfpjnkjlhbpaaGreatDoorQd42
namespace Go.Proofs.YtmhfpjnkjlhbpaaGreatDoor
open Go.Joins Go.ChangeShapes Go.WideShapes Go.ChangeAt Go.RowKit Go.Deep
set_option linter.unusedVariables false
set_option maxRecDepth 100000
set_option linter.unusedSimpArgs false
structure Bw where
 A:Option Addr
 len:Nat
 cap:Nat
 F:Nat->Bool
instance:Inhabited Bw:=⟨⟨none,0,0,fun _=>false⟩⟩
section
variable {H:Type} {enc:TypeId×Value->H} {W:World}
theorem elem_boolU (n:Nat) (cs:List Value) (x:DataW H×List MemPlace) (h:DataW.trod enc Tryz.prog W 0 (fun _=>true) true n 4 cs=some x): ∃z:Bool,cs=[.bool z]/\True:=by
 obtain ⟨z,e1,_⟩:=DataW.trod_bool Tryz.underlying4 h
 exact ⟨z,e1,trivial⟩
theorem elem_bools (n:Nat) (cs:List Value) (x:DataW H×List MemPlace) (h:DataW.trod enc Tryz.prog W 0 (fun _=>true) true n 148 cs=some x):
 ∃c:Bw,cs=[.slice c.A c.len c.cap]/\(c.len<=c.cap/\c.cap<=maxLen)/\Sl W c.A c.len (fun i=> .bool (c.F i)):=by
 obtain ⟨A,n,cap,Z,rfl,hl,hm,hs,ho⟩:=open_slc (size:=1) Tryz.underlying148 (by kernel_rfl) (by decide) (fun z:Bool=>[.bool z]) (fun _=>True) elem_boolU h
 exact ⟨⟨A,n,cap,Z⟩,rfl,⟨hl,hm⟩,sl_of_slE hs (fun _ _=>rfl)⟩
theorem open_rowsU {fuel:Nat} {cs:List Value} {x:DataW H×List MemPlace} (h:DataW.trod enc Tryz.prog W 0 (fun _=>true) true fuel 59 cs=some x):
 ∃(A:Option Addr) (n cap:Nat) (cd:Nat->Bw),cs=[.slice A n cap]/\n<=cap/\cap<=maxLen/\Sl W A n (fun t=> .slice (cd t).A (cd t).len (cd t).cap)/\(∀t,t<n->(cd t).len<=(cd t).cap/\(cd t).cap<=maxLen)/\ ∀t,t<n->Sl W (cd t).A (cd t).len (fun i=> .bool ((cd t).F i)):=by
 obtain ⟨A,n,cap,cd,rfl,hl,hm,hs,ho⟩:=open_slc (size:=1) Tryz.underlying59 (by kernel_rfl) (by decide) (fun c:Bw=>[.slice c.A c.len c.cap]) (fun c=>(c.len<=c.cap/\c.cap<=maxLen)/\Sl W c.A c.len (fun i=> .bool (c.F i))) elem_bools h
 exact ⟨A,n,cap,cd,rfl,hl,hm,sl_of_slE hs (fun _ _=>rfl),fun t ht=>(ho t ht).1,fun t ht=>(ho t ht).2⟩
theorem open_use {b0:Nat} {v:Value} {d:DataW H} {p:List MemPlace} (hv:Value.okWide Tryz.prog W .any b0 61 v) (h:DataW.Trod enc Tryz.prog W 0 (fun _=>true) true 61 v d p):
 ∃(A:Option Addr) (n cap:Nat) (cd:Nat->Bw) (room:Nat),v= .agg #[.slice A n cap,.int .u8 (room:Int)]/\n<=cap/\cap<=maxLen/\Sl W A n (fun t=> .slice (cd t).A (cd t).len (cd t).cap)/\(∀t,t<n->(cd t).len<=(cd t).cap/\(cd t).cap<=maxLen)/\(∀t,t<n->Sl W (cd t).A (cd t).len (fun i=> .bool ((cd t).F i)))/\room<=255:=by
 obtain ⟨cs,rfl,_⟩:=okWide_struct Tryz.underlying61 hv
 obtain ⟨fuel,hf⟩:=h
 obtain ⟨l⟩:=cs
 have hf':DataW.trod enc Tryz.prog W 0 (fun _=>true) true fuel 61 l=some (d,p):=by simpa [Value.cells]using hf
 obtain ⟨y0,y1,m,_,hlen,h0,h1⟩:=trod_struct2 Tryz.underlying61 hf'
 have hcl:l.length=2:=hlen.trans (by kernel_rfl)
 match l,hcl with
 |[c0,c1],_=>
  obtain ⟨A,n,cap,cd,e0,hl,hm,hs,hz,hr⟩:=open_rowsU (show DataW.trod enc Tryz.prog W 0 (fun _=>true) true m 59 [c0]=some y0 from h0)
  obtain ⟨z,e1,_,wz⟩:=DataW.trod_int Tryz.underlying5 (show DataW.trod enc Tryz.prog W 0 (fun _=>true) true m 5 [c1]=some y1 from h1)
  simp only [List.cons.injEq,and_true]at e0 e1
  subst e0 e1
  have hb:=bounds_u8 wz
  obtain ⟨k,rfl⟩: ∃k:Nat,z=(k:Int):=⟨z.toNat,by omega⟩
  exact ⟨A,n,cap,cd,k,rfl,hl,hm,hs,hz,hr,by omega⟩
end
end Go.Proofs.YtmhfpjnkjlhbpaaGreatDoor
namespace Go.Proofs.YtmhfpjnkjlhbpaaGreatDoor
open Go.ChangeShapes Go.WideShapes Go.ChangeAt Go.RowKit
set_option linter.unusedVariables false
set_option maxRecDepth 100000
section
variable {H:Type} {enc:TypeId×Value->H} {P:Program} {w:World} {base:Nat} {sp:Nat->Bool} {held:Bool} {fuel:Nat} {t e:TypeId} {n:Nat} {cs:List Value} {p:List MemPlace}
theorem arr_at (ht:P.underlying t=some (.array n e)) (hce:P.cellsOf e=1) (hct:P.cellsOf t=n) {ds:List (DataW H)}
 (h:DataW.trod enc P w base sp held fuel t cs=some (.agg ds,p)) (i:Nat) (hi:i<n):cs.length=n/\ ∃c d q m,cs[i]?=some c/\ds[i]?=some d/\DataW.trod enc P w base sp held m e [c]=some (d,q):=by
 obtain ⟨xs,m,_,hx,hl,hxl,hg⟩:=DataW.trod_array ht h
 have g:=hg i hi
 rw [hce,Nat.mul_one]at g
 rw [hct]at hl
 refine ⟨hl,cs[i]'(by omega),(xs[i]'(by omega)).1,(xs[i]'(by omega)).2,m,List.getElem?_eq_getElem (by omega),?_,?_⟩
 ·have hd:ds=xs.map (·.1):=by
   have :=congrArg Prod.fst hx
   simpa using this
  rw [hd,List.getElem?_map,List.getElem?_eq_getElem (by omega)]
  rfl
 ·rw [List.drop_eq_getElem_cons (by omega)]at g
  rw [List.getElem?_eq_getElem (by omega)]at g
  exact g
theorem ints_of_arr {k:IntKind} {zs:List Int} (ht:P.underlying t=some (.array n e)) (he:P.underlying e=some (.int k)) (hce:P.cellsOf e=1) (hct:P.cellsOf t=n)
 (h:DataW.trod enc P w base sp held fuel t cs=some (.agg (zs.map fun z=> .lit (.int k z)),p)) (i:Nat) (hi:i<n):cs[i]?=some (.int k (zs.getD i 0)):=by
 obtain ⟨_,c,d,q,m,h1,h2,h3⟩:=arr_at ht hce hct h i hi
 obtain ⟨z,e1,e2,_⟩:=DataW.trod_int he h3
 simp only [List.cons.injEq,and_true]at e1
 simp only [Prod.mk.injEq]at e2
 rw [List.getElem?_map,e2.1]at h2
 obtain ⟨z',h4,h5⟩:=Option.map_eq_some_iff.1 h2
 injection h5 with h5
 injection h5 with _ h5
 rw [h1,e1,List.getD_eq_getElem?_getD,h4,<-h5]
 rfl
theorem strs_of_arr {ss:List ByteArray} (ht:P.underlying t=some (.array n e)) (he:P.underlying e=some .string) (hce:P.cellsOf e=1) (hct:P.cellsOf t=n)
 (h:DataW.trod enc P w base sp held fuel t cs=some (.agg (ss.map fun s=> .lit (.string s.data.toList)),p)) (i:Nat) (hi:i<n):cs[i]?=some (.string (ss.getD i ⟨#[]⟩)):=by
 obtain ⟨_,c,d,q,m,h1,h2,h3⟩:=arr_at ht hce hct h i hi
 obtain ⟨s,e1,e2,_⟩:=DataW.trod_string he h3
 simp only [List.cons.injEq,and_true]at e1
 simp only [Prod.mk.injEq]at e2
 rw [List.getElem?_map,e2.1]at h2
 obtain ⟨s',h4,h5⟩:=Option.map_eq_some_iff.1 h2
 injection h5 with h5
 injection h5 with h5
 have :s'=s:=by
  cases s'
  cases s
  simp only [ByteArray.mk.injEq]
  exact Array.ext' h5
 rw [h1,e1,List.getD_eq_getElem?_getD,h4,this]
 rfl
end
theorem gUses:Tryz.prog.globalNamed "deadlatch/isa.uses" =some 0:=by kernel_rfl
theorem gNames:Tryz.prog.globalNamed "deadlatch/isa.names" =some 1:=by kernel_rfl
theorem gObj:Tryz.prog.globalNamed "deadlatch/obj.names" =some 2:=by kernel_rfl
theorem gObjT:(Tryz.prog.globals[2]?).map (·.type)=some 235:=by kernel_rfl
theorem gUsesT:(Tryz.prog.globals[0]?).map (·.type)=some 196:=by kernel_rfl
theorem gNamesT:(Tryz.prog.globals[1]?).map (·.type)=some 226:=by kernel_rfl
theorem tab_of {W:World} (h:laidMet Tryz.prog [("deadlatch/isa.uses",Rows.laid_deadlatch_isa_uses),("deadlatch/isa.names",Rows.laid_deadlatch_isa_names),("deadlatch/obj.names",Rows.laid_deadlatch_obj_names)] W):Tab W/\ONam W:=by
 obtain ⟨ps,⟨g,t,cs,fuel,p,q,hg,ht,hvar,hd,⟨g',t',cs',fuel',p',q',hg',ht',hvar',hd',⟨g2,t2,cs2,fuel2,p2,q2,hg2,ht2,hvar2,hd2,_,_⟩,_⟩,_⟩,_⟩:=h
 obtain rfl:=Option.some.inj (gObj.symm.trans hg2)
 obtain rfl:=Option.some.inj (gObjT.symm.trans ht2)
 obtain rfl:=Option.some.inj (gUses.symm.trans hg)
 obtain rfl:=Option.some.inj (gUsesT.symm.trans ht)
 obtain rfl:=Option.some.inj (gNames.symm.trans hg')
 obtain rfl:=Option.some.inj (gNamesT.symm.trans ht')
 have a: ∀i,i<28->W.cell? ⟨0,i,none⟩=some (.int .i64 (useN i)):=fun i hi=>by
  have h1:=ints_of_arr (zs:=useL) (k:= .i64) Tryz.underlying196 Tryz.underlying3 (by kernel_rfl) (by kernel_rfl) hd i hi
  have h2:=World.var?_cell gUses hvar i
  exact h2.trans (by rw [<-Array.getElem?_toList];exact h1)
 have b: ∀i,i<28->W.cell? ⟨1,i,none⟩=some (.string (nmS i)):=fun i hi=>by
  have h1:=strs_of_arr (ss:=nmL) Tryz.underlying226 Tryz.underlying9 (by kernel_rfl) (by kernel_rfl) hd' i hi
  have h2:=World.var?_cell gNames hvar' i
  exact h2.trans (by rw [<-Array.getElem?_toList];exact h1)
 have c: ∀i,i<16->W.cell? ⟨2,i,none⟩=some (.string (onS i)):=fun i hi=>by
  have h1:=strs_of_arr (ss:=onL) Tryz.underlying235 Tryz.underlying9 (by kernel_rfl) (by kernel_rfl) hd2 i hi
  have h2:=World.var?_cell gObj hvar2 i
  exact h2.trans (by rw [<-Array.getElem?_toList];exact h1)
 exact ⟨⟨World.block_lt_of_cell? W _ (b 0 (by decide)),a,b⟩,World.block_lt_of_cell? W _ (c 0 (by decide)),c⟩
def relay (cs:Array Value):Obj->Obj
 | .cells _ t frozen=> .cells cs t frozen
 |o=>o
noncomputable def laidWorld (os:Os):World:=
 {World.holding Tryz.prog os ⟨#[],#[],[]⟩with heap:=(((World.holding Tryz.prog os ⟨#[],#[],[]⟩).heap.modify 0 (relay (useL.map fun z=>Value.int .i64 z).toArray)).modify 1 (relay (nmL.map Value.string).toArray)).modify 2 (relay (onL.map Value.string).toArray)}
abbrev theLaid:List (String×DataW Unit):=[("deadlatch/isa.uses",Rows.laid_deadlatch_isa_uses),("deadlatch/isa.names",Rows.laid_deadlatch_isa_names),("deadlatch/obj.names",Rows.laid_deadlatch_obj_names)]
section
variable {H:Type} {enc:TypeId×Value->H}
theorem card_lifted {os : Os} {F : Stop.Interp} {f : FuncId} {fn : Func} {s : ChangeSpec} (started : os.Started) (noInit : Tryz.checked.prog.inits.idxOf? f = none) (hfn : Tryz.checked.prog.funcs[f]? = some fn)
    (witness : ∃ (w : World) (tape : Tape) (i : Input), w.os = os /\ (w.forCall tape i).Shaped Tryz.checked.prog /\ i.vars = [] /\ Input.okWide Tryz.checked.prog (w.forCall tape i) .any w.heap.size f i /\
      (OpenSpec.ofChange s).preRow enc Tryz.checked.prog fn [] false theLaid (w.forCall tape i).memory i.args /\ ({} : Assume).holds Tryz.checked.prog (lone (Frame.enter Tryz.checked.prog f i.args .normal) [] (w.forCall tape i)))
    (tb : TypeId) (hv : s.vars = []) (hrt : fn.resultTypes = #[tb]) (hub : Tryz.prog.underlying tb = some .bool)
    (hf : ∀ ds : List (DataW H), ds.length = fn.params.size -> s.fn H (ds ++ []) = { results := [.lit (.bool true)], args := ds })
    (hr : fn.params.toList.all (fun t => Tryz.prog.readableRec t && decide (t < Tryz.prog.types.size)) = true)
    (contract : ∀ (W : World) (base : Nat) (args : Array Value) (ds : List (DataW H)) (p : List MemPlace), Tab W -> ONam W ->
      (∀ (j : Nat) t v, fn.params[j]? = some t -> args[j]? = some v -> Value.okWide Tryz.prog W .any base t v) ->
      DataW.TrodAll enc Tryz.prog W 0 (fun _ => true) true fn.params.toList args.toList ds p -> (∀ x ∈ p, x.block < W.heap.size) ->
      (DataW.weightsEach Tryz.prog fn.params.toList ds).all (· <= reachBytes) = true ->
      Calls Tryz.prog f args W fun e W' => e = .returned (.bool true) /\ Below W.heap.size W W') :
    ReturnsInHanded {} Tryz.checked os f .any ((OpenSpec.ofChange s).preRow enc Tryz.prog fn [] false theLaid) (((OpenSpec.ofChange s).at F).post enc Tryz.prog fn false true false false) := by
  refine returnsInHanded_of_row (C := Tryz.checked) (s := OpenSpec.ofChange s) base_own started noInit hfn witness ?_
  intro W base args ds gs before hval hW _ _ hsz0 hL _ _
  have hW : DataW.Whole enc Tryz.prog fn.params.toList s.vars false W args.toList ds gs before := hW
  have hW' := hW
  obtain ⟨p, q, hA, hV, rfl, _, _⟩ := hW
  have hvt : s.plain.varTypes Tryz.checked.prog = [] := by
    unfold DataSpec.varTypes
    simp [ChangeSpec.plain, hv]
  rw [hv] at hV
  obtain ⟨rfl, rfl⟩ := trodVars_none hV
  have hsz0 : (DataW.weightsEach Tryz.checked.prog (fn.params.toList ++ s.plain.varTypes Tryz.checked.prog) (ds ++ [])).all (· <= reachBytes) = true := hsz0
  rw [hvt] at hsz0
  simp only [List.append_nil] at hsz0
  have hlen : ds.length = fn.params.size := by simpa using trodAll_length _ _ _ _ hA
  refine (contract W base args ds p (tab_of hL).1 (tab_of hL).2 hval hA (fun x hx => hW'.lt x (List.mem_append_left _ hx)) hsz0).mono fun e W' ⟨he, hb⟩ => ?_
  exact ⟨_, he, law_post tb hv hrt hub hW' (hf ds hlen) hr hb⟩
end
end Go.Proofs.YtmhfpjnkjlhbpaaGreatDoor
namespace Go.Proofs.YtmhfpjnkjlhbpaaGreatDoor
open Go.ChangeShapes Go.WideShapes Go.ChangeAt Go.RowKit Go.Deep
set_option linter.unusedVariables false
set_option maxRecDepth 100000
set_option linter.unusedSimpArgs false
theorem rwEnds_met (os:Os):laidMet Tryz.prog theLaid ((laidWorld os).forCall (fun _ _=>0) ⟨#[],#[.agg #[.slice none 0 0,.int .u8 0],.slice none 0 0,.int .u8 0],[]⟩).memory:=
 laidMet_of_run' 8 (by kernel_rfl) (by kernel_rfl)
theorem rwEnds_reads (os:Os) {H:Type} (enc:TypeId×Value->H): ∃places,DataW.whole enc Tryz.prog ((laidWorld os).forCall (fun _ _=>0) ⟨#[],#[.agg #[.slice none 0 0,.int .u8 0],.slice none 0 0,.int .u8 0],[]⟩).memory Tryz.f10.params.toList Rows.rwEndsSpec.vars false (#[.agg #[.slice none 0 0,.int .u8 0],.slice none 0 0,.int .u8 0]:Array Value).toList 8=some ([.agg [.nil,.lit (.int .u8 0)],.nil,.lit (.int .u8 0)],[],places):=
 ⟨[],by kernel_rfl⟩
set_option maxRecDepth 100000 in
theorem rwEnds_lifted (os : Os) (started : os.Started) (H : Type) (enc : TypeId × Value -> H) (F : Stop.Interp) :
    ReturnsInHanded {} Tryz.checked os 10 .any ((OpenSpec.ofChange Rows.rwEndsSpec).preRow enc Tryz.prog Tryz.f10 Rows.rwEndsRow.domain false Rows.rwEndsRow.laid) (((OpenSpec.ofChange Rows.rwEndsSpec).at F).post enc Tryz.prog Tryz.f10 false true false false) := by
  obtain ⟨places, hx⟩ := rwEnds_reads os enc
  refine card_lifted started (by kernel_rfl) Tryz.func10
    (witness_row_at (enc := enc) (C := Tryz.checked) false (laidWorld os) #[.agg #[.slice none 0 0, .int .u8 0], .slice none 0 0, .int .u8 0] rfl (by kernel_rfl) (by kernel_rfl) (by kernel_rfl)
      (OpenSpec.preRow_of_cond 8 hx (by kernel_rfl) (fun k hk => by cases hk) (by kernel_rfl) (rwEnds_met os)))
    4 rfl (by kernel_rfl) Tryz.underlying4 (fun ds h => ?_) (by kernel_rfl) ?_
  · rw [show Tryz.f10.params.size = 3 from by kernel_rfl] at h
    match ds, h with
    | [_, _, _], _ => rfl
  intro W base args ds p hT hO hval hA hlt hsz
  rw [Tryz.params10] at hA hval hsz
  obtain ⟨v0, v1, v2, d0, d1, d2, p0, p1, p2, rfl, rfl, rfl, h0, h1, h2⟩ := trodAll_three hA
  obtain ⟨A, n, cap, cd, room, rfl, hl, hm, hs, hz, hrr, hro⟩ := open_use (hval 0 61 v0 rfl rfl) h0
  obtain ⟨B, sn, scap, Y, rfl, hlc, hcm, hsl, hwz⟩ := open_sl_ints Tryz.underlying24 Tryz.underlying5 (by kernel_rfl) (hval 1 24 v1 rfl rfl) h1 (fun x hx => hlt x (List.mem_append_left _ (List.mem_append_right _ hx)))
  obtain ⟨mo, rfl, rfl, rfl, wmo⟩ := open_int Tryz.underlying5 (hval 2 5 v2 rfl rfl) h2
  have hmo := bounds_u8 wmo
  obtain ⟨mn, rfl⟩ : ∃ mn : Nat, mo = (mn : Int) := ⟨mo.toNat, by omega⟩
  exact rwEnds_true A n cap (fun t => (cd t).A) (fun t => (cd t).len) (fun t => (cd t).cap) (fun t => (cd t).F) room hro ⟨hl, hm⟩ hz B sn scap Y mn (by omega) hlc hcm (fun i hi => bounds_u8 (hwz i hi)) W hT hO hs hrr hsl
theorem rwEnds_said:Rows.RwEndsSaid:=
 OpenClaim.holds_of_cond 10 Tryz.f10 rfl rfl rfl rfl rfl rfl rfl ⟨rfl,rfl,rfl,rfl,rfl⟩ rfl rfl rfl rfl rfl (by kernel_rfl) Tryz.func10 (by kernel_rfl)
  (of_decide_eq_true (by kernel_rfl)) (by unfold Func.isWrapper;first|(rw [if_pos (by decide+kernel)];kernel_rfl)|(rw [if_neg (by decide+kernel)];exact ⟨rfl,rfl⟩))
  (fun os started H enc _ F=>by rw [OpenClaim.pre_eq_preRow];exact rwEnds_lifted os started H enc F)
theorem rwEnds_plain (f:FuncId) (fn:Func) (hf:Tryz.pinned.checked.prog.funcNamed "deadlatch/deadlatchlaw22.RwEnds" =some f) (hfn:Tryz.pinned.checked.prog.funcs[f]?=some fn):
 true=Tryz.pinned.checked.prog.looks []/\ ∀(j:Nat) t,fn.params[j]?=some t->Tryz.pinned.checked.prog.wantsStandIn t=false:=by
 obtain rfl:f=10:=Option.some.inj ((show Tryz.prog.funcNamed "deadlatch/deadlatchlaw22.RwEnds" =some 10 by kernel_rfl).symm.trans hf)|>.symm
 obtain rfl:fn=Tryz.f10:=(Option.some.inj (Tryz.func10.symm.trans hfn)).symm
 refine ⟨by kernel_rfl,fun j t ht=>?_⟩
 rw [Tryz.params10]at ht
 have hm:t=61∨t=24∨t=5:=by simpa using Array.mem_of_getElem? ht
 rcases hm with rfl|rfl|rfl
 ·exact (show Tryz.prog.wantsStandIn 61=false by kernel_rfl)
 ·exact (show Tryz.prog.wantsStandIn 24=false by kernel_rfl)
 ·exact (show Tryz.prog.wantsStandIn 5=false by kernel_rfl)
theorem rwEnds_card:Rows.RwEndsCardSaid:=
 Claim7.holds_tied_plain_at .later [] _ _ _ _ rwEnds_said (fun _ h=>by cases h) (by kernel_rfl) (fun _ h=>by cases h) rwEnds_row_tie rfl ⟨rfl,rfl⟩ (by kernel_rfl) rfl rwEnds_plain (by kernel_rfl)
end Go.Proofs.YtmhfpjnkjlhbpaaGreatDoor
