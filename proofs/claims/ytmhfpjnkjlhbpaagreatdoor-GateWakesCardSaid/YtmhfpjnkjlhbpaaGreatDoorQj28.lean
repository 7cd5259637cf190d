/- law21.asks: a program of threads that each ask an object, call by call. -/
import Derived.Test.YtmhfpjnkjlhbpaaGreatDoorQj27
import Derived.Test.YtmhfpjnkjlhbpaaGreatDoorQj25
namespace Go.Proofs.YtmhfpjnkjlhbpaaGreatDoor
open Go.ChangeShapes Go.WideShapes Go.ChangeAt Go.RowKit Go.Deep
set_option linter.unusedVariables false
set_option maxRecDepth 100000
set_option linter.unusedSimpArgs false
open List renaming getElem_toArray->zA,getElem_cons_zero->zB,getElem_cons_succ->zC,setIfInBounds_toArray->zD,set_cons_zero->zE,set_cons_succ->zF
theorem obj_info4:(Tryz.prog.info? 46).map (·.size)=some 4:=by kernel_rfl
theorem u32_infoQ:(Tryz.prog.info? 42).map (fun i=>(i.zero,i.size,i.bytes))=some (some (.int .u32 0),1,4):=by kernel_rfl
theorem zeros_app (a b:Nat):List.replicate a (Value.int .u32 0)++(List.range (b*1)).map (fun _=>Value.int .u32 0)=List.replicate (a+b) (Value.int .u32 0):=by
 rw [Nat.mul_one,<-List.replicate_append_replicate]
 congr 1
 refine List.ext_getElem? fun i=>?_
 rw [List.getElem?_map,List.getElem?_replicate]
 by_cases h:i<b
 ·rw [if_pos h,List.getElem?_range h];rfl
 ·rw [if_neg h,List.getElem?_eq_none (by rw [List.length_range];omega)];rfl
theorem below_of_grown6 {W0 W W':World} {row:Option Nat} (hH:Below W0.heap.size W0 W) (h:W.grownBy W' row) (hr: ∀g,row=some g->W0.heap.size<=g):Below W0.heap.size W0 W':=
 hH.trans (below_of_grown hH.size h hr)
theorem own_far9 {W W':World} {base size n g:Nat} {e:TypeId} {v:Value} {xs:List Value} (h:W.ownsRow base e size v n xs) (hg:W.grownBy W' (some g)) (hne:some g≠v.ownBlock):W'.ownsRow base e size v n xs:=row_grown h hg hne
def AskMade (w:World) (room:Int) (m:Nat) (LC:List (List Ins)) (ed:Ending) (W':World):Prop:=
 ∃(v:Value) (mA:Option Addr) (mc base:Nat),ed= .returned (.tuple #[.agg #[v,.slice mA m mc,.int .i64 room],.bool true])/\m<=mc/\mc<=maxLen/\Below w.heap.size w W'/\CdRow W' base v LC/\Sl W' mA m (fun _=> .int .u32 0)/\ ∀b off,0<m->mA=some ⟨b,off,none⟩->w.heap.size<=b
set_option maxHeartbeats 40000000 in
theorem lawAsks_any (ok on arg room:Int) (L:List (List Int)) (n cap nz m:Nat) (A:Option Addr) (G:Nat->Nat->List Ins) (hn:L.length=n) (hn1:1<=n/\n<=8) (hcap:n<=cap/\cap<=maxLen) (hm:16+nz=m) (hnz:nz<=10)
 (hrow: ∀t,t<n->(L.getD t []).length<=4/\ ∀j,j<(L.getD t []).length->0<=(L.getD t []).getD j 0/\(L.getD t []).getD j 0<=1000)
 (hG: ∀t i,(G t i).length<=40) (hGok: ∀t i,t<n->i<(L.getD t []).length-> ∀x∈G t i,x.Ok)
 (hcode: ∀t i,t<n->i<(L.getD t []).length-> ∀W:World,Tab W->ONam W->Calls Tryz.prog 34 #[.agg #[.int .i64 ok,.int .i64 on,.int .i64 0,.int .i64 0],.int .i64 ((L.getD t []).getD i 0),.int .i64 (n:Int),.int .i64 (t:Int),.int .u32 16,.int .u32 arg] W fun e W'=>(∃v,e= .returned (.tuple #[v,.bool true])/\OutI W v (G t i) W')/\Below W.heap.size W W')
 (hfirst0: ∀W:World,ONam W->Calls Tryz.prog 81 #[.agg #[.int .i64 ok,.int .i64 on,.int .i64 0,.int .i64 0],.int .i64 (n:Int)] W (FirstP W nz)) (w:World) (hT:Tab w) (hO:ONam w) (hL:LRows w A L):
 Calls Tryz.prog 39 #[.agg #[.int .i64 ok,.int .i64 on,.int .i64 0,.int .i64 0],.slice A n cap,.int .u32 arg,.int .i64 room] w (AskMade w room m ((List.range n).map fun t=>askL (G t) (fun i=>(L.getD t []).getD i 0) (L.getD t []).length)):=by
 obtain ⟨F,hL1,hL2⟩:=hL
 rw [hn]at hL1 hL2
 obtain ⟨ab,ao,rfl,hab,hac⟩:=hL1 (by omega)
 have hB1:=(Below.refl w.heap.size w).alloc (Nat.le_refl _) (.cells #[.int .i64 ok,.int .i64 on,.int .i64 0,.int .i64 0] 46)
 have hO1:=Blk.new w 46 #[.int .i64 ok,.int .i64 on,.int .i64 0,.int .i64 0]
 generalize hW1:w.alloc (.cells #[.int .i64 ok,.int .i64 on,.int .i64 0,.int .i64 0] 46)=W1 at hB1 hO1
 have hB2:=hB1.alloc hB1.size (.cells #[.slice none 0 0,.slice none 0 0,.int .i64 0] 29)
 have hO2:=hO1.alloc (.cells #[.slice none 0 0,.slice none 0 0,.int .i64 0] 29)
 have hR2:=Blk.new W1 29 #[.slice none 0 0,.slice none 0 0,.int .i64 0]
 obtain ⟨ob,hob⟩: ∃x,w.heap.size=x:=⟨_,rfl⟩
 obtain ⟨rb,hrb⟩: ∃x,W1.heap.size=x:=⟨_,rfl⟩
 have hord:ob<rb:=by have h1:=hO1.lt;omega
 have HOW:=Lib.hid hob
 rw [hob]at hO2
 rw [hrb]at hR2
 have HMM:=Lib.hid (And.intro hm (And.intro hn1 (And.intro hn (And.intro hG (And.intro hGok (And.intro hcode (And.intro hrow (And.intro hL2 (And.intro hac hab)))))))))
 have HNZ:=Lib.hid hm
 have hfirst:=Lib.hid hfirst0
 have hnn:n<=8:=hn1.2
 have HTO:=Lib.hid (And.intro hT hO)
 clear hO1 hB1 hm hn1 hn hG hGok hcode hrow hL2 hac hab hL1 hfirst0 hT hO
 go_enter Tryz.func39,Tryz.ntmps39
 go_upto_region 1 with fail
 try rw [hW1]
 try rw [hob]
 try rw [hrb]
 clear hob hrb
 generalize hW2:W1.alloc (.cells #[.slice none 0 0,.slice none 0 0,.int .i64 0] 29)=Wb at hB2 hO2 hR2
 try rw [hW2]
 clear hW1 hW2
 obtain ⟨mz,hmz⟩: ∃mz,(List.replicate 16 (Value.int .u32 0)).toArray=mz:=⟨_,rfl⟩
 have hmk: ∀w:World,(Instr.makeSlice 27 (.int .i64 16) (.int .i64 16)).run Tryz.prog w= .ok (.slice (some ⟨w.heap.size,0,none⟩) 16 16) (w.alloc (.cells mz 42)):=fun w=>by rw [<-hmz];exact makeW 16 (by decide) w
 have HMZ:=Lib.hid (And.intro hmz trivial)
 have HUI:=Lib.hid (info_parts u32_infoQ)
 clear hmz
 have HE:=Lib.hid (And.intro hB2 (And.intro hO2 hR2))
 clear hB2 hO2 hR2
 go_cut [10] (fun v10 wx=> ∃(pb:Nat) (A6:Option Addr) (c6:Nat),v10= .pointer (some ⟨pb,0,none⟩)/\Blk wx pb 29 #[.slice none 0 0,.slice A6 m c6,.int .i64 room]/\wx.ownsRow Wb.heap.size 42 1 (.slice A6 m c6) m (List.replicate m (Value.int .u32 0))/\Wb.heap.size<=pb/\Below Wb.heap.size Wb wx)
 case first=>
  refine startG (fun W'=>Below Wb.drew.heap.size Wb.drew W') 9 (by kernel_rfl) ?_
  have HX:=Lib.hid HE.out.2.1.drew
  have HOB:=Lib.hid HTO.out.2
  have HBW:=Lib.hid (And.intro (below_drewB Wb) (And.intro (step_belowN HE.out.1 (below_drewB Wb) HE.out.1.size) (show w.heap.size<=Wb.drew.heap.size from HE.out.1.size)))
  have hH0:Below Wb.drew.heap.size Wb.drew Wb.drew:=Below.refl _ _
  have HSZ:=Lib.hid (show Wb.drew.heap.size=Wb.heap.size from rfl)
  generalize Wb.drew=W0 at HX HBW hH0 HSZ⊢
  refine takeA (i:=0) (v:= .int .i64 room) rfl hH0 ?_
  simp only [Act.put,zA,zB,zC,zD,zE,zF]
  refine takeB (i:=2) (v:= .agg #[.int .i64 ok,.int .i64 on,.int .i64 0,.int .i64 0]) rfl (yields_row (by rfl) 46 (.tmp 4) rfl ob rfl #[.int .i64 ok,.int .i64 on,.int .i64 0,.int .i64 0] (fun _ hS=>run_row _ _ _ _ _ _ (HX.out.below hS HX.out.lt) Tryz.underlying46 rfl obj_info4)) hH0 ?_
  simp only [Act.put,zA,zB,zC,zD,zE,zF]
  refine takeA (i:=3) (v:= .slice (some ⟨ab,ao,none⟩) n cap) rfl hH0 ?_
  simp only [Act.put,zA,zB,zC,zD,zE,zF]
  refine takeA (i:=4) (v:= .int .i64 (n:Int)) rfl hH0 ?_
  simp only [Act.put,zA,zB,zC,zD,zE,zF]
  refine manyG (rs:=[1,5,8]) (by kernel_rfl) (by simp) (AllG.cons (i:=1) rfl (fun K hK=>?_) (AllG.cons (i:=5) rfl (fun K hK=>?_) (AllG.cons (i:=8) rfl (fun K hK=>?_) AllG.nil)))
  ·go_simp
   have fB:=Blk.new W0 42 mz
   have hH1:=hH0.alloc hH0.size (.cells mz 42)
   have st:=(Below.refl W0.heap.size W0).alloc (Nat.le_refl _) (.cells mz 42)
   refine hK.out _ _ hH1 (fun _=>?_)
   clear hK K
   have fM1:(W0.alloc (.cells mz 42)).ownsRow W0.heap.size 42 1 (.slice (some ⟨W0.heap.size,0,none⟩) 16 16) 16 (List.replicate 16 (Value.int .u32 0)):=⟨by decide,.inr ⟨_,16,mz,rfl,hH0.size,fB,Nat.le_refl _,by decide,by rw [<-HMZ.out.1];rfl,by rw [<-HMZ.out.1];rfl⟩⟩
   clear fB
   clear st
   generalize W0.alloc (.cells mz 42)=W1 at*
   clear hH0
   try simp only [Act.put,zA,zB,zC,zD,zE,zF]
   refine manyG (rs:=[5,8]) (by kernel_rfl) (by simp) (AllG.cons (i:=5) rfl (fun K hK=>?_) (AllG.cons (i:=8) rfl (fun K hK=>?_) AllG.nil))
   ·go_simp
    have cF:=hfirst.out W1 (HOB.out.step (step_belowN HBW.out.2.1 hH1 HBW.out.2.2))
    with_reducible refine cF.mono ?_
    rintro ed W2 ⟨g5,rfl,fB,hg5,st⟩
    clear cF
    have hH2:=step_belowN hH1 st hH1.size
    refine hK.out _ _ hH2 (fun _=>?_)
    clear hK K
    have fF2:Sl W2 (some ⟨g5,0,none⟩) nz (fun _=> .int .u32 0):=fun _=>⟨g5,0,rfl,fB.lt,fun i hi=>by rw [Nat.zero_add,fB.cell];simp [List.getElem?_replicate,hi]⟩
    clear fB hg5
    have fM2:=own_below fM1 (Nat.le_refl _) st
    clear st
    clear fM1 hH1
    try simp only [Act.put,zA,zB,zC,zD,zE,zF]
    refine manyG (rs:=[6,8]) (by kernel_rfl) (by simp) (AllG.cons (i:=6) rfl (fun K hK=>?_) (AllG.cons (i:=8) rfl (fun K hK=>?_) AllG.nil))
    ·rw [if_pos (by rfl)]
     refine (wp_append_sl W2 (.tmp 18) (.tmp 22) 27 rfl W0.heap.size 42 HUI.out.choose _ 1 4 Tryz.underlying27 HUI.out.choose_spec.1 HUI.out.choose_spec.2.1 HUI.out.choose_spec.2.2.1 HUI.out.choose_spec.2.2.2 rfl (by decide) _ 16 _ rfl fM2 (some ⟨g5,0,none⟩) nz nz (fun _=> .int .u32 0) rfl (by rw [Nat.mul_one];exact fF2) (fun _ _=>rfl) (by unfold maxLen;omega) (by omega) hH2.size ?_)
     intro v6 W3 fA3 hg6 _
     have hH3:=below_of_grown6 hH2 hg6 (fun g e=>(own_in fM2 g e).1)
     refine hK.out _ _ hH3 (fun _=>?_)
     clear hK K
     obtain ⟨A6,c6,rfl,_,_⟩:=own_cap fA3
     rw [zeros_app,HNZ.out]at fA3
     try rw [HNZ.out]
     clear hg6
     clear fM2 fF2 hH2
     try simp only [Act.put,zA,zB,zC,zD,zE,zF]
     refine takeA (i:=7) (v:= .agg #[.slice none 0 0,.slice A6 m c6,.int .i64 room]) rfl hH3 ?_
     simp only [Act.put,zA,zB,zC,zD,zE,zF]
     refine onlyG (i:=8) (by kernel_rfl) rfl (fun K hK=>?_)
     go_simp
     have fP4:=Blk.new W3 29 #[.slice none 0 0,.slice none 0 0,.int .i64 0]
     have hH4:=hH3.alloc hH3.size (.cells #[.slice none 0 0,.slice none 0 0,.int .i64 0] 29)
     have st:=(Below.refl W3.heap.size W3).alloc (Nat.le_refl _) (.cells #[.slice none 0 0,.slice none 0 0,.int .i64 0] 29)
     refine hK.out _ _ hH4 (fun _=>?_)
     clear hK K
     have fA4:=own_below fA3 (Nat.le_refl _) st
     clear st
     have hP0:=Lib.hid hH3.size
     obtain ⟨pb,hpb⟩: ∃pb,W3.heap.size=pb:=⟨_,rfl⟩
     rw [hpb]at fP4 hP0
     try rw [hpb]
     clear hpb
     generalize W3.alloc (.cells #[.slice none 0 0,.slice none 0 0,.int .i64 0] 29)=W4 at*
     clear fA3 hH3
     try simp only [Act.put,zA,zB,zC,zD,zE,zF]
     refine lastG (by kernel_rfl) rfl (by kernel_rfl) (fun K hK=>?_)
     refine step_store_row rfl 29 (.tmp 10) (.tmp 24) rfl _ rfl #[.slice none 0 0,.slice A6 m c6,.int .i64 room] rfl 29 #[.slice none 0 0,.slice none 0 0,.int .i64 0] fP4 rfl pg_info (by simp [Value.oneCell']) ?_
     intro w9 hb9 hg9
     refine hK.out _ _ ?_
     clear hK K
     have fM9:=own_far9 fA4 hg9 (row_ne fP4 fA4 (by decide))
     have hB9:=below_row hH4 hg9 (by have :=hH4.size;omega) hP0.out
     have HZ:=Lib.hid (And.intro hb9 (And.intro fM9 (And.intro hB9 hP0.out)))
     clear hb9 fM9 hB9 hg9 fP4 fA4 hH4
     go_wp2_with fail
     go_meet
     case rel=>exact ⟨_,A6,c6,rfl,HZ.out.1,HSZ.out▸HZ.out.2.1,by have :=HZ.out.2.2.2;have :=HSZ.out;omega,step_belowN HBW.out.1 HZ.out.2.2.1 HBW.out.1.size⟩
    ·go_simp
     have fP3:=Blk.new W2 29 #[.slice none 0 0,.slice none 0 0,.int .i64 0]
     have hH3:=hH2.alloc hH2.size (.cells #[.slice none 0 0,.slice none 0 0,.int .i64 0] 29)
     have st:=(Below.refl W2.heap.size W2).alloc (Nat.le_refl _) (.cells #[.slice none 0 0,.slice none 0 0,.int .i64 0] 29)
     refine hK.out _ _ hH3 (fun _=>?_)
     clear hK K
     have fM3:=own_below fM2 (Nat.le_refl _) st
     have fF3:=fF2.step st
     clear st
     have hP0:=Lib.hid hH2.size
     obtain ⟨pb,hpb⟩: ∃pb,W2.heap.size=pb:=⟨_,rfl⟩
     rw [hpb]at fP3 hP0
     try rw [hpb]
     clear hpb
     generalize W2.alloc (.cells #[.slice none 0 0,.slice none 0 0,.int .i64 0] 29)=W3 at*
     clear fM2 fF2 hH2
     try simp only [Act.put,zA,zB,zC,zD,zE,zF]
     refine onlyG (i:=6) (by kernel_rfl) rfl (fun K hK=>?_)
     rw [if_pos (by rfl)]
     refine (wp_append_sl W3 (.tmp 18) (.tmp 22) 27 rfl W0.heap.size 42 HUI.out.choose _ 1 4 Tryz.underlying27 HUI.out.choose_spec.1 HUI.out.choose_spec.2.1 HUI.out.choose_spec.2.2.1 HUI.out.choose_spec.2.2.2 rfl (by decide) _ 16 _ rfl fM3 (some ⟨g5,0,none⟩) nz nz (fun _=> .int .u32 0) rfl (by rw [Nat.mul_one];exact fF3) (fun _ _=>rfl) (by unfold maxLen;omega) (by omega) hH3.size ?_)
     intro v6 W4 fA4 hg6 _
     have hH4:=below_of_grown6 hH3 hg6 (fun g e=>(own_in fM3 g e).1)
     refine hK.out _ _ hH4 (fun _=>?_)
     clear hK K
     have fP4:=fP3.grown hg6 (row_ne fP3 fM3 (by decide))
     obtain ⟨A6,c6,rfl,_,_⟩:=own_cap fA4
     rw [zeros_app,HNZ.out]at fA4
     try rw [HNZ.out]
     clear hg6
     clear fM3 fF3 fP3 hH3
     try simp only [Act.put,zA,zB,zC,zD,zE,zF]
     refine takeA (i:=7) (v:= .agg #[.slice none 0 0,.slice A6 m c6,.int .i64 room]) rfl hH4 ?_
     simp only [Act.put,zA,zB,zC,zD,zE,zF]
     refine lastG (by kernel_rfl) rfl (by kernel_rfl) (fun K hK=>?_)
     refine step_store_row rfl 29 (.tmp 10) (.tmp 24) rfl _ rfl #[.slice none 0 0,.slice A6 m c6,.int .i64 room] rfl 29 #[.slice none 0 0,.slice none 0 0,.int .i64 0] fP4 rfl pg_info (by simp [Value.oneCell']) ?_
     intro w9 hb9 hg9
     refine hK.out _ _ ?_
     clear hK K
     have fM9:=own_far9 fA4 hg9 (row_ne fP4 fA4 (by decide))
     have hB9:=below_row hH4 hg9 (by have :=hH4.size;omega) hP0.out
     have HZ:=Lib.hid (And.intro hb9 (And.intro fM9 (And.intro hB9 hP0.out)))
     clear hb9 fM9 hB9 hg9 fP4 fA4 hH4
     go_wp2_with fail
     go_meet
     case rel=>exact ⟨_,A6,c6,rfl,HZ.out.1,HSZ.out▸HZ.out.2.1,by have :=HZ.out.2.2.2;have :=HSZ.out;omega,step_belowN HBW.out.1 HZ.out.2.2.1 HBW.out.1.size⟩
   ·go_simp
    have fP2:=Blk.new W1 29 #[.slice none 0 0,.slice none 0 0,.int .i64 0]
    have hH2:=hH1.alloc hH1.size (.cells #[.slice none 0 0,.slice none 0 0,.int .i64 0] 29)
    have st:=(Below.refl W1.heap.size W1).alloc (Nat.le_refl _) (.cells #[.slice none 0 0,.slice none 0 0,.int .i64 0] 29)
    refine hK.out _ _ hH2 (fun _=>?_)
    clear hK K
    have fM2:=own_below fM1 (Nat.le_refl _) st
    clear st
    have hP0:=Lib.hid hH1.size
    obtain ⟨pb,hpb⟩: ∃pb,W1.heap.size=pb:=⟨_,rfl⟩
    rw [hpb]at fP2 hP0
    try rw [hpb]
    clear hpb
    generalize W1.alloc (.cells #[.slice none 0 0,.slice none 0 0,.int .i64 0] 29)=W2 at*
    clear fM1 hH1
    try simp only [Act.put,zA,zB,zC,zD,zE,zF]
    refine onlyG (i:=5) (by kernel_rfl) rfl (fun K hK=>?_)
    go_simp
    have cF:=hfirst.out W2 (HOB.out.step (step_belowN HBW.out.2.1 hH2 HBW.out.2.2))
    with_reducible refine cF.mono ?_
    rintro ed W3 ⟨g5,rfl,fB,hg5,st⟩
    clear cF
    have hH3:=step_belowN hH2 st hH2.size
    refine hK.out _ _ hH3 (fun _=>?_)
    clear hK K
    have fF3:Sl W3 (some ⟨g5,0,none⟩) nz (fun _=> .int .u32 0):=fun _=>⟨g5,0,rfl,fB.lt,fun i hi=>by rw [Nat.zero_add,fB.cell];simp [List.getElem?_replicate,hi]⟩
    clear fB hg5
    have fM3:=own_below fM2 (Nat.le_refl _) st
    have fP3:=fP2.below st fP2.lt
    clear st
    clear fM2 fP2 hH2
    try simp only [Act.put,zA,zB,zC,zD,zE,zF]
    refine onlyG (i:=6) (by kernel_rfl) rfl (fun K hK=>?_)
    rw [if_pos (by rfl)]
    refine (wp_append_sl W3 (.tmp 18) (.tmp 22) 27 rfl W0.heap.size 42 HUI.out.choose _ 1 4 Tryz.underlying27 HUI.out.choose_spec.1 HUI.out.choose_spec.2.1 HUI.out.choose_spec.2.2.1 HUI.out.choose_spec.2.2.2 rfl (by decide) _ 16 _ rfl fM3 (some ⟨g5,0,none⟩) nz nz (fun _=> .int .u32 0) rfl (by rw [Nat.mul_one];exact fF3) (fun _ _=>rfl) (by unfold maxLen;omega) (by omega) hH3.size ?_)
    intro v6 W4 fA4 hg6 _
    have hH4:=below_of_grown6 hH3 hg6 (fun g e=>(own_in fM3 g e).1)
    refine hK.out _ _ hH4 (fun _=>?_)
    clear hK K
    have fP4:=fP3.grown hg6 (row_ne fP3 fM3 (by decide))
    obtain ⟨A6,c6,rfl,_,_⟩:=own_cap fA4
    rw [zeros_app,HNZ.out]at fA4
    try rw [HNZ.out]
    clear hg6
    clear fM3 fF3 fP3 hH3
    try simp only [Act.put,zA,zB,zC,zD,zE,zF]
    refine takeA (i:=7) (v:= .agg #[.slice none 0 0,.slice A6 m c6,.int .i64 room]) rfl hH4 ?_
    simp only [Act.put,zA,zB,zC,zD,zE,zF]
    refine lastG (by kernel_rfl) rfl (by kernel_rfl) (fun K hK=>?_)
    refine step_store_row rfl 29 (.tmp 10) (.tmp 24) rfl _ rfl #[.slice none 0 0,.slice A6 m c6,.int .i64 room] rfl 29 #[.slice none 0 0,.slice none 0 0,.int .i64 0] fP4 rfl pg_info (by simp [Value.oneCell']) ?_
    intro w9 hb9 hg9
    refine hK.out _ _ ?_
    clear hK K
    have fM9:=own_far9 fA4 hg9 (row_ne fP4 fA4 (by decide))
    have hB9:=below_row hH4 hg9 (by have :=hH4.size;omega) hP0.out
    have HZ:=Lib.hid (And.intro hb9 (And.intro fM9 (And.intro hB9 hP0.out)))
    clear hb9 fM9 hB9 hg9 fP4 fA4 hH4
    go_wp2_with fail
    go_meet
    case rel=>exact ⟨_,A6,c6,rfl,HZ.out.1,HSZ.out▸HZ.out.2.1,by have :=HZ.out.2.2.2;have :=HSZ.out;omega,step_belowN HBW.out.1 HZ.out.2.2.1 HBW.out.1.size⟩
  ·go_simp
   have cF:=hfirst.out W0 (HOB.out.step (step_belowN HBW.out.2.1 hH0 HBW.out.2.2))
   with_reducible refine cF.mono ?_
   rintro ed W1 ⟨g5,rfl,fB,hg5,st⟩
   clear cF
   have hH1:=step_belowN hH0 st hH0.size
   refine hK.out _ _ hH1 (fun _=>?_)
   clear hK K
   have fF1:Sl W1 (some ⟨g5,0,none⟩) nz (fun _=> .int .u32 0):=fun _=>⟨g5,0,rfl,fB.lt,fun i hi=>by rw [Nat.zero_add,fB.cell];simp [List.getElem?_replicate,hi]⟩
   clear fB hg5
   clear st
   clear hH0
   try simp only [Act.put,zA,zB,zC,zD,zE,zF]
   refine manyG (rs:=[1,8]) (by kernel_rfl) (by simp) (AllG.cons (i:=1) rfl (fun K hK=>?_) (AllG.cons (i:=8) rfl (fun K hK=>?_) AllG.nil))
   ·go_simp
    have fB:=Blk.new W1 42 mz
    have hH2:=hH1.alloc hH1.size (.cells mz 42)
    have st:=(Below.refl W1.heap.size W1).alloc (Nat.le_refl _) (.cells mz 42)
    refine hK.out _ _ hH2 (fun _=>?_)
    clear hK K
    have fM2:(W1.alloc (.cells mz 42)).ownsRow W0.heap.size 42 1 (.slice (some ⟨W1.heap.size,0,none⟩) 16 16) 16 (List.replicate 16 (Value.int .u32 0)):=⟨by decide,.inr ⟨_,16,mz,rfl,hH1.size,fB,Nat.le_refl _,by decide,by rw [<-HMZ.out.1];rfl,by rw [<-HMZ.out.1];rfl⟩⟩
    clear fB
    have fF2:=fF1.step st
    clear st
    obtain ⟨g1,hg1⟩: ∃g1,W1.heap.size=g1:=⟨_,rfl⟩
    rw [hg1]at fM2
    try rw [hg1]
    clear hg1
    generalize W1.alloc (.cells mz 42)=W2 at*
    clear fF1 hH1
    try simp only [Act.put,zA,zB,zC,zD,zE,zF]
    refine manyG (rs:=[6,8]) (by kernel_rfl) (by simp) (AllG.cons (i:=6) rfl (fun K hK=>?_) (AllG.cons (i:=8) rfl (fun K hK=>?_) AllG.nil))
    ·rw [if_pos (by rfl)]
     refine (wp_append_sl W2 (.tmp 18) (.tmp 22) 27 rfl W0.heap.size 42 HUI.out.choose _ 1 4 Tryz.underlying27 HUI.out.choose_spec.1 HUI.out.choose_spec.2.1 HUI.out.choose_spec.2.2.1 HUI.out.choose_spec.2.2.2 rfl (by decide) _ 16 _ rfl fM2 (some ⟨g5,0,none⟩) nz nz (fun _=> .int .u32 0) rfl (by rw [Nat.mul_one];exact fF2) (fun _ _=>rfl) (by unfold maxLen;omega) (by omega) hH2.size ?_)
     intro v6 W3 fA3 hg6 _
     have hH3:=below_of_grown6 hH2 hg6 (fun g e=>(own_in fM2 g e).1)
     refine hK.out _ _ hH3 (fun _=>?_)
     clear hK K
     obtain ⟨A6,c6,rfl,_,_⟩:=own_cap fA3
     rw [zeros_app,HNZ.out]at fA3
     try rw [HNZ.out]
     clear hg6
     clear fM2 fF2 hH2
     try simp only [Act.put,zA,zB,zC,zD,zE,zF]
     refine takeA (i:=7) (v:= .agg #[.slice none 0 0,.slice A6 m c6,.int .i64 room]) rfl hH3 ?_
     simp only [Act.put,zA,zB,zC,zD,zE,zF]
     refine onlyG (i:=8) (by kernel_rfl) rfl (fun K hK=>?_)
     go_simp
     have fP4:=Blk.new W3 29 #[.slice none 0 0,.slice none 0 0,.int .i64 0]
     have hH4:=hH3.alloc hH3.size (.cells #[.slice none 0 0,.slice none 0 0,.int .i64 0] 29)
     have st:=(Below.refl W3.heap.size W3).alloc (Nat.le_refl _) (.cells #[.slice none 0 0,.slice none 0 0,.int .i64 0] 29)
     refine hK.out _ _ hH4 (fun _=>?_)
     clear hK K
     have fA4:=own_below fA3 (Nat.le_refl _) st
     clear st
     have hP0:=Lib.hid hH3.size
     obtain ⟨pb,hpb⟩: ∃pb,W3.heap.size=pb:=⟨_,rfl⟩
     rw [hpb]at fP4 hP0
     try rw [hpb]
     clear hpb
     generalize W3.alloc (.cells #[.slice none 0 0,.slice none 0 0,.int .i64 0] 29)=W4 at*
     clear fA3 hH3
     try simp only [Act.put,zA,zB,zC,zD,zE,zF]
     refine lastG (by kernel_rfl) rfl (by kernel_rfl) (fun K hK=>?_)
     refine step_store_row rfl 29 (.tmp 10) (.tmp 24) rfl _ rfl #[.slice none 0 0,.slice A6 m c6,.int .i64 room] rfl 29 #[.slice none 0 0,.slice none 0 0,.int .i64 0] fP4 rfl pg_info (by simp [Value.oneCell']) ?_
     intro w9 hb9 hg9
     refine hK.out _ _ ?_
     clear hK K
     have fM9:=own_far9 fA4 hg9 (row_ne fP4 fA4 (by decide))
     have hB9:=below_row hH4 hg9 (by have :=hH4.size;omega) hP0.out
     have HZ:=Lib.hid (And.intro hb9 (And.intro fM9 (And.intro hB9 hP0.out)))
     clear hb9 fM9 hB9 hg9 fP4 fA4 hH4
     go_wp2_with fail
     go_meet
     case rel=>exact ⟨_,A6,c6,rfl,HZ.out.1,HSZ.out▸HZ.out.2.1,by have :=HZ.out.2.2.2;have :=HSZ.out;omega,step_belowN HBW.out.1 HZ.out.2.2.1 HBW.out.1.size⟩
    ·go_simp
     have fP3:=Blk.new W2 29 #[.slice none 0 0,.slice none 0 0,.int .i64 0]
     have hH3:=hH2.alloc hH2.size (.cells #[.slice none 0 0,.slice none 0 0,.int .i64 0] 29)
     have st:=(Below.refl W2.heap.size W2).alloc (Nat.le_refl _) (.cells #[.slice none 0 0,.slice none 0 0,.int .i64 0] 29)
     refine hK.out _ _ hH3 (fun _=>?_)
     clear hK K
     have fM3:=own_below fM2 (Nat.le_refl _) st
     have fF3:=fF2.step st
     clear st
     have hP0:=Lib.hid hH2.size
     obtain ⟨pb,hpb⟩: ∃pb,W2.heap.size=pb:=⟨_,rfl⟩
     rw [hpb]at fP3 hP0
     try rw [hpb]
     clear hpb
     generalize W2.alloc (.cells #[.slice none 0 0,.slice none 0 0,.int .i64 0] 29)=W3 at*
     clear fM2 fF2 hH2
     try simp only [Act.put,zA,zB,zC,zD,zE,zF]
     refine onlyG (i:=6) (by kernel_rfl) rfl (fun K hK=>?_)
     rw [if_pos (by rfl)]
     refine (wp_append_sl W3 (.tmp 18) (.tmp 22) 27 rfl W0.heap.size 42 HUI.out.choose _ 1 4 Tryz.underlying27 HUI.out.choose_spec.1 HUI.out.choose_spec.2.1 HUI.out.choose_spec.2.2.1 HUI.out.choose_spec.2.2.2 rfl (by decide) _ 16 _ rfl fM3 (some ⟨g5,0,none⟩) nz nz (fun _=> .int .u32 0) rfl (by rw [Nat.mul_one];exact fF3) (fun _ _=>rfl) (by unfold maxLen;omega) (by omega) hH3.size ?_)
     intro v6 W4 fA4 hg6 _
     have hH4:=below_of_grown6 hH3 hg6 (fun g e=>(own_in fM3 g e).1)
     refine hK.out _ _ hH4 (fun _=>?_)
     clear hK K
     have fP4:=fP3.grown hg6 (row_ne fP3 fM3 (by decide))
     obtain ⟨A6,c6,rfl,_,_⟩:=own_cap fA4
     rw [zeros_app,HNZ.out]at fA4
     try rw [HNZ.out]
     clear hg6
     clear fM3 fF3 fP3 hH3
     try simp only [Act.put,zA,zB,zC,zD,zE,zF]
     refine takeA (i:=7) (v:= .agg #[.slice none 0 0,.slice A6 m c6,.int .i64 room]) rfl hH4 ?_
     simp only [Act.put,zA,zB,zC,zD,zE,zF]
     refine lastG (by kernel_rfl) rfl (by kernel_rfl) (fun K hK=>?_)
     refine step_store_row rfl 29 (.tmp 10) (.tmp 24) rfl _ rfl #[.slice none 0 0,.slice A6 m c6,.int .i64 room] rfl 29 #[.slice none 0 0,.slice none 0 0,.int .i64 0] fP4 rfl pg_info (by simp [Value.oneCell']) ?_
     intro w9 hb9 hg9
     refine hK.out _ _ ?_
     clear hK K
     have fM9:=own_far9 fA4 hg9 (row_ne fP4 fA4 (by decide))
     have hB9:=below_row hH4 hg9 (by have :=hH4.size;omega) hP0.out
     have HZ:=Lib.hid (And.intro hb9 (And.intro fM9 (And.intro hB9 hP0.out)))
     clear hb9 fM9 hB9 hg9 fP4 fA4 hH4
     go_wp2_with fail
     go_meet
     case rel=>exact ⟨_,A6,c6,rfl,HZ.out.1,HSZ.out▸HZ.out.2.1,by have :=HZ.out.2.2.2;have :=HSZ.out;omega,step_belowN HBW.out.1 HZ.out.2.2.1 HBW.out.1.size⟩
   ·go_simp
    have fP2:=Blk.new W1 29 #[.slice none 0 0,.slice none 0 0,.int .i64 0]
    have hH2:=hH1.alloc hH1.size (.cells #[.slice none 0 0,.slice none 0 0,.int .i64 0] 29)
    have st:=(Below.refl W1.heap.size W1).alloc (Nat.le_refl _) (.cells #[.slice none 0 0,.slice none 0 0,.int .i64 0] 29)
    refine hK.out _ _ hH2 (fun _=>?_)
    clear hK K
    have fF2:=fF1.step st
    clear st
    have hP0:=Lib.hid hH1.size
    obtain ⟨pb,hpb⟩: ∃pb,W1.heap.size=pb:=⟨_,rfl⟩
    rw [hpb]at fP2 hP0
    try rw [hpb]
    clear hpb
    generalize W1.alloc (.cells #[.slice none 0 0,.slice none 0 0,.int .i64 0] 29)=W2 at*
    clear fF1 hH1
    try simp only [Act.put,zA,zB,zC,zD,zE,zF]
    refine onlyG (i:=1) (by kernel_rfl) rfl (fun K hK=>?_)
    go_simp
    have fB:=Blk.new W2 42 mz
    have hH3:=hH2.alloc hH2.size (.cells mz 42)
    have st:=(Below.refl W2.heap.size W2).alloc (Nat.le_refl _) (.cells mz 42)
    refine hK.out _ _ hH3 (fun _=>?_)
    clear hK K
    have fM3:(W2.alloc (.cells mz 42)).ownsRow W0.heap.size 42 1 (.slice (some ⟨W2.heap.size,0,none⟩) 16 16) 16 (List.replicate 16 (Value.int .u32 0)):=⟨by decide,.inr ⟨_,16,mz,rfl,hH2.size,fB,Nat.le_refl _,by decide,by rw [<-HMZ.out.1];rfl,by rw [<-HMZ.out.1];rfl⟩⟩
    clear fB
    have fF3:=fF2.step st
    have fP3:=fP2.below st fP2.lt
    clear st
    obtain ⟨g1,hg1⟩: ∃g1,W2.heap.size=g1:=⟨_,rfl⟩
    rw [hg1]at fM3
    try rw [hg1]
    clear hg1
    generalize W2.alloc (.cells mz 42)=W3 at*
    clear fF2 fP2 hH2
    try simp only [Act.put,zA,zB,zC,zD,zE,zF]
    refine onlyG (i:=6) (by kernel_rfl) rfl (fun K hK=>?_)
    rw [if_pos (by rfl)]
    refine (wp_append_sl W3 (.tmp 18) (.tmp 22) 27 rfl W0.heap.size 42 HUI.out.choose _ 1 4 Tryz.underlying27 HUI.out.choose_spec.1 HUI.out.choose_spec.2.1 HUI.out.choose_spec.2.2.1 HUI.out.choose_spec.2.2.2 rfl (by decide) _ 16 _ rfl fM3 (some ⟨g5,0,none⟩) nz nz (fun _=> .int .u32 0) rfl (by rw [Nat.mul_one];exact fF3) (fun _ _=>rfl) (by unfold maxLen;omega) (by omega) hH3.size ?_)
    intro v6 W4 fA4 hg6 _
    have hH4:=below_of_grown6 hH3 hg6 (fun g e=>(own_in fM3 g e).1)
    refine hK.out _ _ hH4 (fun _=>?_)
    clear hK K
    have fP4:=fP3.grown hg6 (row_ne fP3 fM3 (by decide))
    obtain ⟨A6,c6,rfl,_,_⟩:=own_cap fA4
    rw [zeros_app,HNZ.out]at fA4
    try rw [HNZ.out]
    clear hg6
    clear fM3 fF3 fP3 hH3
    try simp only [Act.put,zA,zB,zC,zD,zE,zF]
    refine takeA (i:=7) (v:= .agg #[.slice none 0 0,.slice A6 m c6,.int .i64 room]) rfl hH4 ?_
    simp only [Act.put,zA,zB,zC,zD,zE,zF]
    refine lastG (by kernel_rfl) rfl (by kernel_rfl) (fun K hK=>?_)
    refine step_store_row rfl 29 (.tmp 10) (.tmp 24) rfl _ rfl #[.slice none 0 0,.slice A6 m c6,.int .i64 room] rfl 29 #[.slice none 0 0,.slice none 0 0,.int .i64 0] fP4 rfl pg_info (by simp [Value.oneCell']) ?_
    intro w9 hb9 hg9
    refine hK.out _ _ ?_
    clear hK K
    have fM9:=own_far9 fA4 hg9 (row_ne fP4 fA4 (by decide))
    have hB9:=below_row hH4 hg9 (by have :=hH4.size;omega) hP0.out
    have HZ:=Lib.hid (And.intro hb9 (And.intro fM9 (And.intro hB9 hP0.out)))
    clear hb9 fM9 hB9 hg9 fP4 fA4 hH4
    go_wp2_with fail
    go_meet
    case rel=>exact ⟨_,A6,c6,rfl,HZ.out.1,HSZ.out▸HZ.out.2.1,by have :=HZ.out.2.2.2;have :=HSZ.out;omega,step_belowN HBW.out.1 HZ.out.2.2.1 HBW.out.1.size⟩
  ·go_simp
   have fP1:=Blk.new W0 29 #[.slice none 0 0,.slice none 0 0,.int .i64 0]
   have hH1:=hH0.alloc hH0.size (.cells #[.slice none 0 0,.slice none 0 0,.int .i64 0] 29)
   have st:=(Below.refl W0.heap.size W0).alloc (Nat.le_refl _) (.cells #[.slice none 0 0,.slice none 0 0,.int .i64 0] 29)
   refine hK.out _ _ hH1 (fun _=>?_)
   clear hK K
   clear st
   have hP0:=Lib.hid hH0.size
   generalize W0.alloc (.cells #[.slice none 0 0,.slice none 0 0,.int .i64 0] 29)=W1 at*
   clear hH0
   try simp only [Act.put,zA,zB,zC,zD,zE,zF]
   refine manyG (rs:=[1,5]) (by kernel_rfl) (by simp) (AllG.cons (i:=1) rfl (fun K hK=>?_) (AllG.cons (i:=5) rfl (fun K hK=>?_) AllG.nil))
   ·go_simp
    have fB:=Blk.new W1 42 mz
    have hH2:=hH1.alloc hH1.size (.cells mz 42)
    have st:=(Below.refl W1.heap.size W1).alloc (Nat.le_refl _) (.cells mz 42)
    refine hK.out _ _ hH2 (fun _=>?_)
    clear hK K
    have fM2:(W1.alloc (.cells mz 42)).ownsRow W0.heap.size 42 1 (.slice (some ⟨W1.heap.size,0,none⟩) 16 16) 16 (List.replicate 16 (Value.int .u32 0)):=⟨by decide,.inr ⟨_,16,mz,rfl,hH1.size,fB,Nat.le_refl _,by decide,by rw [<-HMZ.out.1];rfl,by rw [<-HMZ.out.1];rfl⟩⟩
    clear fB
    have fP2:=fP1.below st fP1.lt
    clear st
    obtain ⟨g1,hg1⟩: ∃g1,W1.heap.size=g1:=⟨_,rfl⟩
    rw [hg1]at fM2
    try rw [hg1]
    clear hg1
    generalize W1.alloc (.cells mz 42)=W2 at*
    clear fP1 hH1
    try simp only [Act.put,zA,zB,zC,zD,zE,zF]
    refine onlyG (i:=5) (by kernel_rfl) rfl (fun K hK=>?_)
    go_simp
    have cF:=hfirst.out W2 (HOB.out.step (step_belowN HBW.out.2.1 hH2 HBW.out.2.2))
    with_reducible refine cF.mono ?_
    rintro ed W3 ⟨g5,rfl,fB,hg5,st⟩
    clear cF
    have hH3:=step_belowN hH2 st hH2.size
    refine hK.out _ _ hH3 (fun _=>?_)
    clear hK K
    have fF3:Sl W3 (some ⟨g5,0,none⟩) nz (fun _=> .int .u32 0):=fun _=>⟨g5,0,rfl,fB.lt,fun i hi=>by rw [Nat.zero_add,fB.cell];simp [List.getElem?_replicate,hi]⟩
    clear fB hg5
    have fM3:=own_below fM2 (Nat.le_refl _) st
    have fP3:=fP2.below st fP2.lt
    clear st
    clear fM2 fP2 hH2
    try simp only [Act.put,zA,zB,zC,zD,zE,zF]
    refine onlyG (i:=6) (by kernel_rfl) rfl (fun K hK=>?_)
    rw [if_pos (by rfl)]
    refine (wp_append_sl W3 (.tmp 18) (.tmp 22) 27 rfl W0.heap.size 42 HUI.out.choose _ 1 4 Tryz.underlying27 HUI.out.choose_spec.1 HUI.out.choose_spec.2.1 HUI.out.choose_spec.2.2.1 HUI.out.choose_spec.2.2.2 rfl (by decide) _ 16 _ rfl fM3 (some ⟨g5,0,none⟩) nz nz (fun _=> .int .u32 0) rfl (by rw [Nat.mul_one];exact fF3) (fun _ _=>rfl) (by unfold maxLen;omega) (by omega) hH3.size ?_)
    intro v6 W4 fA4 hg6 _
    have hH4:=below_of_grown6 hH3 hg6 (fun g e=>(own_in fM3 g e).1)
    refine hK.out _ _ hH4 (fun _=>?_)
    clear hK K
    have fP4:=fP3.grown hg6 (row_ne fP3 fM3 (by decide))
    obtain ⟨A6,c6,rfl,_,_⟩:=own_cap fA4
    rw [zeros_app,HNZ.out]at fA4
    try rw [HNZ.out]
    clear hg6
    clear fM3 fF3 fP3 hH3
    try simp only [Act.put,zA,zB,zC,zD,zE,zF]
    refine takeA (i:=7) (v:= .agg #[.slice none 0 0,.slice A6 m c6,.int .i64 room]) rfl hH4 ?_
    simp only [Act.put,zA,zB,zC,zD,zE,zF]
    refine lastG (by kernel_rfl) rfl (by kernel_rfl) (fun K hK=>?_)
    refine step_store_row rfl 29 (.tmp 10) (.tmp 24) rfl _ rfl #[.slice none 0 0,.slice A6 m c6,.int .i64 room] rfl 29 #[.slice none 0 0,.slice none 0 0,.int .i64 0] fP4 rfl pg_info (by simp [Value.oneCell']) ?_
    intro w9 hb9 hg9
    refine hK.out _ _ ?_
    clear hK K
    have fM9:=own_far9 fA4 hg9 (row_ne fP4 fA4 (by decide))
    have hB9:=below_row hH4 hg9 (by have :=hH4.size;omega) hP0.out
    have HZ:=Lib.hid (And.intro hb9 (And.intro fM9 (And.intro hB9 hP0.out)))
    clear hb9 fM9 hB9 hg9 fP4 fA4 hH4
    go_wp2_with fail
    go_meet
    case rel=>exact ⟨_,A6,c6,rfl,HZ.out.1,HSZ.out▸HZ.out.2.1,by have :=HZ.out.2.2.2;have :=HSZ.out;omega,step_belowN HBW.out.1 HZ.out.2.2.1 HBW.out.1.size⟩
   ·go_simp
    have cF:=hfirst.out W1 (HOB.out.step (step_belowN HBW.out.2.1 hH1 HBW.out.2.2))
    with_reducible refine cF.mono ?_
    rintro ed W2 ⟨g5,rfl,fB,hg5,st⟩
    clear cF
    have hH2:=step_belowN hH1 st hH1.size
    refine hK.out _ _ hH2 (fun _=>?_)
    clear hK K
    have fF2:Sl W2 (some ⟨g5,0,none⟩) nz (fun _=> .int .u32 0):=fun _=>⟨g5,0,rfl,fB.lt,fun i hi=>by rw [Nat.zero_add,fB.cell];simp [List.getElem?_replicate,hi]⟩
    clear fB hg5
    have fP2:=fP1.below st fP1.lt
    clear st
    clear fP1 hH1
    try simp only [Act.put,zA,zB,zC,zD,zE,zF]
    refine onlyG (i:=1) (by kernel_rfl) rfl (fun K hK=>?_)
    go_simp
    have fB:=Blk.new W2 42 mz
    have hH3:=hH2.alloc hH2.size (.cells mz 42)
    have st:=(Below.refl W2.heap.size W2).alloc (Nat.le_refl _) (.cells mz 42)
    refine hK.out _ _ hH3 (fun _=>?_)
    clear hK K
    have fM3:(W2.alloc (.cells mz 42)).ownsRow W0.heap.size 42 1 (.slice (some ⟨W2.heap.size,0,none⟩) 16 16) 16 (List.replicate 16 (Value.int .u32 0)):=⟨by decide,.inr ⟨_,16,mz,rfl,hH2.size,fB,Nat.le_refl _,by decide,by rw [<-HMZ.out.1];rfl,by rw [<-HMZ.out.1];rfl⟩⟩
    clear fB
    have fF3:=fF2.step st
    have fP3:=fP2.below st fP2.lt
    clear st
    obtain ⟨g1,hg1⟩: ∃g1,W2.heap.size=g1:=⟨_,rfl⟩
    rw [hg1]at fM3
    try rw [hg1]
    clear hg1
    generalize W2.alloc (.cells mz 42)=W3 at*
    clear fF2 fP2 hH2
    try simp only [Act.put,zA,zB,zC,zD,zE,zF]
    refine onlyG (i:=6) (by kernel_rfl) rfl (fun K hK=>?_)
    rw [if_pos (by rfl)]
    refine (wp_append_sl W3 (.tmp 18) (.tmp 22) 27 rfl W0.heap.size 42 HUI.out.choose _ 1 4 Tryz.underlying27 HUI.out.choose_spec.1 HUI.out.choose_spec.2.1 HUI.out.choose_spec.2.2.1 HUI.out.choose_spec.2.2.2 rfl (by decide) _ 16 _ rfl fM3 (some ⟨g5,0,none⟩) nz nz (fun _=> .int .u32 0) rfl (by rw [Nat.mul_one];exact fF3) (fun _ _=>rfl) (by unfold maxLen;omega) (by omega) hH3.size ?_)
    intro v6 W4 fA4 hg6 _
    have hH4:=below_of_grown6 hH3 hg6 (fun g e=>(own_in fM3 g e).1)
    refine hK.out _ _ hH4 (fun _=>?_)
    clear hK K
    have fP4:=fP3.grown hg6 (row_ne fP3 fM3 (by decide))
    obtain ⟨A6,c6,rfl,_,_⟩:=own_cap fA4
    rw [zeros_app,HNZ.out]at fA4
    try rw [HNZ.out]
    clear hg6
    clear fM3 fF3 fP3 hH3
    try simp only [Act.put,zA,zB,zC,zD,zE,zF]
    refine takeA (i:=7) (v:= .agg #[.slice none 0 0,.slice A6 m c6,.int .i64 room]) rfl hH4 ?_
    simp only [Act.put,zA,zB,zC,zD,zE,zF]
    refine lastG (by kernel_rfl) rfl (by kernel_rfl) (fun K hK=>?_)
    refine step_store_row rfl 29 (.tmp 10) (.tmp 24) rfl _ rfl #[.slice none 0 0,.slice A6 m c6,.int .i64 room] rfl 29 #[.slice none 0 0,.slice none 0 0,.int .i64 0] fP4 rfl pg_info (by simp [Value.oneCell']) ?_
    intro w9 hb9 hg9
    refine hK.out _ _ ?_
    clear hK K
    have fM9:=own_far9 fA4 hg9 (row_ne fP4 fA4 (by decide))
    have hB9:=below_row hH4 hg9 (by have :=hH4.size;omega) hP0.out
    have HZ:=Lib.hid (And.intro hb9 (And.intro fM9 (And.intro hB9 hP0.out)))
    clear hb9 fM9 hB9 hg9 fP4 fA4 hH4
    go_wp2_with fail
    go_meet
    case rel=>exact ⟨_,A6,c6,rfl,HZ.out.1,HSZ.out▸HZ.out.2.1,by have :=HZ.out.2.2.2;have :=HSZ.out;omega,step_belowN HBW.out.1 HZ.out.2.2.1 HBW.out.1.size⟩
 case rest=>
  obtain ⟨pb,mA,mc,rfl,hP,hM,hpb,hBd⟩:=hcut
  obtain ⟨W5,rfl⟩: ∃W5,W5=wc:=⟨_,rfl⟩
  have hO5:=HE.out.2.1.below hBd HE.out.2.1.lt
  have hR5:=HE.out.2.2.below hBd HE.out.2.2.lt
  have hB5:=step_belowN HE.out.1 hBd HE.out.1.size
  have hlt:ob<pb/\rb<pb:=by have h1:=HE.out.2.1.lt;have h2:=HE.out.2.2.lt;omega
  have hmc:m<=mc/\mc<=maxLen:=by obtain ⟨A',c',e,h1,h2⟩:=own_cap hM;injection e with _ _ e;subst e;exact ⟨h1,h2⟩
  have hS5:Sl W5 mA m (fun _=> .int .u32 0):=by
   obtain ⟨A',c',e,_,hs⟩:=own_sl hM
   injection e with e1 _ e2
   subst e1
   rw [Nat.mul_one]at hs
   exact hs.congr (fun i hi=>by simp [List.getD_eq_getElem?_getD,List.getElem?_replicate,hi])
  have hMp: ∀b off,0<m->mA=some ⟨b,off,none⟩->pb≠b/\rb≠b/\w.heap.size<=b:=fun b off _ e=>⟨fun q=>by
   subst q
   exact row_ne hP hM (by decide) (by rw [e];rfl),by have h1:=(own_in hM b (by rw [e];rfl)).1;have h2:=HE.out.2.2.lt;omega,by have h1:=(own_in hM b (by rw [e];rfl)).1;have h2:=HE.out.1.size;omega⟩
  have HF:=Lib.hid (And.intro hO5 (And.intro hR5 (And.intro hB5 (And.intro hlt (And.intro hmc (And.intro hS5 (And.intro hMp hP)))))))
  clear hP hM hpb hBd hO5 hR5 hB5 hlt hmc hS5 hMp
  go_wp2_with fail
  go_loopw [11,12] (fun v11 v12 wr=> ∃(k:Nat) (v:Value),k<=n/\v12= .int .i64 (k:Int)/\v11= .bool true/\Blk wr pb 29 #[v,.slice mA m mc,.int .i64 room]/\CdRow wr W5.heap.size v ((List.range k).map fun t=>askL (G t) (fun i=>(L.getD t []).getD i 0) (L.getD t []).length)/\W5.grownBy wr (some pb)) (fun v11 v12 _=>n-(intOf v12).toNat)
  case atStart=>exact ⟨0,.slice none 0 0,Nat.zero_le _,rfl,rfl,HF.out.2.2.2.2.2.2.2,CdRow.nil _ _,⟨rfl,rfl,rfl,Nat.le_refl _,fun _ _ _=>rfl⟩⟩
  case round=>
   obtain ⟨wo,rfl⟩: ∃wo:World,wo=wr:=⟨_,rfl⟩
   obtain ⟨k,v,hk,rfl,rfl,hPk,hCk,hgk⟩:=hrel
   have hBw:Below w.heap.size w wo:=HF.out.2.2.1.trans (below_of_grown HF.out.2.2.1.size hgk (fun g e=>by rw [<-Option.some.inj e];have :=HF.out.2.2.2.1.1;have :=HOW.out;omega))
   by_cases hlt:k<n
   case neg=>
    obtain rfl:n=k:=by omega
    have hlt': ¬(n:Int)<(n:Int):=by omega
    have hRk:=HF.out.2.1.grown hgk (fun e=>by have :=Option.some.inj e;have :=HF.out.2.2.2.1.2;omega)
    obtain ⟨vA,vc,hve⟩:=hCk.cap
    rw [List.length_map,List.length_range]at hve
    subst hve
    have HK:=Lib.hid (And.intro hPk (And.intro hCk (And.intro hgk hBw)))
    clear hPk hCk hgk hBw
    go_wp2_with (first|(refine wpList_load_row rfl 29 (.tmp 10) rfl pb rfl 29 #[.slice vA n vc,.slice mA m mc,.int .i64 room] _ _ HK.out.1 Tryz.underlying29 rfl pg_info ?_)|(refine wpList_store_row rfl 29 (.tmp 8) (.tmp 99) rfl rb rfl #[.slice vA n vc,.slice mA m mc,.int .i64 room] rfl 29 #[.slice none 0 0,.slice none 0 0,.int .i64 0] hRk rfl pg_info (by simp [Value.oneCell']) ?_;intro w9 hb9 hg9;have HZ:=Lib.hid (And.intro hb9 (And.intro hg9 hRk));clear hb9 hg9 hRk))
    refine bodyPost_ret (results_row_tmp rfl _ _ _ _ rfl (run_row _ _ _ _ _ _ HZ.out.1 Tryz.underlying29 rfl pg_info)) rfl ?_
    obtain ⟨hPk,hCk,hgk,hBw⟩:=HK.out
    obtain ⟨hb9,hg9,hRk⟩:=HZ.out
    refine ⟨_,mA,mc,W5.heap.size,rfl,HF.out.2.2.2.2.1.1,HF.out.2.2.2.2.1.2,below_row hBw hg9 hBw.size (by have :=HOW.out;omega),hCk.far hRk (by decide) (by decide) hg9,?_,fun b off h0 e=>(HF.out.2.2.2.2.2.2.1 b off h0 e).2.2⟩
    have hS:=HF.out.2.2.2.2.2.1
    have s1:Sl wo mA m (fun _=> .int .u32 0):=hS.grown hgk (fun h0 b off e=>(HF.out.2.2.2.2.2.2.1 b off h0 e).1.symm)
    exact s1.grown hg9 (fun h0 b off e=>(HF.out.2.2.2.2.2.2.1 b off h0 e).2.1.symm)
   case pos=>
    have hlt':(k:Int)<(n:Int):=by omega
    obtain ⟨hr4,hrv⟩:=HMM.out.2.2.2.2.2.2.1 k hlt
    have hSk:=HMM.out.2.2.2.2.2.2.2.1 k hlt
    obtain ⟨nk,hnk⟩: ∃nk,(L.getD k []).length=nk:=⟨_,rfl⟩
    have hck:=HMM.out.2.2.2.2.2.2.2.2.1 k hlt
    rw [hnk]at hr4 hrv hSk hck
    obtain ⟨Bk,hBk⟩: ∃Bk,(F k).1=Bk:=⟨_,rfl⟩
    obtain ⟨ck,hckk⟩: ∃ck,(F k).2=ck:=⟨_,rfl⟩
    rw [hBk]at hSk hck
    rw [hckk]at hck
    have HR:=Lib.hid (And.intro hPk (And.intro hCk (And.intro hgk (And.intro hBw (And.intro hSk (And.intro hck (And.intro hrv (And.intro hnk HMM.out.2.2.2.2.2.2.2.2.2))))))))
    clear hPk hCk hgk hBw hSk hrv hnk hBk hckk
    have z9:=(HR.out.2.2.2.1.cell (p:=⟨ab,ao+k,none⟩) HR.out.2.2.2.2.2.2.2.2).trans HR.out.2.2.2.2.2.1
    clear hck
    go_wp2_with fail
    go_loopw [11,13,14] (fun v11 v13 v14 wq=> ∃(j N c:Nat) (AA:Option Addr),j<=nk/\v14= .int .i64 (j:Int)/\v11= .bool true/\v13= .slice AA N c/\CW wo wq AA N c (askL (G k) (fun i=>(L.getD k []).getD i 0) j)) (fun _ _ v14 _=>nk-(intOf v14).toNat)
    case atStart=>exact ⟨0,0,0,none,Nat.zero_le _,rfl,rfl,rfl,CW.start wo⟩
    case round=>
     obtain ⟨j,N,c,AA,hj,rfl,rfl,rfl,hC⟩:=hrel
     obtain ⟨wq,rfl⟩: ∃wq:World,wq=wr:=⟨_,rfl⟩
     clear z9
     have habo:ab<wo.heap.size:=Nat.lt_of_lt_of_le HR.out.2.2.2.2.2.2.2.2 HR.out.2.2.2.1.size
     have zo:wo.cell? ⟨ab,ao+k,none⟩=some (.slice Bk nk ck):=(HR.out.2.2.2.1.cell (p:=⟨ab,ao+k,none⟩) HR.out.2.2.2.2.2.2.2.2).trans HR.out.2.2.2.2.2.1
     have z0:=(hC.below.cell (p:=⟨ab,ao+k,none⟩) habo).trans zo
     by_cases hjl:j<nk
     case neg=>
      obtain rfl:nk=j:=by omega
      have hjl': ¬(nk:Int)<(nk:Int):=by omega
      have hP5:=HR.out.1.below hC.below HR.out.1.lt
      have hcd:=HR.out.2.1.below hC.below
      obtain ⟨vA,vc,hve⟩:=hcd.cap
      rw [List.length_map,List.length_range]at hve
      subst hve
      have q0:=(hP5.cell 0).trans rfl
      have hb0:W5.heap.size<=wo.heap.size:=HR.out.2.2.1.size
      have HQ:=Lib.hid (And.intro hP5 (grown_below HR.out.2.2.1 hC.below))
      clear hP5 zo
      go_wp2_with (at_builtin;refine CdRow.app hcd (by simp) hC hb0 rfl (.tmp 94) (.tmp 96) rfl rfl rfl (by omega) ?_;intro A' c' w' hcd' hkeep hgr;have hP6:=hkeep pb _ _ HQ.out.1 (by decide);have hg6:=hgr _ _ rfl HQ.out.2;have p0:=(hP6.cell 0).trans rfl;have pf:=hP6.frozen 0;have HQ6:=Lib.hid (And.intro hcd' (And.intro hP6 hg6));clear hcd hC hcd' hkeep hgr hP6 hg6)
      go_roundw
      case rel=>
       obtain ⟨hcd6,hP6,hg6⟩:=HQ6.out
       have hset:w'.grownBy (w'.setCell ⟨pb,0,none⟩ (.slice A' (k+1) c')) (some pb):=set_only _
       refine ⟨k+1,_,by omega,by go_num,rfl,hP6.set_ 0 _,?_,grown_row hg6 hset (fun g e=> .inr e)⟩
       have e:(List.range (k+1)).map (fun t=>askL (G t) (fun i=>(L.getD t []).getD i 0) (L.getD t []).length)=(List.range k).map (fun t=>askL (G t) (fun i=>(L.getD t []).getD i 0) (L.getD t []).length)++[askL (G k) (fun i=>(L.getD k []).getD i 0) nk]:=by
        rw [List.range_succ,List.map_append]
        show _++[askL (G k) (fun i=>(L.getD k []).getD i 0) (L.getD k []).length]=_
        rw [HR.out.2.2.2.2.2.2.2.1]
       rw [e]
       exact hcd6.far hP6 (by decide) (by decide) hset
      case measure=>simp [intOf];omega
     case pos=>
      have hjl':(j:Int)<(nk:Int):=by omega
      have HNL:=Lib.hid hC.n.symm
      have hN9:N<=168:=by
       have h1:=hC.n
       have h2:=askL_le (G:=G k) (ks:=fun i=>(L.getD k []).getD i 0) (HMM.out.2.2.2.1 k) j
       omega
      obtain ⟨rb2,ro,rfl,hrl,hrc⟩:=HR.out.2.2.2.2.1 (by omega)
      obtain ⟨x,hx⟩: ∃x,(L.getD k []).getD j 0=x:=⟨_,rfl⟩
      have hx9:=HR.out.2.2.2.2.2.2.1 j hjl
      have hrc':w.cell? ⟨rb2,ro+j,none⟩=some (.int .i64 ((L.getD k []).getD j 0)):=hrc j hjl
      rw [hx]at hx9 hrc'
      have hrlo:rb2<wo.heap.size:=Nat.lt_of_lt_of_le hrl HR.out.2.2.2.1.size
      have zo1:wo.cell? ⟨rb2,ro+j,none⟩=some (.int .i64 x):=(HR.out.2.2.2.1.cell (p:=⟨rb2,ro+j,none⟩) hrl).trans hrc'
      have ux:IntKind.u32.wrap x=x:=IntWalk.u32_in _ (by omega)
      have ux2:IntKind.u32.wrap (2*x)=2*x:=IntWalk.u32_in _ (by omega)
      have ux3:IntKind.u32.wrap (2*x+1)=2*x+1:=IntWalk.u32_in _ (by omega)
      have HZO:=Lib.hid (And.intro habo (And.intro zo (And.intro hrlo zo1)))
      go_upto_region 10 with fail
      clear habo zo z0 hrl hrc hrc' hrlo zo1
      have hC0:=hC.step (below_drewB wq)
      have hOq:=((HF.out.1.grown HR.out.2.2.1 (fun e=>by have :=Option.some.inj e;have :=HF.out.2.2.2.1.1;omega)).below hC.below (HF.out.1.grown HR.out.2.2.1 (fun e=>by have :=Option.some.inj e;have :=HF.out.2.2.2.1.1;omega)).lt).drew
      have hTq:Tab wq.drew/\ONam wq.drew:=⟨(HTO.out.1.step HR.out.2.2.2.1).step hC0.below,(HTO.out.2.step HR.out.2.2.2.1).step hC0.below⟩
      have HXO:=Lib.hid (And.intro hOq (And.intro (Nat.lt_of_lt_of_le HZO.out.1 hC0.below.size) (And.intro ((hC0.below.cell (p:=⟨ab,ao+k,none⟩) HZO.out.1).trans HZO.out.2.1) (And.intro (Nat.lt_of_lt_of_le HZO.out.2.2.1 hC0.below.size) ((hC0.below.cell (p:=⟨rb2,ro+j,none⟩) HZO.out.2.2.1).trans HZO.out.2.2.2)))))
      have cG:=HMM.out.2.2.2.2.2.1 k j hlt (by rw [HR.out.2.2.2.2.2.2.2.1];exact hjl) wq.drew hTq.1 hTq.2
      rw [hx]at cG
      have HTQ:=Lib.hid hTq
      clear hC hOq hTq
      refine startG (fun W'=>Below wq.drew.heap.size wq.drew W') 17 (by kernel_rfl) ?_
      have hH:Below wq.drew.heap.size wq.drew wq.drew:=Below.refl _ _
      generalize wq.drew=V0 at hC0 HXO cG HTQ hH⊢
      refine takeB (i:=0) (v:= .agg #[.int .i64 ok,.int .i64 on,.int .i64 0,.int .i64 0]) rfl (yields_row (by rfl) 46 (.tmp 4) rfl ob rfl #[.int .i64 ok,.int .i64 on,.int .i64 0,.int .i64 0] (fun _ hS=>run_row _ _ _ _ _ _ (HXO.out.1.below hS HXO.out.1.lt) Tryz.underlying46 rfl obj_info4)) hH ?_
      simp only [Act.put,zA,zB,zC,zD,zE,zF]
      refine takeA (i:=1) (v:= .slice (some ⟨ab,ao,none⟩) n cap) rfl hH ?_
      simp only [Act.put,zA,zB,zC,zD,zE,zF]
      refine takeA (i:=2) (v:= .int .i64 (k:Int)) rfl hH ?_
      simp only [Act.put,zA,zB,zC,zD,zE,zF]
      refine takeA (i:=3) (v:= .pointer (some ⟨ab,ao+k,none⟩)) rfl hH ?_
      simp only [Act.put,zA,zB,zC,zD,zE,zF]
      refine takeB (i:=4) (v:= .slice (some ⟨rb2,ro,none⟩) nk ck) rfl (Or.inl ⟨by rfl,fun W hW=>by have q0:=(hW.cell (p:=⟨ab,ao+k,none⟩) HXO.out.2.1).trans HXO.out.2.2.1;go_simp⟩) hH ?_
      simp only [Act.put,zA,zB,zC,zD,zE,zF]
      refine takeA (i:=5) (v:= .int .i64 (j:Int)) rfl hH ?_
      simp only [Act.put,zA,zB,zC,zD,zE,zF]
      refine takeA (i:=6) (v:= .pointer (some ⟨rb2,ro+j,none⟩)) rfl hH ?_
      simp only [Act.put,zA,zB,zC,zD,zE,zF]
      refine takeB (i:=7) (v:= .int .i64 x) rfl (Or.inl ⟨by rfl,fun W hW=>by have q0:=(hW.cell (p:=⟨rb2,ro+j,none⟩) HXO.out.2.2.2.1).trans HXO.out.2.2.2.2;go_simp⟩) hH ?_
      simp only [Act.put,zA,zB,zC,zD,zE,zF]
      refine takeA (i:=8) (v:= .slice (some ⟨ab,ao,none⟩) n cap) rfl hH ?_
      simp only [Act.put,zA,zB,zC,zD,zE,zF]
      refine takeA (i:=9) (v:= .int .i64 (n:Int)) rfl hH ?_
      simp only [Act.put,zA,zB,zC,zD,zE,zF]
      refine takeA (i:=10) (v:= .int .i64 (k:Int)) rfl hH ?_
      simp only [Act.put,zA,zB,zC,zD,zE,zF]
      refine takeA (i:=11) (v:= .int .u32 arg) rfl hH ?_
      simp only [Act.put,zA,zB,zC,zD,zE,zF]
      refine onlyG (i:=12) (by kernel_rfl) rfl (fun K hK=>?_)
      go_simp
      with_reducible refine cG.mono ?_
      rintro e Wg ⟨⟨vg,rfl,hOg⟩,hH1⟩
      refine hK.out _ _ hH1 (fun _=>?_)
      clear hK K cG hH
      try simp only [Act.put,zA,zB,zC,zD,zE,zF]
      refine takeA (i:=13) (v:= .tuple #[vg,.bool true]) rfl hH1 ?_
      simp only [Act.put,zA,zB,zC,zD,zE,zF]
      refine takeA (i:=14) (v:=vg) rfl hH1 ?_
      simp only [Act.put,zA,zB,zC,zD,zE,zF]
      refine takeA (i:=16) (v:=vg) rfl hH1 ?_
      simp only [Act.put,zA,zB,zC,zD,zE,zF]
      refine takeA (i:=15) (v:= .bool true) rfl hH1 ?_
      simp only [Act.put,zA,zB,zC,zD,zE,zF]
      refine lastG (by kernel_rfl) rfl (by kernel_rfl) (fun K hK=>?_)
      go_simp
      refine hK.out _ _ ?_
      clear hK K
      try simp only [Act.put,zA,zB,zC,zD,zE,zF]
      have hC1:=hC0.step hH1
      obtain ⟨og,cap5,cs5,rfl,hog,_,hcap5,hcm5,hge5,hins5⟩:=hOg
      obtain ⟨CG,hCG⟩: ∃CG,G k j=CG:=⟨_,rfl⟩
      have hokG:=HMM.out.2.2.2.2.1 k j hlt (by rw [HR.out.2.2.2.2.2.2.2.1];exact hjl)
      have hlG:=HMM.out.2.2.2.1 k j
      rw [hCG]at hcap5 hins5 hokG hlG
      try rw [hCG]
      obtain ⟨mg,hmg⟩: ∃mg,CG.length=mg:=⟨_,rfl⟩
      rw [hmg]at hcap5 hlG
      try rw [hmg]
      have hrowg:some og≠(Value.slice AA N c).ownBlock:=fun e=>by have :=(own_in hC0.own og e.symm).2;omega
      have z0:=(hC1.below.cell (p:=⟨ab,ao+k,none⟩) HZO.out.1).trans HZO.out.2.1
      have z1:=(hC1.below.cell (p:=⟨rb2,ro+j,none⟩) HZO.out.2.2.1).trans HZO.out.2.2.2
      have HG:=Lib.hid (And.intro hrowg (And.intro hog (And.intro hins5 (And.intro hokG (And.intro hmg (And.intro hCG (And.intro hcap5 (And.intro hcm5 (HTQ.out.1.step hH1)))))))))
      clear hrowg hog hins5 hokG hmg hCG hcap5 hcm5 hge5 hC0 hH1
      go_wp2_with (at_builtin;refine hC1.app1K ⟨27,7,0,0,2*x⟩ (N+1) rfl rfl (.tmp 60) (.tmp 71) rfl rfl rfl (by omega) ?_;intro A1 c1 W1 hC hkp;have HKP:=Lib.hid (And.intro (hkp og _ _ HG.out.2.1 HG.out.1) hC.below);clear hC1 hkp z0 z1)
      have hsle:=sle_ins HKP.out.1 (HG.out.2.2.1)
      rw [HG.out.2.2.2.2.1]at hsle
      have hCI:CodeIn W1 (.slice (some ⟨og,0,none⟩) mg cap5) CG mg:=⟨⟨og,cap5,rfl,HKP.out.1.lt,HG.out.2.2.2.2.2.2.1,HG.out.2.2.2.2.2.2.2.1,hsle⟩,HG.out.2.2.2.2.1⟩
      have cM:=hCI.moved HG.out.2.2.2.1 (by omega) ((N:Int)+1) (by omega) (by omega) ((HTO.out.1.step HR.out.2.2.2.1).step hC.below)
      clear hCI hsle
      go_wp2_with fail
      with_reducible refine cM.mono ?_
      rintro e W2 ⟨cs2,rfl,hb2,hin2,hB2⟩
      have hC2:=hC.step hB2
      clear cM hC hB2
      obtain ⟨g2,hg2⟩: ∃g2,W1.heap.size=g2:=⟨_,rfl⟩
      rw [hg2]at hb2
      try rw [hg2]
      clear hg2
      have HLG:=Lib.hid HG.out.2.2.2.2.1
      go_wp2_with (first|(at_builtin;refine hC2.appM hb2 hin2 (CG.map (movedI ((N:Int)+1))) (map_range HLG.out _) (N+1+mg) rfl rfl (.tmp 73) (.tmp 77) rfl rfl rfl (by omega) ?_;clear hC2 hb2 hin2;intro A3 c3 W3 hC;have z0:=(hC.below.cell (p:=⟨ab,ao+k,none⟩) HZO.out.1).trans HZO.out.2.1;have z1:=(hC.below.cell (p:=⟨rb2,ro+j,none⟩) HZO.out.2.2.1).trans HZO.out.2.2.2)|(at_builtin;refine hC.app1 ⟨27,7,0,0,2*x+1⟩ (N+1+mg+1) rfl rfl (.tmp 79) (.tmp 91) rfl rfl rfl (by omega) ?_;clear hC z0 z1;intro A4 c4 W4 hC))
      go_roundw
      case rel=>
       refine ⟨j+1,N+1+mg+1,c4,A4,by omega,by go_num,rfl,rfl,?_⟩
       have e:askL (G k) (fun i=>(L.getD k []).getD i 0) (j+1)=askL (G k) (fun i=>(L.getD k []).getD i 0) j++[(⟨27,7,0,0,2*x⟩:Ins)]++CG.map (movedI ((N:Int)+1))++[⟨27,7,0,0,2*x+1⟩]:=by
        rw [askL_succ]
        rw [hx,HG.out.2.2.2.2.2.1,HNL.out]
       rw [e]
       exact hC
      case measure=>simp [intOf];omega
end Go.Proofs.YtmhfpjnkjlhbpaaGreatDoor
