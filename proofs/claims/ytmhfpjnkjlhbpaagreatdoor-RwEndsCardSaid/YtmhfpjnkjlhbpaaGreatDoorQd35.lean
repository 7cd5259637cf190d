/- rw: law22's programs, by contract. -/
import Derived.Test.YtmhfpjnkjlhbpaaGreatDoorQd34
namespace Go.Proofs.YtmhfpjnkjlhbpaaGreatDoor
open Go.ChangeShapes Go.WideShapes Go.ChangeAt Go.RowKit Go.Deep
set_option linter.unusedVariables false
set_option maxRecDepth 100000
set_option linter.unusedSimpArgs false
open List renaming getElem_toArray->zA,getElem_cons_zero->zB,getElem_cons_succ->zC,setIfInBounds_toArray->zD,set_cons_zero->zE,set_cons_succ->zF
theorem blk_apartU {w:World} {g g':Nat} {t t':TypeId} {cs cs':Array Value} (h:Blk w g t cs) (h':Blk w g' t' cs') (hne:t≠t'):g≠g':=fun e=>by
 subst e
 have q:=h.symm.trans h'
 injection q with q
 injection q with q1 q2
 exact hne q2
def intAtU (wr:World):Value->Nat
 | .pointer (some p)=>match wr.cell? p with|some v=>(intOf v).toNat|none=>0
 |_=>0
theorem intAtU_of {w:World} {b:Nat} {k:Nat} (h:Blk w b 3 #[.int .i64 (k:Int)]):intAtU w (.pointer (some ⟨b,0,none⟩))=k:=by
 show (match w.cell? ⟨b,0,none⟩with|some v=>(intOf v).toNat|none=>0)=k
 rw [show w.cell? ⟨b,0,none⟩=some (.int .i64 (k:Int)) from (h.cell 0).trans rfl]
 exact Int.toNat_natCast k
theorem results_row2 {P:Program} {fn:Func} {p q q':Tmp} {ty:TypeId} (h:fn.results= #[.cell p ty,.tmp q,.tmp q']) (tmps:Array Value) (w:World) (g:Nat) (v:Value)
 (hp:tmps.getD p undef= .pointer (some ⟨g,0,none⟩)) (hr:(loadVar ty ⟨g,0,none⟩).run P w= .ok v w):
 (results fn tmps).run P w= .ok (.tuple #[v,tmps.getD q undef,tmps.getD q' undef]) w:=by
 have hp':tmps[p]?.getD undef= .pointer (some ⟨g,0,none⟩):=by simpa using hp
 simp [results,h,hp',asAddr,hr]
theorem ins_infoU:(Tryz.prog.info? 75).map (·.size)=some 5:=by kernel_rfl
theorem makeU (m:Nat) (hm:m<=30) (w:World):(Instr.makeSlice 27 (.int .i64 (m:Int)) (.int .i64 (m:Int))).run Tryz.prog w= .ok (.slice (some ⟨w.heap.size,0,none⟩) m m) (w.alloc (.cells ((List.replicate m (Value.int .u32 0)).toArray) 42)):=makeW m (by omega) w
theorem ruWri_any (k:Nat) (hk:k<4) (th:Nat) (hth:1<=th/\th<=4) (hkt:k<th) (W0 W:World) (okb tb kb:Nat) (A:Option Addr) (N c:Nat) (L:List Ins) (h:AXL W0 W okb (.slice A N c) A N c L) (hN:N<=1000) (h3k:3<=okb) (hO0:ONam W0)
 (ht:Blk W0 tb 3 #[.int .i64 (th:Int)]) (hkb:Blk W0 kb 3 #[.int .i64 (k:Int)]) (d2:tb≠okb) (d3:kb≠okb):
 Calls Tryz.prog 64 #[.int .i64 0,.int .i64 1,.pointer (some ⟨tb,0,none⟩),.pointer (some ⟨kb,0,none⟩),.pointer (some ⟨okb,0,none⟩),.pointer (some ⟨W0.heap.size,0,none⟩)] W fun e W'=>
  (∃u,e= .returned u)/\ ∃A' M c',M=N+(13+2)/\AXL W0 W' okb (.slice A' M c') A' M c' (L++callR 0 L.length (wriO k)):=by
 have hn:=h.n
 have K:=rwAdd_any 0 (by decide) 1 (wriO k) 13 (th:Int) (k:Int) (wri_ok k (by omega)).1 (wri_ok k (by omega)).2 (by decide) (fun W hT hO=>code_rwrite (th:Int) 16 (k:Int) 0 (by omega) (by omega) (by decide) W hT hO) W0 W okb tb kb A N c L h hN h3k hO0 ht hkb d2 d3
 refine K.mono ?_
 rintro e W' ⟨h1,A',M,c',hM,h2⟩
 exact ⟨h1,A',M,c',hM,by unfold callR;rw [<-hn];exact h2⟩
theorem ruRer_any (k:Nat) (hk:k<4) (th:Nat) (hth:1<=th/\th<=4) (hkt:k<th) (W0 W:World) (okb tb kb:Nat) (A:Option Addr) (N c:Nat) (L:List Ins) (h:AXL W0 W okb (.slice A N c) A N c L) (hN:N<=1000) (h3k:3<=okb) (hO0:ONam W0)
 (ht:Blk W0 tb 3 #[.int .i64 (th:Int)]) (hkb:Blk W0 kb 3 #[.int .i64 (k:Int)]) (d2:tb≠okb) (d3:kb≠okb):
 Calls Tryz.prog 64 #[.int .i64 1,.int .i64 2,.pointer (some ⟨tb,0,none⟩),.pointer (some ⟨kb,0,none⟩),.pointer (some ⟨okb,0,none⟩),.pointer (some ⟨W0.heap.size,0,none⟩)] W fun e W'=>
  (∃u,e= .returned u)/\ ∃A' M c',M=N+(20+2)/\AXL W0 W' okb (.slice A' M c') A' M c' (L++callR 1 L.length (rerO k)):=by
 have hn:=h.n
 have K:=rwAdd_any 1 (by decide) 2 (rerO k) 20 (th:Int) (k:Int) (rer_ok k (by omega)).1 (rer_ok k (by omega)).2 (by decide) (fun W hT hO=>code_rrel (th:Int) 16 (k:Int) 0 (by omega) (by omega) (by decide) W hT hO) W0 W okb tb kb A N c L h hN h3k hO0 ht hkb d2 d3
 refine K.mono ?_
 rintro e W' ⟨h1,A',M,c',hM,h2⟩
 exact ⟨h1,A',M,c',hM,by unfold callR;rw [<-hn];exact h2⟩
theorem ruRea_any (k:Nat) (hk:k<4) (th:Nat) (hth:1<=th/\th<=4) (hkt:k<th) (W0 W:World) (okb tb kb:Nat) (A:Option Addr) (N c:Nat) (L:List Ins) (h:AXL W0 W okb (.slice A N c) A N c L) (hN:N<=1000) (h3k:3<=okb) (hO0:ONam W0)
 (ht:Blk W0 tb 3 #[.int .i64 (th:Int)]) (hkb:Blk W0 kb 3 #[.int .i64 (k:Int)]) (d2:tb≠okb) (d3:kb≠okb):
 Calls Tryz.prog 64 #[.int .i64 2,.int .i64 3,.pointer (some ⟨tb,0,none⟩),.pointer (some ⟨kb,0,none⟩),.pointer (some ⟨okb,0,none⟩),.pointer (some ⟨W0.heap.size,0,none⟩)] W fun e W'=>
  (∃u,e= .returned u)/\ ∃A' M c',M=N+(20+2)/\AXL W0 W' okb (.slice A' M c') A' M c' (L++callR 2 L.length (reaO k)):=by
 have hn:=h.n
 have K:=rwAdd_any 2 (by decide) 3 (reaO k) 20 (th:Int) (k:Int) (rea_ok k (by omega)).1 (rea_ok k (by omega)).2 (by decide) (fun W hT hO=>code_rread (th:Int) 16 (k:Int) 0 (by omega) (by omega) (by decide) W hT hO) W0 W okb tb kb A N c L h hN h3k hO0 ht hkb d2 d3
 refine K.mono ?_
 rintro e W' ⟨h1,A',M,c',hM,h2⟩
 exact ⟨h1,A',M,c',hM,by unfold callR;rw [<-hn];exact h2⟩
def ruTh (wn:Nat):Nat:=max (min wn 4) 1
def ruRd (wn:Nat) (rl:Nat->Nat) (t:Nat):Nat:=if t<wn then min (rl t) 4 else 0
def RuMade (w:World) (th:Nat) (kd:Nat->Nat->Bool) (rd:Nat->Nat) (rm:Nat) (ed:Ending) (w':World):Prop:= ∃(v:Value) (mb base:Nat),ed= .returned (.tuple #[.agg #[v,.slice (some ⟨mb,0,none⟩) (17+th) (17+th),.int .i64 (rm:Int)],.int .i64 ((sumT th fun t=>wrs (kd t) (rd t):Nat):Int),.bool true])/\Below w.heap.size w w'/\
 CdRow w' base v ((List.range th).map fun t=>rwT t (kd t) (rd t))/\Sl w' (some ⟨mb,0,none⟩) (17+th) (fun _=> .int .u32 0)
set_option maxHeartbeats 40000000 in
theorem ruMk_any (wA:Option Addr) (wn wc:Nat) (rA:Nat->Option Addr) (rl rc:Nat->Nat) (kd:Nat->Nat->Bool) (e:Nat) (he:e<=255) (hwc:wn<=wc/\wc<=maxLen) (hrc: ∀t,t<wn->rl t<=rc t/\rc t<=maxLen) (w:World) (hT:Tab w) (hO:ONam w) (hw:Sl w wA wn (fun t=> .slice (rA t) (rl t) (rc t))) (hr: ∀t,t<wn->Sl w (rA t) (rl t) (fun i=> .bool (kd t i))):
 Calls Tryz.prog 29 #[.agg #[.slice wA wn wc,.int .u8 (e:Int)]] w (RuMade w (ruTh wn) kd (ruRd wn rl) (1+e % 4)):=by
 obtain ⟨rm,hrm⟩: ∃N,1+e % 4=N:=⟨_,rfl⟩
 obtain ⟨th,hth⟩: ∃N,ruTh wn=N:=⟨_,rfl⟩
 have trm:Int.tmod (e:Int) 4=((rm:Int)-1):=by rw [Int.tmod_eq_emod_of_nonneg (by omega)];omega
 have urm:IntKind.i64.wrap (1+((rm:Int)-1))=(rm:Int):=by rw [show 1+((rm:Int)-1)=(rm:Int) by omega];exact IntWalk.i64_in _ (by omega)
 have srm:IntKind.i64.wrap ((rm:Int)-1)=(rm:Int)-1:=IntWalk.i64_in _ (by omega)
 have rrm:IntKind.i64.wrap (e:Int)=(e:Int):=IntWalk.i64_in _ (by omega)
 rw [hrm,hth]
 have bth:1<=th/\th<=4:=by rw [<-hth];unfold ruTh;omega
 have brm:1<=rm/\rm<=4:=by omega
 have HTH:=Lib.hid hth
 have HIN:=Lib.hid (And.intro hw (And.intro hr (And.intro hO (And.intro hwc hrc))))
 clear hrm hth hw hr hO hwc hrc
 have hB0:=(Below.refl w.heap.size w).alloc (Nat.le_refl _) (.cells #[.slice wA wn wc,.int .u8 (e:Int)] 61)
 have hX0:=Blk.new w 61 #[.slice wA wn wc,.int .u8 (e:Int)]
 generalize hW1:w.alloc (.cells #[.slice wA wn wc,.int .u8 (e:Int)] 61)=W1 at hB0 hX0
 have hB1:=hB0.alloc (by have :=hB0.size;omega) (.cells #[.slice none 0 0,.slice none 0 0,.int .i64 0] 29)
 have hX1:=hX0.alloc (.cells #[.slice none 0 0,.slice none 0 0,.int .i64 0] 29)
 have hR1:=Blk.new W1 29 #[.slice none 0 0,.slice none 0 0,.int .i64 0]
 generalize hW2:W1.alloc (.cells #[.slice none 0 0,.slice none 0 0,.int .i64 0] 29)=W2 at hB1 hX1 hR1
 have x0:=(hX1.cell 0).trans rfl
 go_enter Tryz.func29,Tryz.ntmps29
 go_upto_region 1 with fail
 try rw [hW1]
 try rw [hW2]
 obtain ⟨cb,hcb⟩: ∃x,w.heap.size=x:=⟨_,rfl⟩
 obtain ⟨rb,hrb⟩: ∃x,W1.heap.size=x:=⟨_,rfl⟩
 have hord:cb<rb/\rb<W2.heap.size:=by have h1:=hX0.lt;have h2:=hR1.lt;omega
 rw [hcb]at hX1 hB1
 rw [hrb]at hR1
 try rw [hcb]
 try rw [hrb]
 rw [hcb]at x0
 have HC:=Lib.hid hcb
 clear hX0 hB0 hcb hrb hW1 hW2
 go_cut [5] (fun v5 wx=>v5= .pointer (some ⟨W2.heap.size,0,none⟩)/\wx=W2.alloc (.cells #[.int .i64 (th:Int)] 3))
 case first=>
  by_cases h4:4<wn
  case pos=>
   have e4:(4:Int)<(wn:Int):=by omega
   have eth:th=4:=by have :=HTH.out;unfold ruTh at this;omega
   subst eth
   go_wp2_with fail
   all_goals go_meet
   all_goals exact ⟨rfl,rfl⟩
  case neg=>
   have e4: ¬(4:Int)<(wn:Int):=by omega
   by_cases h0:wn<1
   case pos=>
    have e0:wn=0:=by omega
    have eth:th=1:=by have :=HTH.out;unfold ruTh at this;omega
    subst eth e0
    go_wp2_with fail
    all_goals go_meet
    all_goals exact ⟨rfl,rfl⟩
   case neg=>
    have e0: ¬(wn:Int)<1:=by omega
    have e0':(1:Int)<=(wn:Int):=by omega
    have eth:th=wn:=by have :=HTH.out;unfold ruTh at this;omega
    subst eth
    go_wp2_with fail
    all_goals go_goals
    all_goals go_meet
    all_goals exact ⟨rfl,rfl⟩
 case rest=>
  obtain ⟨rfl,rfl⟩:=hcut
  have hTb:=Blk.new W2 3 #[.int .i64 (th:Int)]
  have hX4:=hX1.alloc (.cells #[.int .i64 (th:Int)] 3)
  have hR4:=hR1.alloc (.cells #[.int .i64 (th:Int)] 3)
  have hB4:=hB1.alloc (by have :=hB1.size;have :=hX1.lt;omega) (.cells #[.int .i64 (th:Int)] 3)
  have hlt4:=hR1.lt
  obtain ⟨tb,htb⟩: ∃x,W2.heap.size=x:=⟨_,rfl⟩
  rw [htb]at hTb hlt4 hord
  try rw [htb]
  clear htb hX1 hR1 hB1 x0
  generalize W2.alloc (.cells #[.int .i64 (th:Int)] 3)=W5 at hX4 hR4 hB4 hTb⊢
  obtain ⟨m,hm⟩: ∃m,17+th=m:=⟨_,rfl⟩
  have uM:IntKind.i64.wrap (17+(th:Int))=(m:Int):=by rw [show (17:Int)+(th:Int)=(m:Int) by omega];exact IntWalk.i64_in _ (by omega)
  obtain ⟨mz,hmz⟩: ∃mz,(List.replicate m (Value.int .u32 0)).toArray=mz:=⟨_,rfl⟩
  have HMZ:=Lib.hid (And.intro hm (And.intro hmz (show∀w:World,(Instr.makeSlice 27 (.int .i64 (m:Int)) (.int .i64 (m:Int))).run Tryz.prog w= .ok (.slice (some ⟨w.heap.size,0,none⟩) m m) (w.alloc (.cells mz 42)) from fun w=>by rw [<-hmz];exact makeU m (by omega) w)))
  clear hmz hm
  go_upto_region 2 with fail
  go_cut [6] (fun v6 wx=> ∃pb mb,v6= .pointer (some ⟨pb,0,none⟩)/\Blk wx pb 29 #[.slice none 0 0,.slice (some ⟨mb,0,none⟩) m m,.int .i64 (rm:Int)]/\Blk wx mb 42 mz/\W5.heap.size<=pb/\W5.heap.size<=mb/\mb≠pb/\Below W5.heap.size W5 wx)
  case first=>
   have hmk:=HMZ.out.2.2
   refine startG (fun W'=>Below W5.drew.heap.size W5.drew W') 10 (by kernel_rfl) ?_
   have HX:=Lib.hid (And.intro hX4.drew hTb.drew)
   have HSZ:=Lib.hid (And.intro (show W5.drew.heap.size=W5.heap.size from rfl) (below_drewB W5))
   have hH:Below W5.drew.heap.size W5.drew W5.drew:=Below.refl _ _
   generalize W5.drew=W0 at HX HSZ hH⊢
   refine takeA (i:=0) (v:= .pointer (some ⟨cb,1,none⟩)) rfl hH ?_
   simp only [Act.put,zA,zB,zC,zD,zE,zF]
   refine takeB (i:=1) (v:= .int .u8 (e:Int)) rfl (Or.inl ⟨by rfl,fun W hW=>by have q0:=((HX.out.1.below hW HX.out.1.lt).cell 1).trans rfl;go_simp⟩) hH ?_
   simp only [Act.put,zA,zB,zC,zD,zE,zF]
   refine takeA (i:=2) (v:= .int .i64 (e:Int)) rfl hH ?_
   simp only [Act.put,zA,zB,zC,zD,zE,zF]
   refine takeA (i:=3) (v:= .int .i64 ((rm:Int)-1)) rfl hH ?_
   simp only [Act.put,zA,zB,zC,zD,zE,zF]
   refine takeA (i:=4) (v:= .int .i64 (rm:Int)) rfl hH ?_
   simp only [Act.put,zA,zB,zC,zD,zE,zF]
   refine takeB (i:=5) (v:= .int .i64 (th:Int)) rfl (Or.inl ⟨by rfl,fun W hW=>by have q0:=((HX.out.2.below hW HX.out.2.lt).cell 0).trans rfl;go_simp⟩) hH ?_
   simp only [Act.put,zA,zB,zC,zD,zE,zF]
   refine takeA (i:=6) (v:= .int .i64 (m:Int)) rfl hH ?_
   simp only [Act.put,zA,zB,zC,zD,zE,zF]
   refine manyG (rs:=[7,9]) (by kernel_rfl) (by simp) (AllG.cons (i:=7) rfl (fun K hK=>?_) (AllG.cons (i:=9) rfl (fun K hK=>?_) AllG.nil))
   ·go_simp
    have m0:=Blk.new W0 42 mz
    have hA:=hH.alloc hH.size (Obj.cells mz 42)
    refine hK.out _ _ hA (fun _=>?_)
    clear hK K
    try simp only [Act.put,zA,zB,zC,zD,zE,zF]
    refine takeA (i:=8) (v:= .agg #[.slice none 0 0,.slice (some ⟨W0.heap.size,0,none⟩) m m,.int .i64 (rm:Int)]) rfl hA ?_
    simp only [Act.put,zA,zB,zC,zD,zE,zF]
    refine onlyG (i:=9) (by kernel_rfl) rfl (fun K hK=>?_)
    go_simp
    have p0:=Blk.new (W0.alloc (Obj.cells mz 42)) 29 #[.slice none 0 0,.slice none 0 0,.int .i64 0]
    have hA1:=hA.alloc hA.size (Obj.cells #[.slice none 0 0,.slice none 0 0,.int .i64 0] 29)
    have m1:=m0.alloc (Obj.cells #[.slice none 0 0,.slice none 0 0,.int .i64 0] 29)
    have hz:(W0.alloc (Obj.cells mz 42)).heap.size=W0.heap.size+1:=by simp
    rw [hz]at p0
    refine hK.out _ _ hA1 (fun _=>?_)
    clear hK K
    try simp only [Act.put,zA,zB,zC,zD,zE,zF]
    refine lastG (by kernel_rfl) rfl (by kernel_rfl) (fun K hK=>?_)
    refine step_store_row rfl 29 (.tmp 6) (.tmp 27) rfl _ rfl #[.slice none 0 0,.slice (some ⟨W0.heap.size,0,none⟩) m m,.int .i64 (rm:Int)] rfl 29 #[.slice none 0 0,.slice none 0 0,.int .i64 0] p0 rfl pg_info (by simp [Value.oneCell']) ?_
    intro W3 hb3 hg3
    refine hK.out _ _ ?_
    clear hK K
    have hm3:=m1.grown hg3 (fun e=>by have :=Option.some.inj e;omega)
    have hB3:=below_row hA1 hg3 hA1.size (by omega)
    go_wp2_with fail
    go_meet
    have hsz:=HSZ.out.1
    have h3z:=hm3.lt
    case rel=>exact ⟨_,_,rfl,hb3,hm3,by omega,by omega,by omega,step_belowN HSZ.out.2 hB3 HSZ.out.2.size⟩
   ·go_simp
    have p0:=Blk.new W0 29 #[.slice none 0 0,.slice none 0 0,.int .i64 0]
    have hA:=hH.alloc hH.size (Obj.cells #[.slice none 0 0,.slice none 0 0,.int .i64 0] 29)
    refine hK.out _ _ hA (fun _=>?_)
    clear hK K
    try simp only [Act.put,zA,zB,zC,zD,zE,zF]
    refine onlyG (i:=7) (by kernel_rfl) rfl (fun K hK=>?_)
    go_simp
    have m0:=Blk.new (W0.alloc (Obj.cells #[.slice none 0 0,.slice none 0 0,.int .i64 0] 29)) 42 mz
    have hA1:=hA.alloc hA.size (Obj.cells mz 42)
    have p1:=p0.alloc (Obj.cells mz 42)
    have hz:(W0.alloc (Obj.cells #[.slice none 0 0,.slice none 0 0,.int .i64 0] 29)).heap.size=W0.heap.size+1:=by simp
    rw [hz]at m0
    refine hK.out _ _ hA1 (fun _=>?_)
    clear hK K
    try simp only [Act.put,zA,zB,zC,zD,zE,zF]
    refine takeA (i:=8) (v:= .agg #[.slice none 0 0,.slice (some ⟨W0.heap.size+1,0,none⟩) m m,.int .i64 (rm:Int)]) rfl hA1 ?_
    simp only [Act.put,zA,zB,zC,zD,zE,zF]
    refine lastG (by kernel_rfl) rfl (by kernel_rfl) (fun K hK=>?_)
    refine step_store_row rfl 29 (.tmp 6) (.tmp 27) rfl _ rfl #[.slice none 0 0,.slice (some ⟨W0.heap.size+1,0,none⟩) m m,.int .i64 (rm:Int)] rfl 29 #[.slice none 0 0,.slice none 0 0,.int .i64 0] p1 rfl pg_info (by simp [Value.oneCell']) ?_
    intro W3 hb3 hg3
    refine hK.out _ _ ?_
    clear hK K
    have hm3:=m0.grown hg3 (fun e=>by have :=Option.some.inj e;omega)
    have hB3:=below_row hA1 hg3 hA1.size (by omega)
    go_wp2_with fail
    go_meet
    have hsz:=HSZ.out.1
    have h3z:=hm3.lt
    case rel=>exact ⟨_,_,rfl,hb3,hm3,by omega,by omega,by omega,step_belowN HSZ.out.2 hB3 HSZ.out.2.size⟩
  case rest=>
   obtain ⟨pb,mb,rfl,hP,hM,hpb,hmb,hne,hBd⟩:=hcut
   have hX6:=hX4.below hBd hX4.lt
   have hR6:=hR4.below hBd hR4.lt
   have hTb6:=hTb.below hBd hTb.lt
   have hB6:=step_belowN hB4 hBd (by have :=hB4.size;have :=hX4.lt;omega)
   have hor:cb<pb/\rb<pb/\tb<pb:=by have h1:=hX4.lt;have h2:=hR4.lt;have h4:=hTb.lt;omega
   obtain ⟨W6,rfl⟩: ∃W6,W6=wc:=⟨_,rfl⟩
   clear hX4 hR4 hTb hB4 hpb hmb hBd
   clear trm urm srm rrm uM
   have hOk:=Blk.new W6 4 #[.bool true]
   have a0:=hR6.alloc (.cells #[.bool true] 4)
   have a1:=hX6.alloc (.cells #[.bool true] 4)
   have a2:=hTb6.alloc (.cells #[.bool true] 4)
   have a3:=hP.alloc (.cells #[.bool true] 4)
   have a4:=hM.alloc (.cells #[.bool true] 4)
   have a5:=hB6.alloc (by have :=hB6.size;have :=hX6.lt;omega) (.cells #[.bool true] 4)
   have hor2:cb<W6.heap.size/\pb<W6.heap.size/\mb<W6.heap.size/\tb<W6.heap.size/\3<=W6.heap.size:=by have h1:=hX6.lt;have h2:=hP.lt;have h3:=hM.lt;have h4:=hTb6.lt;have h5:=HIN.out.2.2.1.1;have h6:=HC.out;omega
   go_upto_region 5 with fail
   obtain ⟨okb,hokb⟩: ∃x,W6.heap.size=x:=⟨_,rfl⟩
   rw [hokb]at hOk hor2
   try rw [hokb]
   clear hX6 hR6 hTb6 hP hM hB6 hokb
   generalize W6.alloc (.cells #[.bool true] 4)=W7 at hOk a0 a1 a2 a3 a4 a5⊢
   have hTW:Tab W7:=by have h1:=HC.out;exact hT.step (by rw [h1];exact a5)
   have hOW:ONam W7:=by have h1:=HC.out;exact HIN.out.2.2.1.step (by rw [h1];exact a5)
   have HF:=Lib.hid (And.intro a0 (And.intro a1 (And.intro a2 (And.intro a3 (And.intro a4 (And.intro a5 (And.intro hOk (And.intro hTW (And.intro hor (And.intro hor2 (And.intro hne hOW)))))))))))
   have hk0:=Blk.new W7 3 #[.int .i64 (0:Int)]
   have hP0:=a3.alloc (.cells #[.int .i64 (0:Int)] 3)
   have HK0:=Lib.hid (And.intro hk0 hP0)
   clear a0 a1 a2 a3 a4 a5 hOk hTW hor hor2 hne hk0 hP0 hOW
   go_wp2_with fail
   go_loopw [8,9] (fun v8 v9 wr=> ∃(k kb:Nat) (v:Value),k<=th/\v9= .pointer (some ⟨kb,0,none⟩)/\v8= .int .i64 ((sumT k fun t=>wrs (kd t) (ruRd wn rl t):Nat):Int)/\Blk wr kb 3 #[.int .i64 (k:Int)]/\W7.heap.size<=kb/\Blk wr pb 29 #[v,.slice (some ⟨mb,0,none⟩) m m,.int .i64 (rm:Int)]/\CdRow wr W7.heap.size v ((List.range k).map fun t=>rwT t (kd t) (ruRd wn rl t))/\W7.grownBy wr (some pb)) (fun v8 v9 wr=>th-intAtU wr v9)
   case atStart=>exact ⟨0,W7.heap.size,.slice none 0 0,Nat.zero_le _,rfl,rfl,HK0.out.1,Nat.le_refl _,HK0.out.2,CdRow.nil _ _,grown_below ⟨rfl,rfl,rfl,Nat.le_refl _,fun _ _ _=>rfl⟩ ((Below.refl W7.heap.size W7).alloc (Nat.le_refl _) _)⟩
   case round=>
    obtain ⟨wo,rfl⟩: ∃wo:World,wo=wr:=⟨_,rfl⟩
    obtain ⟨k,kb,v,hk,rfl,rfl,hKb,hkb,hPk,hCk,hgk⟩:=hrel
    obtain ⟨hor,hor2,hne,hOW⟩:=HF.out.2.2.2.2.2.2.2.2
    have hXb:=HF.out.2.1.grown hgk (fun e=>by have :=Option.some.inj e;omega)
    have hTb:=HF.out.2.2.1.grown hgk (fun e=>by have :=Option.some.inj e;omega)
    have hOk:=HF.out.2.2.2.2.2.2.1.grown hgk (fun e=>by have :=Option.some.inj e;omega)
    have hcw:=HC.out
    have hc3:3<=cb:=by have h3:=HIN.out.2.2.1.1;omega
    have hB3:Below cb W7 wo:=below_of_grown (N:=cb) (by have :=HF.out.2.2.1.lt;omega) hgk (fun g e=>by have :=Option.some.inj e;omega)
    have hTo:Tab wo:=HF.out.2.2.2.2.2.2.2.1.below hB3 (by omega)
    have hOo:ONam wo:=hOW.below (hB3.mono hc3)
    have hBwo:Below cb w wo:=HF.out.2.2.2.2.2.1.trans hB3
    have x0:=(hKb.cell 0).trans rfl
    have x1:=(hTb.cell 0).trans rfl
    have hlt7:=HF.out.2.2.2.2.2.2.1.lt
    obtain ⟨sk,hsk⟩: ∃sk,(sumT k fun t=>wrs (kd t) (ruRd wn rl t))=sk:=⟨_,rfl⟩
    have HSK:=Lib.hid hsk
    rw [hsk]
    by_cases hlt:k<th
    case neg=>
     have hlt': ¬(k:Int)<(th:Int):=by omega
     have hRb:=HF.out.1.grown hgk (fun e=>by have :=Option.some.inj e;omega)
     have hB7:=HF.out.2.2.2.2.2.1
     have hMk:=HF.out.2.2.2.2.1.grown hgk (fun e=>hne (Option.some.inj e))
     have hke:k=th:=by omega
     rw [hke]at hCk HSK
     obtain ⟨vA,vc,hve⟩:=hCk.cap
     obtain ⟨vl,hvl⟩: ∃vl,((List.range th).map fun t=>rwT t (kd t) (ruRd wn rl t)).length=vl:=⟨_,rfl⟩
     rw [hvl]at hve
     clear hvl
     subst hve
     go_upto_region 24 with fail
     refine startG (fun W'=>wo.drew.grownBy W' (some rb)) 5 (by kernel_rfl) ?_
     have HX:=Lib.hid (And.intro hPk.drew (And.intro hOk.drew (show some pb≠some rb/\some okb≠some rb from ⟨fun e=>by have :=Option.some.inj e;omega,fun e=>by have :=Option.some.inj e;omega⟩)))
     have HY:=Lib.hid (And.intro hCk (And.intro hMk (And.intro hgk (And.intro hB7 (And.intro hne (And.intro hor hor2))))))
     have hRd:=hRb.drew
     have hg0:wo.drew.grownBy wo.drew (some rb):=World.grownBy.refl _ _
     have HW:=Lib.hid (show wo.drew.heap.size=wo.heap.size/\Below wo.heap.size wo wo.drew from ⟨rfl,below_drewB wo⟩)
     clear hCk hMk hgk hB7 hne hor hor2 hOk hPk hRb x0 x1 hKb hTo hkb hTb hXb hOo hBwo hc3 hB3 hcw hOW hke
     generalize wo.drew=w1 at HX hRd hg0 HW⊢
     have hP1:=HX.out.1
     have HM:=Lib.hid hord
     clear hord
     refine takeB (i:=0) (v:= .agg #[.slice vA vl vc,.slice (some ⟨mb,0,none⟩) m m,.int .i64 (rm:Int)]) rfl (yields_row (by rfl) 29 (.tmp 6) rfl pb rfl #[.slice vA vl vc,.slice (some ⟨mb,0,none⟩) m m,.int .i64 (rm:Int)] (fun _ hS=>run_row _ _ _ _ _ _ (HX.out.1.grown hS HX.out.2.2.1) Tryz.underlying29 rfl pg_info)) hg0 ?_
     simp only [Act.put,zA,zB,zC,zD,zE,zF]
     refine takeA (i:=1) (v:= .int .i64 (sk:Int)) rfl hg0 ?_
     simp only [Act.put,zA,zB,zC,zD,zE,zF]
     refine takeB (i:=2) (v:= .bool true) rfl (Or.inl ⟨by rfl,fun W hW=>by have q0:=((HX.out.2.1.grown hW HX.out.2.2.2).cell 0).trans rfl;go_simp⟩) hg0 ?_
     simp only [Act.put,zA,zB,zC,zD,zE,zF]
     refine onlyG (i:=3) (by kernel_rfl) rfl (fun K hK=>?_)
     refine step_store_row rfl 29 (.tmp 2) (.tmp 93) rfl rb rfl #[.slice vA vl vc,.slice (some ⟨mb,0,none⟩) m m,.int .i64 (rm:Int)] rfl 29 #[.slice none 0 0,.slice none 0 0,.int .i64 0] hRd rfl pg_info (by simp [Value.oneCell']) ?_
     intro w3 hb3 hg3
     refine hK.out _ _ hg3 (fun _=>?_)
     clear hK K
     try simp only [Act.put,zA,zB,zC,zD,zE,zF]
     refine takeA (i:=4) (v:= .int .i64 (sk:Int)) rfl hg3 ?_
     simp only [Act.put,zA,zB,zC,zD,zE,zF]
     refine lastG (by kernel_rfl) rfl (by kernel_rfl) (fun K hK=>?_)
     go_simp
     refine hK.out _ _ ?_
     clear hK K
     try simp only [Act.put,zA,zB,zC,zD,zE,zF]
     have HZ:=Lib.hid (And.intro hb3 (And.intro hg3 hRd))
     clear hb3 hg3 hRd hP1
     go_wp2_with fail
     refine bodyPost_ret (results_row2 rfl _ _ _ _ rfl (run_row _ _ _ _ _ _ HZ.out.1 Tryz.underlying29 rfl pg_info)) rfl ?_
     obtain ⟨hm1,hm2,_⟩:=HMZ.out
     obtain ⟨hCk,hMk,hgk,hB7,hne,hor,hor2⟩:=HY.out
     obtain ⟨hb3,hg3,hRd⟩:=HZ.out
     obtain ⟨hwz,hwd⟩:=HW.out
     have hcw:=HC.out
     have hpl:cb<pb/\cb<W7.heap.size:=by omega
     have B0:Below cb w wo:=hB7.trans (below_of_grown (N:=cb) (by omega) hgk (fun g e=>by have :=Option.some.inj e;omega))
     have hM1:=hMk.below hwd hMk.lt
     have hC1:=hCk.below hwd
     have B1:Below cb w w1:=B0.trans (hwd.mono (by have :=hgk.size;omega))
     have B3:Below cb w w3:=B1.trans (below_of_grown (N:=cb) (by have :=hgk.size;omega) hg3 (fun g e=>by have :=Option.some.inj e;have :=HM.out.1;omega))
     have hM3:=hM1.grown hg3 (fun e=>blk_apartU hM1 hRd (by decide) (Option.some.inj e))
     refine ⟨_,mb,W7.heap.size,by rw [hm1,HSK.out];rfl,by rw [hcw];exact B3,hC1.far hRd (by decide) (by decide) hg3,fun _=>⟨mb,0,rfl,hM3.lt,fun i hi=>?_⟩⟩
     rw [Nat.zero_add,hM3.cell,<-hm2]
     simp only [List.getElem?_toArray,List.getElem?_replicate]
     rw [if_pos (by omega)]
    case pos=>
     have hlt':(k:Int)<(th:Int):=by omega
     have hmf: ∀(fn:Fn) (first cap:Array Value) (w:World),(Instr.makeFunc fn first cap).run Tryz.prog w= .ok (.func fn first cap) w:=fun _ _ _ _=>rfl
     have hA0:=AXL.start wo hOk (by omega) hTo
     have hsz1:(wo.alloc (.cells #[.slice none 0 0] 50)).heap.size=wo.heap.size+1:=by simp
     have HL:=Lib.hid (And.intro hXb (And.intro hTb (And.intro hOk (And.intro hKb (And.intro hPk (And.intro hCk (And.intro hgk (And.intro hkb (And.intro hor (And.intro hor2 (And.intro hne (And.intro hlt7 (And.intro hOo (And.intro hBwo hc3))))))))))))))
     have HA0:=Lib.hid hA0
     clear hXb hTb hOk hPk hCk hgk hA0 hor hor2 hne hkb hOW hcw hc3 hB3 hTo hOo hBwo hsk
     go_wp2_with fail
     go_loopw [8,13] (fun v8 v13 wq=> ∃(j n c:Nat) (A:Option Addr),j<=ruRd wn rl k/\v13= .int .i64 (j:Int)/\v8= .int .i64 ((sk+wrs (kd k) j:Nat):Int)/\AXL wo wq okb (.slice A n c) A n c (rwT k (kd k) j)) (fun v8 v13 _=>ruRd wn rl k-(intOf v13).toNat)
     case atStart=>exact ⟨0,0,0,none,Nat.zero_le _,rfl,rfl,HA0.out⟩
     case round=>
      obtain ⟨j,n,c,A,hj,rfl,rfl,hAX⟩:=hrel
      obtain ⟨hXb,hTb,hOk,hKb,hPk,hCk,hgk,hkb,hor,hor2,hne,hlt7,hOo,hBwo,hc3⟩:=HL.out
      have hne1:cb≠okb/\tb≠okb/\kb≠okb:=by omega
      have hXq:=hAX.old hXb hne1.1
      have y0:=(hXq.cell 0).trans rfl
      have yk:=((hAX.old hKb hne1.2.2).cell 0).trans rfl
      have hall:=hAX.ax.all hOk
      have hBq:Below w.heap.size w wr:=by rw [HC.out];exact hBwo.trans (hall.mono (by have h1:=hgk.size;omega))
      have hrd4:ruRd wn rl k<=4:=by unfold ruRd;split<;>omega
      have hok3:3<=okb:=by omega
      by_cases hjl:j<ruRd wn rl k
      case neg=>
       by_cases hkn:k<wn
       case pos=>
        have hkn':(k:Int)<(wn:Int):=by omega
        by_cases hjr:j<rl k
        case pos=>
         have hje:j=ruRd wn rl k:=by omega
         have hjr':(j:Int)<(rl k:Int):=by omega
         have hrd:ruRd wn rl k=min (rl k) 4:=by unfold ruRd;rw [if_pos hkn]
         have hj4:j=4:=by omega
         have hj4': ¬(j:Int)<4:=by omega
         obtain ⟨ab,ao,rfl,hab,hac⟩:=HIN.out.1 (by omega)
         have za:wr.cell? ⟨ab,ao+k,none⟩=some (.slice (rA k) (rl k) (rc k)):=(hBq.cell (p:=⟨ab,ao+k,none⟩) hab).trans (hac k hkn)
         clear hab hac
         clear hrd
         rw [hje]at hAX
         have hal:=hall
         have hC:=hAX.ax.cw hOk
         have hPr:=hPk.below hal hPk.lt
         have hKr:=hKb.below hal hKb.lt
         have hcd:=hCk.below hal
         obtain ⟨vA,vc,hve⟩:=hcd.cap
         rw [List.length_map,List.length_range]at hve
         subst hve
         have q0:=(hPr.cell 0).trans rfl
         have b0:=(hAX.box.cell 0).trans rfl
         have hb0:W7.heap.size<=wo.heap.size:=hgk.size
         have hg:=grown_below hgk hal
         have hkp:kb≠pb:=by omega
         have hpl:pb<W7.heap.size:=by omega
         have hk4:k<=4:=by omega
         have HQ:=Lib.hid (And.intro hPr (And.intro hg (And.intro hKr (And.intro hkp (And.intro hKb (And.intro hpl hkb))))))
         clear hXb hTb hOk hKb hPk hCk hgk hor hor2 hne hlt7 hal hPr hKr hg hkp hpl hkb hAX hall hXq hBq hOo hBwo hc3 hne1
         go_wp2_with (at_builtin;refine CdRow.app hcd (by simp) hC hb0 rfl (.tmp 87) (.tmp 89) rfl rfl rfl (by omega) ?_;intro A' c' w' hcd' hkeep hgr;have hP6:=hkeep pb _ _ HQ.out.1 (by decide);have hK6:=hkeep kb _ _ HQ.out.2.2.1 (by decide);have hg6:=hgr _ _ rfl HQ.out.2.1;have p0:=(hP6.cell 0).trans rfl;have pf:=hP6.frozen 0;have k0:=((hK6.far (p:=⟨pb,0,none⟩) HQ.out.2.2.2.1 (.slice A' (k+1) c')).cell 0).trans rfl;have HQ6:=Lib.hid (And.intro hcd' (And.intro hP6 hg6));clear hcd hC hcd' hkeep hgr hP6 hK6 hg6)
         go_roundw
         case rel=>
          obtain ⟨hcd6,hP6,hg6⟩:=HQ6.out
          have hset:w'.grownBy (w'.setCell ⟨pb,0,none⟩ (.slice A' (k+1) c')) (some pb):=set_only _
          have hP7:=hP6.set_ 0 (.slice A' (k+1) c')
          have hcd7:=hcd6.far hP6 (by decide) (by decide) hset
          have hg7:=grown_row hg6 hset (fun g e=> .inr e)
          have hsz:(w'.setCell ⟨pb,0,none⟩ (.slice A' (k+1) c')).heap.size=w'.heap.size:=by simp
          have hal:=(Below.refl _ (w'.setCell ⟨pb,0,none⟩ (.slice A' (k+1) c'))).alloc (Nat.le_refl _) (.cells #[.int .i64 ((k:Int)+1)] 3)
          have hnew:=Blk.new (w'.setCell ⟨pb,0,none⟩ (.slice A' (k+1) c')) 3 #[.int .i64 ((k:Int)+1)]
          rw [hsz]at hnew
          have e:(List.range (k+1)).map (fun t=>rwT t (kd t) (ruRd wn rl t))=(List.range k).map (fun t=>rwT t (kd t) (ruRd wn rl t))++[rwT k (kd k) (ruRd wn rl k)]:=by
           rw [List.range_succ,List.map_append];rfl
          have e2:(sumT (k+1) fun t=>wrs (kd t) (ruRd wn rl t))=sk+wrs (kd k) (ruRd wn rl k):=by rw [<-HSK.out];exact sumT_succ k _
          refine ⟨k+1,w'.heap.size,.slice A' (k+1) c',by omega,rfl,by rw [e2,Int.natCast_add],hnew,hg6.size,hP7.alloc _,?_,grown_below hg7 hal⟩
          rw [e]
          exact hcd7.below hal
         case measure=>
          have hsz:(w'.setCell ⟨pb,0,none⟩ (.slice A' (k+1) c')).heap.size=w'.heap.size:=by simp
          have hnew:=Blk.new (w'.setCell ⟨pb,0,none⟩ (.slice A' (k+1) c')) 3 #[.int .i64 ((k:Int)+1)]
          rw [hsz]at hnew
          rw [intAtU_of (k:=k+1) hnew,intAtU_of HQ.out.2.2.2.2.1]
          omega
        case neg=>
         have hje:j=ruRd wn rl k:=by omega
         have hjr': ¬(j:Int)<(rl k:Int):=by omega
         obtain ⟨ab,ao,rfl,hab,hac⟩:=HIN.out.1 (by omega)
         have za:wr.cell? ⟨ab,ao+k,none⟩=some (.slice (rA k) (rl k) (rc k)):=(hBq.cell (p:=⟨ab,ao+k,none⟩) hab).trans (hac k hkn)
         clear hab hac
         rw [hje]at hAX
         have hal:=hall
         have hC:=hAX.ax.cw hOk
         have hPr:=hPk.below hal hPk.lt
         have hKr:=hKb.below hal hKb.lt
         have hcd:=hCk.below hal
         obtain ⟨vA,vc,hve⟩:=hcd.cap
         rw [List.length_map,List.length_range]at hve
         subst hve
         have q0:=(hPr.cell 0).trans rfl
         have b0:=(hAX.box.cell 0).trans rfl
         have hb0:W7.heap.size<=wo.heap.size:=hgk.size
         have hg:=grown_below hgk hal
         have hkp:kb≠pb:=by omega
         have hpl:pb<W7.heap.size:=by omega
         have hk4:k<=4:=by omega
         have HQ:=Lib.hid (And.intro hPr (And.intro hg (And.intro hKr (And.intro hkp (And.intro hKb (And.intro hpl hkb))))))
         clear hXb hTb hOk hKb hPk hCk hgk hor hor2 hne hlt7 hal hPr hKr hg hkp hpl hkb hAX hall hXq hBq hOo hBwo hc3 hne1
         go_wp2_with (at_builtin;refine CdRow.app hcd (by simp) hC hb0 rfl (.tmp 87) (.tmp 89) rfl rfl rfl (by omega) ?_;intro A' c' w' hcd' hkeep hgr;have hP6:=hkeep pb _ _ HQ.out.1 (by decide);have hK6:=hkeep kb _ _ HQ.out.2.2.1 (by decide);have hg6:=hgr _ _ rfl HQ.out.2.1;have p0:=(hP6.cell 0).trans rfl;have pf:=hP6.frozen 0;have k0:=((hK6.far (p:=⟨pb,0,none⟩) HQ.out.2.2.2.1 (.slice A' (k+1) c')).cell 0).trans rfl;have HQ6:=Lib.hid (And.intro hcd' (And.intro hP6 hg6));clear hcd hC hcd' hkeep hgr hP6 hK6 hg6)
         go_roundw
         case rel=>
          obtain ⟨hcd6,hP6,hg6⟩:=HQ6.out
          have hset:w'.grownBy (w'.setCell ⟨pb,0,none⟩ (.slice A' (k+1) c')) (some pb):=set_only _
          have hP7:=hP6.set_ 0 (.slice A' (k+1) c')
          have hcd7:=hcd6.far hP6 (by decide) (by decide) hset
          have hg7:=grown_row hg6 hset (fun g e=> .inr e)
          have hsz:(w'.setCell ⟨pb,0,none⟩ (.slice A' (k+1) c')).heap.size=w'.heap.size:=by simp
          have hal:=(Below.refl _ (w'.setCell ⟨pb,0,none⟩ (.slice A' (k+1) c'))).alloc (Nat.le_refl _) (.cells #[.int .i64 ((k:Int)+1)] 3)
          have hnew:=Blk.new (w'.setCell ⟨pb,0,none⟩ (.slice A' (k+1) c')) 3 #[.int .i64 ((k:Int)+1)]
          rw [hsz]at hnew
          have e:(List.range (k+1)).map (fun t=>rwT t (kd t) (ruRd wn rl t))=(List.range k).map (fun t=>rwT t (kd t) (ruRd wn rl t))++[rwT k (kd k) (ruRd wn rl k)]:=by
           rw [List.range_succ,List.map_append];rfl
          have e2:(sumT (k+1) fun t=>wrs (kd t) (ruRd wn rl t))=sk+wrs (kd k) (ruRd wn rl k):=by rw [<-HSK.out];exact sumT_succ k _
          refine ⟨k+1,w'.heap.size,.slice A' (k+1) c',by omega,rfl,by rw [e2,Int.natCast_add],hnew,hg6.size,hP7.alloc _,?_,grown_below hg7 hal⟩
          rw [e]
          exact hcd7.below hal
         case measure=>
          have hsz:(w'.setCell ⟨pb,0,none⟩ (.slice A' (k+1) c')).heap.size=w'.heap.size:=by simp
          have hnew:=Blk.new (w'.setCell ⟨pb,0,none⟩ (.slice A' (k+1) c')) 3 #[.int .i64 ((k:Int)+1)]
          rw [hsz]at hnew
          rw [intAtU_of (k:=k+1) hnew,intAtU_of HQ.out.2.2.2.2.1]
          omega
       case neg=>
        have hkn': ¬(k:Int)<(wn:Int):=by omega
        have hje:j=ruRd wn rl k:=by omega
        skip
        rw [hje]at hAX
        have hal:=hall
        have hC:=hAX.ax.cw hOk
        have hPr:=hPk.below hal hPk.lt
        have hKr:=hKb.below hal hKb.lt
        have hcd:=hCk.below hal
        obtain ⟨vA,vc,hve⟩:=hcd.cap
        rw [List.length_map,List.length_range]at hve
        subst hve
        have q0:=(hPr.cell 0).trans rfl
        have b0:=(hAX.box.cell 0).trans rfl
        have hb0:W7.heap.size<=wo.heap.size:=hgk.size
        have hg:=grown_below hgk hal
        have hkp:kb≠pb:=by omega
        have hpl:pb<W7.heap.size:=by omega
        have hk4:k<=4:=by omega
        have HQ:=Lib.hid (And.intro hPr (And.intro hg (And.intro hKr (And.intro hkp (And.intro hKb (And.intro hpl hkb))))))
        clear hXb hTb hOk hKb hPk hCk hgk hor hor2 hne hlt7 hal hPr hKr hg hkp hpl hkb hAX hall hXq hBq hOo hBwo hc3 hne1
        go_wp2_with (at_builtin;refine CdRow.app hcd (by simp) hC hb0 rfl (.tmp 87) (.tmp 89) rfl rfl rfl (by omega) ?_;intro A' c' w' hcd' hkeep hgr;have hP6:=hkeep pb _ _ HQ.out.1 (by decide);have hK6:=hkeep kb _ _ HQ.out.2.2.1 (by decide);have hg6:=hgr _ _ rfl HQ.out.2.1;have p0:=(hP6.cell 0).trans rfl;have pf:=hP6.frozen 0;have k0:=((hK6.far (p:=⟨pb,0,none⟩) HQ.out.2.2.2.1 (.slice A' (k+1) c')).cell 0).trans rfl;have HQ6:=Lib.hid (And.intro hcd' (And.intro hP6 hg6));clear hcd hC hcd' hkeep hgr hP6 hK6 hg6)
        go_roundw
        case rel=>
         obtain ⟨hcd6,hP6,hg6⟩:=HQ6.out
         have hset:w'.grownBy (w'.setCell ⟨pb,0,none⟩ (.slice A' (k+1) c')) (some pb):=set_only _
         have hP7:=hP6.set_ 0 (.slice A' (k+1) c')
         have hcd7:=hcd6.far hP6 (by decide) (by decide) hset
         have hg7:=grown_row hg6 hset (fun g e=> .inr e)
         have hsz:(w'.setCell ⟨pb,0,none⟩ (.slice A' (k+1) c')).heap.size=w'.heap.size:=by simp
         have hal:=(Below.refl _ (w'.setCell ⟨pb,0,none⟩ (.slice A' (k+1) c'))).alloc (Nat.le_refl _) (.cells #[.int .i64 ((k:Int)+1)] 3)
         have hnew:=Blk.new (w'.setCell ⟨pb,0,none⟩ (.slice A' (k+1) c')) 3 #[.int .i64 ((k:Int)+1)]
         rw [hsz]at hnew
         have e:(List.range (k+1)).map (fun t=>rwT t (kd t) (ruRd wn rl t))=(List.range k).map (fun t=>rwT t (kd t) (ruRd wn rl t))++[rwT k (kd k) (ruRd wn rl k)]:=by
          rw [List.range_succ,List.map_append];rfl
         have e2:(sumT (k+1) fun t=>wrs (kd t) (ruRd wn rl t))=sk+wrs (kd k) (ruRd wn rl k):=by rw [<-HSK.out];exact sumT_succ k _
         refine ⟨k+1,w'.heap.size,.slice A' (k+1) c',by omega,rfl,by rw [e2,Int.natCast_add],hnew,hg6.size,hP7.alloc _,?_,grown_below hg7 hal⟩
         rw [e]
         exact hcd7.below hal
        case measure=>
         have hsz:(w'.setCell ⟨pb,0,none⟩ (.slice A' (k+1) c')).heap.size=w'.heap.size:=by simp
         have hnew:=Blk.new (w'.setCell ⟨pb,0,none⟩ (.slice A' (k+1) c')) 3 #[.int .i64 ((k:Int)+1)]
         rw [hsz]at hnew
         rw [intAtU_of (k:=k+1) hnew,intAtU_of HQ.out.2.2.2.2.1]
         omega
      case pos=>
       have hkn:k<wn:=by unfold ruRd at hjl;split at hjl<;>omega
       have hjr:j<rl k:=by unfold ruRd at hjl;rw [if_pos hkn]at hjl;omega
       have hkn':(k:Int)<(wn:Int):=by omega
       have hjr':(j:Int)<(rl k:Int):=by omega
       have hj4':(j:Int)<4:=by omega
       have hk0:(0:Int)<=(k:Int):=by omega
       have hj0:(0:Int)<=(j:Int):=by omega
       have hnn:n<=192:=by have h1:=hAX.n;have h2:=rwT_small k (kd k) (n:=j) (by omega);omega
       obtain ⟨ab,ao,rfl,hab,hac⟩:=HIN.out.1 (by omega)
       have za:wr.cell? ⟨ab,ao+k,none⟩=some (.slice (rA k) (rl k) (rc k)):=(hBq.cell (p:=⟨ab,ao+k,none⟩) hab).trans (hac k hkn)
       obtain ⟨bb,bo,hra,hbb,hbc⟩:=HIN.out.2.1 k hkn (by omega)
       have zb:wr.cell? ⟨bb,bo+j,none⟩=some (.bool (kd k j)):=(hBq.cell (p:=⟨bb,bo+j,none⟩) hbb).trans (hbc j hjr)
       rw [hra]at za
       cases hkv:kd k j with
       |true=>
        rw [hkv]at zb
        have cA:=ruWri_any k (by omega) th bth hlt wo wr okb tb kb A n c _ hAX (by omega) (by omega) hOo hTb hKb hne1.2.1 hne1.2.2
        have hnL:=hAX.n
        have HN:=Lib.hid (And.intro hnL (And.intro hkv (And.intro hTb (And.intro hKb (And.intro hOo hjl)))))
        clear hAX hnL hkv hTb hKb hOo hXb hOk hPk hCk hgk hkb hor hor2 hne hlt7 hBwo hall hBq hXq hac hab hbb hbc hjl hj
        go_wp2_with fail
        with_reducible refine cA.mono ?_
        rintro ed Wa ⟨⟨u,rfl⟩,A1,M1,c1,hM1,hAX1⟩
        clear cA y0 yk za zb
        have z0:=(hAX1.box.cell 0).trans rfl
        have hM9:M1<=300:=by omega
        have HM1:=Lib.hid hM1
        clear hM1
        have hw4:wrs (kd k) j<=4:=by have :=wrs_le (kd k) j;omega
        have hs16:sk<=16:=by have :=sumT_le (W:=k) (f:=fun t=>wrs (kd t) (ruRd wn rl t)) (k:=4) (fun t _=>by have :=wrs_le (kd t) (ruRd wn rl t);have :ruRd wn rl t<=4:=(by unfold ruRd;split<;>omega);omega);have :=HSK.out;omega
        go_wp2_with (first|(refine wpList_load_row rfl 75 (.tmp 12) rfl (wo.heap.size+1) rfl 75 #[.int .i64 16,.int .i64 1,.int .i64 8,.int .i64 0,.int .u32 0] _ _ hAX1.lb Tryz.underlying75 rfl ins_infoU ?_)|(at_builtin;refine hAX1.app4 ⟨16,1,8,0,0⟩ ⟨1,2,0,0,1⟩ ⟨3,1,1,2,0⟩ ⟨17,1,8,0,0⟩ (M1+4) Wa.heap.size rfl rfl rfl (.tmp 68) (.tmp 73) rfl rfl rfl (by omega) ?_;intro A2 c2 Wb hAX2;have y1:=(hAX2.box.cell 0).trans rfl;have y2:=hAX2.box.frozen 0;clear z0 hAX1))
        have hAX3:=hAX2.set (.slice A2 (M1+4) c2)
        clear hAX2 y1 y2
        generalize Wb.setCell ⟨wo.heap.size,0,none⟩ (.slice A2 (M1+4) c2)=Wc at hAX3⊢
        have cR:=ruRer_any k (by omega) th bth hlt wo Wc okb tb kb A2 (M1+4) c2 _ hAX3 (by omega) (by omega) HN.out.2.2.2.2.1 HN.out.2.2.1 HN.out.2.2.2.1 hne1.2.1 hne1.2.2
        clear hAX3
        go_wp2_with fail
        with_reducible refine cR.mono ?_
        rintro ed We ⟨⟨u2,rfl⟩,A3,M3,c3,hM3,hAX4⟩
        clear cR
        have e0: ∀l4:List Ins,l4.length=4->(rwT k (kd k) j++callR 0 (rwT k (kd k) j).length (wriO k)++l4).length=(rwT k (kd k) j).length+19:=fun l4 h4=>by unfold callR;simp only [List.length_append,List.length_cons,List.length_map,List.length_nil,(wri_ok k (by omega)).1,h4]
        have e1:=rwT_wr (t:=k) (kd:=kd k) (n:=j) (by have :=HN.out.2.2.2.2.2;omega) HN.out.2.1
        rw [e0 _ rfl]at hAX4
        have hAX5:AXL wo We okb (.slice A3 M3 c3) A3 M3 c3 (rwT k (kd k) (j+1)):=by
         rw [e1]
         exact hAX4
        have HA5:=Lib.hid hAX5
        clear hAX4 hAX5 hM3 e0 e1
        go_wp2_with fail
        go_roundw
        case rel=>
         have ew:wrs (kd k) (j+1)=wrs (kd k) j+1:=by rw [wrs_succ,HN.out.2.1];rfl
         refine ⟨j+1,M3,c3,A3,HN.out.2.2.2.2.2,by go_num,?_,HA5.out⟩
         rw [ew]
         first|rfl|(refine congrArg _ ?_;exact (IntWalk.i64_in ((sk:Int)+(wrs (kd k) j:Int)+1) (by omega)).trans (by omega))|(refine congrArg _ ?_;exact (IntWalk.wrap64_in _ (by omega)).trans (by omega))
        case measure=>have :=HN.out.2.2.2.2.2;simp [intOf];omega
       |false=>
        rw [hkv]at zb
        have cA:=ruRea_any k (by omega) th bth hlt wo wr okb tb kb A n c _ hAX (by omega) (by omega) hOo hTb hKb hne1.2.1 hne1.2.2
        have hnL:=hAX.n
        have HN:=Lib.hid (And.intro hnL (And.intro hkv (And.intro hTb (And.intro hKb (And.intro hOo hjl)))))
        clear hAX hnL hkv hTb hKb hOo hXb hOk hPk hCk hgk hkb hor hor2 hne hlt7 hBwo hall hBq hXq hac hab hbb hbc hjl hj
        go_wp2_with fail
        with_reducible refine cA.mono ?_
        rintro ed Wa ⟨⟨u,rfl⟩,A1,M1,c1,hM1,hAX1⟩
        clear cA y0 yk za zb
        have z0:=(hAX1.box.cell 0).trans rfl
        have hM9:M1<=300:=by omega
        have HM1:=Lib.hid hM1
        clear hM1
        have hw4:wrs (kd k) j<=4:=by have :=wrs_le (kd k) j;omega
        have hs16:sk<=16:=by have :=sumT_le (W:=k) (f:=fun t=>wrs (kd t) (ruRd wn rl t)) (k:=4) (fun t _=>by have :=wrs_le (kd t) (ruRd wn rl t);have :ruRd wn rl t<=4:=(by unfold ruRd;split<;>omega);omega);have :=HSK.out;omega
        go_wp2_with (first|(refine wpList_load_row rfl 75 (.tmp 12) rfl (wo.heap.size+1) rfl 75 #[.int .i64 16,.int .i64 1,.int .i64 8,.int .i64 0,.int .u32 0] _ _ hAX1.lb Tryz.underlying75 rfl ins_infoU ?_)|(at_builtin;refine hAX1.app4 ⟨16,1,8,0,0⟩ ⟨22,1,0,0,0⟩ ⟨16,1,8,0,0⟩ ⟨22,1,0,0,0⟩ (M1+4) Wa.heap.size rfl rfl rfl (.tmp 77) (.tmp 82) rfl rfl rfl (by omega) ?_;intro A2 c2 Wb hAX2;have y1:=(hAX2.box.cell 0).trans rfl;have y2:=hAX2.box.frozen 0;clear z0 hAX1))
        have hAX3:=hAX2.set (.slice A2 (M1+4) c2)
        clear hAX2 y1 y2
        generalize Wb.setCell ⟨wo.heap.size,0,none⟩ (.slice A2 (M1+4) c2)=Wc at hAX3⊢
        have cR:=ruRer_any k (by omega) th bth hlt wo Wc okb tb kb A2 (M1+4) c2 _ hAX3 (by omega) (by omega) HN.out.2.2.2.2.1 HN.out.2.2.1 HN.out.2.2.2.1 hne1.2.1 hne1.2.2
        clear hAX3
        go_wp2_with fail
        with_reducible refine cR.mono ?_
        rintro ed We ⟨⟨u2,rfl⟩,A3,M3,c3,hM3,hAX4⟩
        clear cR
        have e0: ∀l4:List Ins,l4.length=4->(rwT k (kd k) j++callR 2 (rwT k (kd k) j).length (reaO k)++l4).length=(rwT k (kd k) j).length+26:=fun l4 h4=>by unfold callR;simp only [List.length_append,List.length_cons,List.length_map,List.length_nil,(rea_ok k (by omega)).1,h4]
        have e1:=rwT_rd (t:=k) (kd:=kd k) (n:=j) (by have :=HN.out.2.2.2.2.2;omega) HN.out.2.1
        rw [e0 _ rfl]at hAX4
        have hAX5:AXL wo We okb (.slice A3 M3 c3) A3 M3 c3 (rwT k (kd k) (j+1)):=by
         rw [e1]
         exact hAX4
        have HA5:=Lib.hid hAX5
        clear hAX4 hAX5 hM3 e0 e1
        go_wp2_with fail
        go_roundw
        case rel=>
         have ew:wrs (kd k) (j+1)=wrs (kd k) j+0:=by rw [wrs_succ,HN.out.2.1];rfl
         refine ⟨j+1,M3,c3,A3,HN.out.2.2.2.2.2,by go_num,?_,HA5.out⟩
         rw [ew]
         first|rfl|(congr 1;omega)
        case measure=>have :=HN.out.2.2.2.2.2;simp [intOf];omega
end Go.Proofs.YtmhfpjnkjlhbpaaGreatDoor
