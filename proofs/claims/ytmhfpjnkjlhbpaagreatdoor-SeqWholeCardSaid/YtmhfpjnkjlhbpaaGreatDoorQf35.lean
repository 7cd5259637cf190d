/- seq: law19's programs, by contract. -/
import Derived.Test.YtmhfpjnkjlhbpaaGreatDoorQf34
namespace Go.Proofs.YtmhfpjnkjlhbpaaGreatDoor
open Go.ChangeShapes Go.WideShapes Go.ChangeAt Go.RowKit Go.Deep
set_option linter.unusedVariables false
set_option maxRecDepth 100000
set_option linter.unusedSimpArgs false
open List renaming getElem_toArray->zA,getElem_cons_zero->zB,getElem_cons_succ->zC,setIfInBounds_toArray->zD,set_cons_zero->zE,set_cons_succ->zF
theorem seqAcq_any (N k:Nat) (th:Int) (W0 W:World) (okb ob tb kb:Nat) (A:Option Addr) (n c:Nat) (L:List Ins) (hN:1<=N/\N<=3) (hth:1<=th/\th<=8) (hk:(k:Int)<th) (h:AX W0 W okb (.slice A n c) A n c L) (hL:L.length<=500)
 (ho:Blk W0 ob 46 #[.int .i64 9,.int .i64 (N:Int),.int .i64 0,.int .i64 0]) (ht:Blk W0 tb 3 #[.int .i64 th]) (hkb:Blk W0 kb 3 #[.int .i64 (k:Int)]) (d1:ob≠okb) (d2:tb≠okb) (d3:kb≠okb):
 Calls Tryz.prog 41 #[.int .i64 0,.int .i64 1,.int .u32 0,.pointer (some ⟨ob,0,none⟩),.pointer (some ⟨tb,0,none⟩),.pointer (some ⟨kb,0,none⟩),.pointer (some ⟨okb,0,none⟩),.pointer (some ⟨W0.heap.size,0,none⟩)] W fun e W'=>
  (∃u,e= .returned u)/\ ∃A' M c',M=n+14/\AX W0 W' okb (.slice A' M c') A' M c' (L++callL 0 L.length (acqO k)):=by
 have hn:=h.n
 have K:=seqAdd_any 0 (by omega) 1 0 (acqO k) 12 N th (k:Int) (acq_ok k (by omega)).1 (acq_ok k (by omega)).2 (by omega) (fun W hT=>code_acq N th 16 (k:Int) 0 hN hth ⟨by omega,hk⟩ (by omega) (by omega) W hT) W0 W okb ob tb kb A n c L h (by omega) ho ht hkb d1 d2 d3
 refine K.mono ?_
 rintro e W' ⟨h1,A',M,c',hM,h2⟩
 exact ⟨h1,A',M,c',hM,by rw [<-hn];exact h2⟩
theorem seqRel_any (N k:Nat) (th:Int) (W0 W:World) (okb ob tb kb:Nat) (A:Option Addr) (n c:Nat) (L:List Ins) (hN:1<=N/\N<=3) (hth:1<=th/\th<=8) (hk:(k:Int)<th) (h:AX W0 W okb (.slice A n c) A n c L) (hL:L.length<=500)
 (ho:Blk W0 ob 46 #[.int .i64 9,.int .i64 (N:Int),.int .i64 0,.int .i64 0]) (ht:Blk W0 tb 3 #[.int .i64 th]) (hkb:Blk W0 kb 3 #[.int .i64 (k:Int)]) (d1:ob≠okb) (d2:tb≠okb) (d3:kb≠okb):
 Calls Tryz.prog 41 #[.int .i64 1,.int .i64 2,.int .u32 0,.pointer (some ⟨ob,0,none⟩),.pointer (some ⟨tb,0,none⟩),.pointer (some ⟨kb,0,none⟩),.pointer (some ⟨okb,0,none⟩),.pointer (some ⟨W0.heap.size,0,none⟩)] W fun e W'=>
  (∃u,e= .returned u)/\ ∃A' M c',M=n+(11+2)/\AX W0 W' okb (.slice A' M c') A' M c' (L++callL 1 L.length (relO k)):=by
 have hn:=h.n
 have K:=seqAdd_any 1 (by omega) 2 0 (relO k) (11) N th (k:Int) (rel_ok k (by omega)).1 (rel_ok k (by omega)).2 (by omega) (fun W hT=>code_rel N th 16 (k:Int) 0 hN hth ⟨by omega,hk⟩ (by omega) (by omega) W hT) W0 W okb ob tb kb A n c L h (by omega) ho ht hkb d1 d2 d3
 refine K.mono ?_
 rintro e W' ⟨h1,A',M,c',hM,h2⟩
 exact ⟨h1,A',M,c',hM,by rw [<-hn];exact h2⟩
theorem seqPut_any (N k i:Nat) (th:Int) (W0 W:World) (okb ob tb kb:Nat) (A:Option Addr) (n c:Nat) (L:List Ins) (hN:1<=N/\N<=3) (hi:i<N) (hth:1<=th/\th<=8) (hk:(k:Int)<th) (h:AX W0 W okb (.slice A n c) A n c L) (hL:L.length<=500)
 (ho:Blk W0 ob 46 #[.int .i64 9,.int .i64 (N:Int),.int .i64 0,.int .i64 0]) (ht:Blk W0 tb 3 #[.int .i64 th]) (hkb:Blk W0 kb 3 #[.int .i64 (k:Int)]) (d1:ob≠okb) (d2:tb≠okb) (d3:kb≠okb):
 Calls Tryz.prog 41 #[.int .i64 3,.int .i64 4,.int .u32 (i:Int),.pointer (some ⟨ob,0,none⟩),.pointer (some ⟨tb,0,none⟩),.pointer (some ⟨kb,0,none⟩),.pointer (some ⟨okb,0,none⟩),.pointer (some ⟨W0.heap.size,0,none⟩)] W fun e W'=>
  (∃u,e= .returned u)/\ ∃A' M c',M=n+(8+2)/\AX W0 W' okb (.slice A' M c') A' M c' (L++callL 3 L.length (putO k i)):=by
 have hn:=h.n
 have K:=seqAdd_any 3 (by omega) 4 (i:Int) (putO k i) (8) N th (k:Int) (put_ok k i (by omega) (by omega)).1 (put_ok k i (by omega) (by omega)).2 (by omega) (fun W hT=>code_put N th 16 (k:Int) (i:Int) hN hth ⟨by omega,hk⟩ (by omega) ⟨by omega,by omega⟩ W hT) W0 W okb ob tb kb A n c L h (by omega) ho ht hkb d1 d2 d3
 refine K.mono ?_
 rintro e W' ⟨h1,A',M,c',hM,h2⟩
 exact ⟨h1,A',M,c',hM,by rw [<-hn];exact h2⟩
theorem seqRead_any (N k:Nat) (th:Int) (W0 W:World) (okb ob tb kb:Nat) (A:Option Addr) (n c:Nat) (L:List Ins) (hN:1<=N/\N<=3) (hth:1<=th/\th<=8) (hk:(k:Int)<th) (h:AX W0 W okb (.slice A n c) A n c L) (hL:L.length<=500)
 (ho:Blk W0 ob 46 #[.int .i64 9,.int .i64 (N:Int),.int .i64 0,.int .i64 0]) (ht:Blk W0 tb 3 #[.int .i64 th]) (hkb:Blk W0 kb 3 #[.int .i64 (k:Int)]) (d1:ob≠okb) (d2:tb≠okb) (d3:kb≠okb):
 Calls Tryz.prog 41 #[.int .i64 2,.int .i64 3,.int .u32 0,.pointer (some ⟨ob,0,none⟩),.pointer (some ⟨tb,0,none⟩),.pointer (some ⟨kb,0,none⟩),.pointer (some ⟨okb,0,none⟩),.pointer (some ⟨W0.heap.size,0,none⟩)] W fun e W'=>
  (∃u,e= .returned u)/\ ∃A' M c',M=n+(8+N+2)/\AX W0 W' okb (.slice A' M c') A' M c' (L++callL 2 L.length (readO N)):=by
 have hn:=h.n
 have K:=seqAdd_any 2 (by omega) 3 0 (readO N) (8+N) N th (k:Int) (read_ok N hN).1 (read_ok N hN).2 (by omega) (fun W hT=>code_read N th 16 (k:Int) 0 hN hth ⟨by omega,hk⟩ (by omega) (by omega) W hT) W0 W okb ob tb kb A n c L h (by omega) ho ht hkb d1 d2 d3
 refine K.mono ?_
 rintro e W' ⟨h1,A',M,c',hM,h2⟩
 exact ⟨h1,A',M,c',hM,by rw [<-hn];exact h2⟩
def intAt (wr:World):Value->Nat
 | .pointer (some p)=>match wr.cell? p with|some v=>(intOf v).toNat|none=>0
 |_=>0
theorem blk_apart {w:World} {g g':Nat} {t t':TypeId} {cs cs':Array Value} (h:Blk w g t cs) (h':Blk w g' t' cs') (hne:t≠t'):g≠g':=fun e=>by
 subst e
 have q:=h.symm.trans h'
 injection q with q
 injection q with q1 q2
 exact hne q2
theorem intAt_of {w:World} {b:Nat} {k:Nat} (h:Blk w b 3 #[.int .i64 (k:Int)]):intAt w (.pointer (some ⟨b,0,none⟩))=k:=by
 show (match w.cell? ⟨b,0,none⟩with|some v=>(intOf v).toNat|none=>0)=k
 rw [show w.cell? ⟨b,0,none⟩=some (.int .i64 (k:Int)) from (h.cell 0).trans rfl]
 exact Int.toNat_natCast k
theorem sqSn_zero (N:Nat) (b:Bool):sqSn N 0 b=0:=by unfold sqSn;split<;>exact Nat.zero_mul _
theorem sqL_zero (N t:Nat) (b:Bool):sqL N t b 0=[]:=rfl
theorem results_row3 {P:Program} {fn:Func} {p q q' q2:Tmp} {ty:TypeId} (h:fn.results= #[.cell p ty,.tmp q,.tmp q',.tmp q2]) (tmps:Array Value) (w:World) (g:Nat) (v:Value)
 (hp:tmps.getD p undef= .pointer (some ⟨g,0,none⟩)) (hr:(loadVar ty ⟨g,0,none⟩).run P w= .ok v w):
 (results fn tmps).run P w= .ok (.tuple #[v,tmps.getD q undef,tmps.getD q' undef,tmps.getD q2 undef]) w:=by
 have hp':tmps[p]?.getD undef= .pointer (some ⟨g,0,none⟩):=by simpa using hp
 simp [results,h,hp',asAddr,hr]
def SqMade (w:World) (N Wn R rd rm:Nat) (ed:Ending) (w':World):Prop:= ∃(v:Value) (mb base:Nat),ed= .returned (.tuple #[.agg #[v,.slice (some ⟨mb,0,none⟩) (18+N) (18+N),.int .i64 (rm:Int)],.int .i64 (Wn:Int),.int .i64 (N:Int),.bool true])/\Below w.heap.size w w'/\
 CdRow w' base v ((List.range (Wn+R)).map fun t=>sqT N rd t (decide (t<Wn)))/\Sl w' (some ⟨mb,0,none⟩) (18+N) (fun _=> .int .u32 0)
set_option maxHeartbeats 4000000 in
theorem seqMk_any (a b c d e:Nat) (h255:a<=255/\b<=255/\c<=255/\d<=255/\e<=255) (w:World) (hT:Tab w):
 Calls Tryz.prog 15 #[.agg #[.int .u8 (a:Int),.int .u8 (b:Int),.int .u8 (c:Int),.int .u8 (d:Int),.int .u8 (e:Int)]] w (SqMade w (1+a % 3) (1+b % 2) (1+c % 2) (1+d % 3) (1+e % 5)):=by
 obtain ⟨N,hN⟩: ∃N,1+a % 3=N:=⟨_,rfl⟩
 obtain ⟨Wn,hWn⟩: ∃N,1+b % 2=N:=⟨_,rfl⟩
 obtain ⟨R,hRn⟩: ∃N,1+c % 2=N:=⟨_,rfl⟩
 obtain ⟨rd,hrd⟩: ∃N,1+d % 3=N:=⟨_,rfl⟩
 obtain ⟨rm,hrm⟩: ∃N,1+e % 5=N:=⟨_,rfl⟩
 have tN:Int.tmod (a:Int) 3=((N:Int)-1):=by rw [Int.tmod_eq_emod_of_nonneg (by omega)];omega
 have uN:IntKind.i64.wrap (1+((N:Int)-1))=(N:Int):=by rw [show 1+((N:Int)-1)=(N:Int) by omega];exact IntWalk.i64_in _ (by omega)
 have sN:IntKind.i64.wrap ((N:Int)-1)=(N:Int)-1:=IntWalk.i64_in _ (by omega)
 have rN:IntKind.i64.wrap (a:Int)=(a:Int):=IntWalk.i64_in _ (by omega)
 have tWn:Int.tmod (b:Int) 2=((Wn:Int)-1):=by rw [Int.tmod_eq_emod_of_nonneg (by omega)];omega
 have uWn:IntKind.i64.wrap (1+((Wn:Int)-1))=(Wn:Int):=by rw [show 1+((Wn:Int)-1)=(Wn:Int) by omega];exact IntWalk.i64_in _ (by omega)
 have sWn:IntKind.i64.wrap ((Wn:Int)-1)=(Wn:Int)-1:=IntWalk.i64_in _ (by omega)
 have rWn:IntKind.i64.wrap (b:Int)=(b:Int):=IntWalk.i64_in _ (by omega)
 have tR:Int.tmod (c:Int) 2=((R:Int)-1):=by rw [Int.tmod_eq_emod_of_nonneg (by omega)];omega
 have uR:IntKind.i64.wrap (1+((R:Int)-1))=(R:Int):=by rw [show 1+((R:Int)-1)=(R:Int) by omega];exact IntWalk.i64_in _ (by omega)
 have sR:IntKind.i64.wrap ((R:Int)-1)=(R:Int)-1:=IntWalk.i64_in _ (by omega)
 have rR:IntKind.i64.wrap (c:Int)=(c:Int):=IntWalk.i64_in _ (by omega)
 have trd:Int.tmod (d:Int) 3=((rd:Int)-1):=by rw [Int.tmod_eq_emod_of_nonneg (by omega)];omega
 have urd:IntKind.i64.wrap (1+((rd:Int)-1))=(rd:Int):=by rw [show 1+((rd:Int)-1)=(rd:Int) by omega];exact IntWalk.i64_in _ (by omega)
 have srd:IntKind.i64.wrap ((rd:Int)-1)=(rd:Int)-1:=IntWalk.i64_in _ (by omega)
 have rrd:IntKind.i64.wrap (d:Int)=(d:Int):=IntWalk.i64_in _ (by omega)
 have trm:Int.tmod (e:Int) 5=((rm:Int)-1):=by rw [Int.tmod_eq_emod_of_nonneg (by omega)];omega
 have urm:IntKind.i64.wrap (1+((rm:Int)-1))=(rm:Int):=by rw [show 1+((rm:Int)-1)=(rm:Int) by omega];exact IntWalk.i64_in _ (by omega)
 have srm:IntKind.i64.wrap ((rm:Int)-1)=(rm:Int)-1:=IntWalk.i64_in _ (by omega)
 have rrm:IntKind.i64.wrap (e:Int)=(e:Int):=IntWalk.i64_in _ (by omega)
 rw [hN,hWn,hRn,hrd,hrm]
 have bN:1<=N/\N<=3:=by omega
 have bW:1<=Wn/\Wn<=2:=by omega
 have bR:1<=R/\R<=2:=by omega
 have brd:1<=rd/\rd<=3:=by omega
 have brm:1<=rm/\rm<=5:=by omega
 clear hN hWn hRn hrd hrm
 have hB0:=(Below.refl w.heap.size w).alloc (Nat.le_refl _) (.cells #[.int .u8 (a:Int),.int .u8 (b:Int),.int .u8 (c:Int),.int .u8 (d:Int),.int .u8 (e:Int)] 23)
 have hX0:=Blk.new w 23 #[.int .u8 (a:Int),.int .u8 (b:Int),.int .u8 (c:Int),.int .u8 (d:Int),.int .u8 (e:Int)]
 generalize hW1:w.alloc (.cells #[.int .u8 (a:Int),.int .u8 (b:Int),.int .u8 (c:Int),.int .u8 (d:Int),.int .u8 (e:Int)] 23)=W1 at hB0 hX0
 have hB1:=hB0.alloc (by have :=hB0.size;omega) (.cells #[.slice none 0 0,.slice none 0 0,.int .i64 0] 29)
 have hX1:=hX0.alloc (.cells #[.slice none 0 0,.slice none 0 0,.int .i64 0] 29)
 have hR1:=Blk.new W1 29 #[.slice none 0 0,.slice none 0 0,.int .i64 0]
 generalize hW2:W1.alloc (.cells #[.slice none 0 0,.slice none 0 0,.int .i64 0] 29)=W2 at hB1 hX1 hR1
 have x0:=(hX1.cell 0).trans rfl
 go_enter Tryz.func15,Tryz.ntmps15
 go_upto_region 2 with fail
 try rw [hW1]
 try rw [hW2]
 have hX2:=hX1.alloc (.cells #[.int .i64 9,.int .i64 (N:Int),.int .i64 0,.int .i64 0] 46)
 have hR2:=hR1.alloc (.cells #[.int .i64 9,.int .i64 (N:Int),.int .i64 0,.int .i64 0] 46)
 have hO2:=Blk.new W2 46 #[.int .i64 9,.int .i64 (N:Int),.int .i64 0,.int .i64 0]
 have hB2:=hB1.alloc (by have :=hB1.size;omega) (.cells #[.int .i64 9,.int .i64 (N:Int),.int .i64 0,.int .i64 0] 46)
 obtain ⟨cb,hcb⟩: ∃x,w.heap.size=x:=⟨_,rfl⟩
 obtain ⟨rb,hrb⟩: ∃x,W1.heap.size=x:=⟨_,rfl⟩
 obtain ⟨ob,hob⟩: ∃x,W2.heap.size=x:=⟨_,rfl⟩
 have hord:cb<rb/\rb<ob:=by have h1:=hX0.lt;have h2:=hR1.lt;omega
 rw [hcb]at hX2 hB2
 rw [hrb]at hR2
 rw [hob]at hO2
 try rw [hcb]
 try rw [hrb]
 try rw [hob]
 have HC:=Lib.hid hcb
 clear hX1 hR1 hB1 x0 hX0 hB0 hcb hrb hob
 generalize W2.alloc (.cells #[.int .i64 9,.int .i64 (N:Int),.int .i64 0,.int .i64 0] 46)=W3 at hX2 hR2 hO2 hB2⊢
 clear hW1 hW2
 refine startG (fun W'=>Below W3.drew.heap.size W3.drew W') 17 (by kernel_rfl) ?_
 have hX3:=hX2.drew
 have HX:=Lib.hid hX3
 have hR3:=hR2.drew
 have hO3:=hO2.drew
 have hB3:=step_belowN hB2 (below_drewB W3) (by have :=hB2.size;have :=hX2.lt;omega)
 have hH:Below W3.drew.heap.size W3.drew W3.drew:=Below.refl _ _
 clear hX2 hR2 hO2 hB2
 generalize W3.drew=W4 at HX hX3 hR3 hO3 hB3 hH⊢
 refine takeA (i:=0) (v:= .pointer (some ⟨cb,1,none⟩)) rfl hH ?_
 simp only [Act.put,zA,zB,zC,zD,zE,zF]
 refine takeB (i:=1) (v:= .int .u8 (b:Int)) rfl (Or.inl ⟨by rfl,fun W hW=>by have q0:=((HX.out.below hW HX.out.lt).cell 1).trans rfl;go_simp⟩) hH ?_
 simp only [Act.put,zA,zB,zC,zD,zE,zF]
 refine takeA (i:=2) (v:= .int .i64 (b:Int)) rfl hH ?_
 simp only [Act.put,zA,zB,zC,zD,zE,zF]
 refine takeA (i:=3) (v:= .int .i64 ((Wn:Int)-1)) rfl hH ?_
 simp only [Act.put,zA,zB,zC,zD,zE,zF]
 refine takeA (i:=4) (v:= .int .i64 (Wn:Int)) rfl hH ?_
 simp only [Act.put,zA,zB,zC,zD,zE,zF]
 refine takeA (i:=5) (v:= .pointer (some ⟨cb,2,none⟩)) rfl hH ?_
 simp only [Act.put,zA,zB,zC,zD,zE,zF]
 refine takeB (i:=6) (v:= .int .u8 (c:Int)) rfl (Or.inl ⟨by rfl,fun W hW=>by have q0:=((HX.out.below hW HX.out.lt).cell 2).trans rfl;go_simp⟩) hH ?_
 simp only [Act.put,zA,zB,zC,zD,zE,zF]
 refine takeA (i:=7) (v:= .int .i64 (c:Int)) rfl hH ?_
 simp only [Act.put,zA,zB,zC,zD,zE,zF]
 refine takeA (i:=8) (v:= .int .i64 ((R:Int)-1)) rfl hH ?_
 simp only [Act.put,zA,zB,zC,zD,zE,zF]
 refine takeA (i:=9) (v:= .int .i64 (R:Int)) rfl hH ?_
 simp only [Act.put,zA,zB,zC,zD,zE,zF]
 refine takeA (i:=10) (v:= .pointer (some ⟨cb,3,none⟩)) rfl hH ?_
 simp only [Act.put,zA,zB,zC,zD,zE,zF]
 refine takeB (i:=11) (v:= .int .u8 (d:Int)) rfl (Or.inl ⟨by rfl,fun W hW=>by have q0:=((HX.out.below hW HX.out.lt).cell 3).trans rfl;go_simp⟩) hH ?_
 simp only [Act.put,zA,zB,zC,zD,zE,zF]
 refine takeA (i:=12) (v:= .int .i64 (d:Int)) rfl hH ?_
 simp only [Act.put,zA,zB,zC,zD,zE,zF]
 refine takeA (i:=13) (v:= .int .i64 ((rd:Int)-1)) rfl hH ?_
 simp only [Act.put,zA,zB,zC,zD,zE,zF]
 refine takeA (i:=14) (v:= .int .i64 (rd:Int)) rfl hH ?_
 simp only [Act.put,zA,zB,zC,zD,zE,zF]
 refine takeA (i:=15) (v:= .int .i64 (Wn:Int)) rfl hH ?_
 simp only [Act.put,zA,zB,zC,zD,zE,zF]
 refine takeA (i:=16) (v:= .int .i64 (R:Int)) rfl hH ?_
 simp only [Act.put,zA,zB,zC,zD,zE,zF]
 refine lastG (by kernel_rfl) rfl (by kernel_rfl) (fun K hK=>?_)
 go_simp
 refine hK.out _ _ ?_
 clear hK K hH HX
 try simp only [Act.put,zA,zB,zC,zD,zE,zF]
 have uT:IntKind.i64.wrap ((Wn:Int)+(R:Int))=((Wn+R:Nat):Int):=by rw [<-Int.natCast_add];exact IntWalk.i64_in _ (by omega)
 obtain ⟨m,hm⟩: ∃m,18+N=m:=⟨_,rfl⟩
 have uM:IntKind.i64.wrap (18+(N:Int))=(m:Int):=by rw [show (18:Int)+(N:Int)=(m:Int) by omega];exact IntWalk.i64_in _ (by omega)
 obtain ⟨mz,hmz⟩: ∃mz,(List.replicate m (Value.int .u32 0)).toArray=mz:=⟨_,rfl⟩
 have HMZ:=Lib.hid (And.intro hm (And.intro hmz (show∀w:World,(Instr.makeSlice 27 (.int .i64 (m:Int)) (.int .i64 (m:Int))).run Tryz.prog w= .ok (.slice (some ⟨w.heap.size,0,none⟩) m m) (w.alloc (.cells mz 42)) from fun w=>by rw [<-hmz];exact makeW m (by omega) w)))
 clear hmz hm
 go_upto_region 4 with fail
 have hTb:=Blk.new W4 3 #[.int .i64 ((Wn:Int)+(R:Int))]
 have hX4:=hX3.alloc (.cells #[.int .i64 ((Wn:Int)+(R:Int))] 3)
 have hR4:=hR3.alloc (.cells #[.int .i64 ((Wn:Int)+(R:Int))] 3)
 have hO4:=hO3.alloc (.cells #[.int .i64 ((Wn:Int)+(R:Int))] 3)
 have hB4:=hB3.alloc (by have :=hB3.size;have :=hX3.lt;omega) (.cells #[.int .i64 ((Wn:Int)+(R:Int))] 3)
 have hlt4:=hO3.lt
 obtain ⟨tb,htb⟩: ∃x,W4.heap.size=x:=⟨_,rfl⟩
 rw [htb]at hTb hlt4
 try rw [htb]
 clear htb hX3 hR3 hO3 hB3
 generalize W4.alloc (.cells #[.int .i64 ((Wn:Int)+(R:Int))] 3)=W5 at hX4 hR4 hO4 hB4 hTb⊢
 go_cut [11] (fun v11 wx=> ∃pb mb,v11= .pointer (some ⟨pb,0,none⟩)/\Blk wx pb 29 #[.slice none 0 0,.slice (some ⟨mb,0,none⟩) m m,.int .i64 (rm:Int)]/\Blk wx mb 42 mz/\W5.heap.size<=pb/\W5.heap.size<=mb/\mb≠pb/\Below W5.heap.size W5 wx)
 case first=>
  have hmk:=HMZ.out.2.2
  refine startG (fun W'=>Below W5.drew.heap.size W5.drew W') 11 (by kernel_rfl) ?_
  have HX:=Lib.hid (And.intro hX4.drew hO4.drew)
  have HSZ:=Lib.hid (And.intro (show W5.drew.heap.size=W5.heap.size from rfl) (below_drewB W5))
  have hH:Below W5.drew.heap.size W5.drew W5.drew:=Below.refl _ _
  generalize W5.drew=W0 at HX HSZ hH⊢
  refine takeA (i:=0) (v:= .pointer (some ⟨cb,4,none⟩)) rfl hH ?_
  simp only [Act.put,zA,zB,zC,zD,zE,zF]
  refine takeB (i:=1) (v:= .int .u8 (e:Int)) rfl (Or.inl ⟨by rfl,fun W hW=>by have q0:=((HX.out.1.below hW HX.out.1.lt).cell 4).trans rfl;go_simp⟩) hH ?_
  simp only [Act.put,zA,zB,zC,zD,zE,zF]
  refine takeA (i:=2) (v:= .int .i64 (e:Int)) rfl hH ?_
  simp only [Act.put,zA,zB,zC,zD,zE,zF]
  refine takeA (i:=3) (v:= .int .i64 ((rm:Int)-1)) rfl hH ?_
  simp only [Act.put,zA,zB,zC,zD,zE,zF]
  refine takeA (i:=4) (v:= .int .i64 (rm:Int)) rfl hH ?_
  simp only [Act.put,zA,zB,zC,zD,zE,zF]
  refine takeA (i:=5) (v:= .pointer (some ⟨ob,1,none⟩)) rfl hH ?_
  simp only [Act.put,zA,zB,zC,zD,zE,zF]
  refine takeB (i:=6) (v:= .int .i64 (N:Int)) rfl (Or.inl ⟨by rfl,fun W hW=>by have q0:=((HX.out.2.below hW HX.out.2.lt).cell 1).trans rfl;go_simp⟩) hH ?_
  simp only [Act.put,zA,zB,zC,zD,zE,zF]
  refine takeA (i:=7) (v:= .int .i64 (m:Int)) rfl hH ?_
  simp only [Act.put,zA,zB,zC,zD,zE,zF]
  refine manyG (rs:=[8,10]) (by kernel_rfl) (by simp) (AllG.cons (i:=8) rfl (fun K hK=>?_) (AllG.cons (i:=10) rfl (fun K hK=>?_) AllG.nil))
  ·go_simp
   have m0:=Blk.new W0 42 mz
   have hA:=hH.alloc hH.size (Obj.cells mz 42)
   refine hK.out _ _ hA (fun _=>?_)
   clear hK K
   try simp only [Act.put,zA,zB,zC,zD,zE,zF]
   refine takeA (i:=9) (v:= .agg #[.slice none 0 0,.slice (some ⟨W0.heap.size,0,none⟩) m m,.int .i64 (rm:Int)]) rfl hA ?_
   simp only [Act.put,zA,zB,zC,zD,zE,zF]
   refine onlyG (i:=10) (by kernel_rfl) rfl (fun K hK=>?_)
   go_simp
   have p0:=Blk.new (W0.alloc (Obj.cells mz 42)) 29 #[.slice none 0 0,.slice none 0 0,.int .i64 0]
   have hA1:=hA.alloc hA.size (Obj.cells #[.slice none 0 0,.slice none 0 0,.int .i64 0] 29)
   have m1:=m0.alloc (Obj.cells #[.slice none 0 0,.slice none 0 0,.int .i64 0] 29)
   have hz:(W0.alloc (Obj.cells mz 42)).heap.size=W0.heap.size+1:=by simp
   rw [hz]at p0
   refine hK.out _ _ hA1 (fun _=>?_)
   clear hK K
   try simp only [Act.put,zA,zB,zC,zD,zE,zF]
   refine lastG (by kernel_rfl) rfl (by kernel_rfl) (fun K hK=>?_)
   refine step_store_row rfl 29 (.tmp 11) (.tmp 52) rfl _ rfl #[.slice none 0 0,.slice (some ⟨W0.heap.size,0,none⟩) m m,.int .i64 (rm:Int)] rfl 29 #[.slice none 0 0,.slice none 0 0,.int .i64 0] p0 rfl pg_info (by simp [Value.oneCell']) ?_
   intro W3 hb3 hg3
   refine hK.out _ _ ?_
   clear hK K
   have hm3:=m1.grown hg3 (fun e=>by have :=Option.some.inj e;omega)
   have hB3:=below_row hA1 hg3 hA1.size (by omega)
   go_wp2_with fail
   go_meet
   have hsz:=HSZ.out.1
   have h3z:=hm3.lt
   case rel=>exact ⟨_,_,rfl,hb3,hm3,by omega,by omega,by omega,step_belowN HSZ.out.2 hB3 HSZ.out.2.size⟩
  ·go_simp
   have p0:=Blk.new W0 29 #[.slice none 0 0,.slice none 0 0,.int .i64 0]
   have hA:=hH.alloc hH.size (Obj.cells #[.slice none 0 0,.slice none 0 0,.int .i64 0] 29)
   refine hK.out _ _ hA (fun _=>?_)
   clear hK K
   try simp only [Act.put,zA,zB,zC,zD,zE,zF]
   refine onlyG (i:=8) (by kernel_rfl) rfl (fun K hK=>?_)
   go_simp
   have m0:=Blk.new (W0.alloc (Obj.cells #[.slice none 0 0,.slice none 0 0,.int .i64 0] 29)) 42 mz
   have hA1:=hA.alloc hA.size (Obj.cells mz 42)
   have p1:=p0.alloc (Obj.cells mz 42)
   have hz:(W0.alloc (Obj.cells #[.slice none 0 0,.slice none 0 0,.int .i64 0] 29)).heap.size=W0.heap.size+1:=by simp
   rw [hz]at m0
   refine hK.out _ _ hA1 (fun _=>?_)
   clear hK K
   try simp only [Act.put,zA,zB,zC,zD,zE,zF]
   refine takeA (i:=9) (v:= .agg #[.slice none 0 0,.slice (some ⟨W0.heap.size+1,0,none⟩) m m,.int .i64 (rm:Int)]) rfl hA1 ?_
   simp only [Act.put,zA,zB,zC,zD,zE,zF]
   refine lastG (by kernel_rfl) rfl (by kernel_rfl) (fun K hK=>?_)
   refine step_store_row rfl 29 (.tmp 11) (.tmp 52) rfl _ rfl #[.slice none 0 0,.slice (some ⟨W0.heap.size+1,0,none⟩) m m,.int .i64 (rm:Int)] rfl 29 #[.slice none 0 0,.slice none 0 0,.int .i64 0] p1 rfl pg_info (by simp [Value.oneCell']) ?_
   intro W3 hb3 hg3
   refine hK.out _ _ ?_
   clear hK K
   have hm3:=m0.grown hg3 (fun e=>by have :=Option.some.inj e;omega)
   have hB3:=below_row hA1 hg3 hA1.size (by omega)
   go_wp2_with fail
   go_meet
   have hsz:=HSZ.out.1
   have h3z:=hm3.lt
   case rel=>exact ⟨_,_,rfl,hb3,hm3,by omega,by omega,by omega,step_belowN HSZ.out.2 hB3 HSZ.out.2.size⟩
 case rest=>
  obtain ⟨pb,mb,rfl,hP,hM,hpb,hmb,hne,hBd⟩:=hcut
  have hX6:=hX4.below hBd hX4.lt
  have hR6:=hR4.below hBd hR4.lt
  have hO6:=hO4.below hBd hO4.lt
  have hTb6:=hTb.below hBd hTb.lt
  have hB6:=step_belowN hB4 hBd (by have :=hB4.size;have :=hX4.lt;omega)
  have hor:cb<pb/\rb<pb/\ob<pb/\tb<pb:=by have h1:=hX4.lt;have h2:=hR4.lt;have h3:=hO4.lt;have h4:=hTb.lt;omega
  obtain ⟨W6,rfl⟩: ∃W6,W6=wc:=⟨_,rfl⟩
  clear hX4 hR4 hO4 hTb hB4 hpb hmb hBd
  clear tN uN sN rN tWn uWn sWn rWn tR uR sR rR trd urd srd rrd trm urm srm rrm uM
  have hOk:=Blk.new W6 4 #[.bool true]
  have a0:=hR6.alloc (.cells #[.bool true] 4)
  have a1:=hO6.alloc (.cells #[.bool true] 4)
  have a2:=hTb6.alloc (.cells #[.bool true] 4)
  have a3:=hP.alloc (.cells #[.bool true] 4)
  have a4:=hM.alloc (.cells #[.bool true] 4)
  have a5:=hB6.alloc (by have :=hB6.size;have :=hX6.lt;omega) (.cells #[.bool true] 4)
  have hor2:cb<W6.heap.size/\pb<W6.heap.size/\mb<W6.heap.size/\tb<W6.heap.size/\2<=W6.heap.size:=by have h1:=hX6.lt;have h2:=hP.lt;have h3:=hM.lt;have h4:=hTb6.lt;omega
  go_upto_region 6 with fail
  obtain ⟨okb,hokb⟩: ∃x,W6.heap.size=x:=⟨_,rfl⟩
  rw [hokb]at hOk hor2
  try rw [hokb]
  clear hX6 hR6 hO6 hTb6 hP hM hB6 hokb
  generalize W6.alloc (.cells #[.bool true] 4)=W7 at hOk a0 a1 a2 a3 a4 a5⊢
  have hTW:Tab W7:=by have h1:=HC.out;exact hT.step (by rw [h1];exact a5)
  have HF:=Lib.hid (And.intro a0 (And.intro a1 (And.intro a2 (And.intro a3 (And.intro a4 (And.intro a5 (And.intro hOk (And.intro hTW (And.intro hor (And.intro hor2 hne))))))))))
  have hk0:=Blk.new W7 3 #[.int .i64 (0:Int)]
  have hP0:=a3.alloc (.cells #[.int .i64 (0:Int)] 3)
  have HK0:=Lib.hid (And.intro hk0 hP0)
  clear a0 a1 a2 a3 a4 a5 hOk hTW hor hor2 hne hk0 hP0
  go_wp2_with fail
  go_loopw [13] (fun v13 wr=> ∃(k kb:Nat) (v:Value),k<=Wn+R/\v13= .pointer (some ⟨kb,0,none⟩)/\Blk wr kb 3 #[.int .i64 (k:Int)]/\W7.heap.size<=kb/\Blk wr pb 29 #[v,.slice (some ⟨mb,0,none⟩) m m,.int .i64 (rm:Int)]/\CdRow wr W7.heap.size v ((List.range k).map fun t=>sqL N t (decide (t<Wn)) (sqSn N rd (decide (t<Wn))))/\W7.grownBy wr (some pb)) (fun v13 wr=>Wn+R-intAt wr v13)
  case atStart=>exact ⟨0,W7.heap.size,.slice none 0 0,Nat.zero_le _,rfl,HK0.out.1,Nat.le_refl _,HK0.out.2,CdRow.nil _ _,grown_below ⟨rfl,rfl,rfl,Nat.le_refl _,fun _ _ _=>rfl⟩ ((Below.refl W7.heap.size W7).alloc (Nat.le_refl _) _)⟩
  case round=>
   obtain ⟨wo,rfl⟩: ∃wo:World,wo=wr:=⟨_,rfl⟩
   obtain ⟨k,kb,v,hk,rfl,hKb,hkb,hPk,hCk,hgk⟩:=hrel
   obtain ⟨hor,hor2,hne⟩:=HF.out.2.2.2.2.2.2.2.2
   have hOb:=HF.out.2.1.grown hgk (fun e=>by have :=Option.some.inj e;omega)
   have hTb:=HF.out.2.2.1.grown hgk (fun e=>by have :=Option.some.inj e;omega)
   have hOk:=HF.out.2.2.2.2.2.2.1.grown hgk (fun e=>by have :=Option.some.inj e;omega)
   have h2:2<=cb:=by have h1:=HC.out;have h3:=hT.1;omega
   have hTo:Tab wo:=HF.out.2.2.2.2.2.2.2.1.below (below_of_grown (N:=cb) (by have :=HF.out.2.2.1.lt;omega) hgk (fun g e=>by have :=Option.some.inj e;omega)) h2
   have x0:=(hKb.cell 0).trans rfl
   have x1:=(hTb.cell 0).trans rfl
   have hlt7:=HF.out.2.2.2.2.2.2.1.lt
   by_cases hlt:k<Wn+R
   case neg=>
    have hlt': ¬(k:Int)<(Wn:Int)+(R:Int):=by omega
    have hRb:=HF.out.1.grown hgk (fun e=>by have :=Option.some.inj e;omega)
    have hB7:=HF.out.2.2.2.2.2.1
    have hMk:=HF.out.2.2.2.2.1.grown hgk (fun e=>hne (Option.some.inj e))
    have hke:k=Wn+R:=by omega
    rw [hke]at hCk
    obtain ⟨vA,vc,hve⟩:=hCk.cap
    obtain ⟨vl,hvl⟩: ∃vl,((List.range (Wn+R)).map fun t=>sqL N t (decide (t<Wn)) (sqSn N rd (decide (t<Wn)))).length=vl:=⟨_,rfl⟩
    rw [hvl]at hve
    clear hvl
    subst hve
    go_upto_region 30 with fail
    refine startG (fun W'=>wo.drew.grownBy W' (some rb)) 8 (by kernel_rfl) ?_
    have HX:=Lib.hid (And.intro hPk.drew (And.intro hOb.drew (And.intro hOk.drew (show some pb≠some rb/\some ob≠some rb/\some okb≠some rb from ⟨fun e=>by have :=Option.some.inj e;omega,fun e=>by have :=Option.some.inj e;omega,fun e=>by have :=Option.some.inj e;omega⟩))))
    have HY:=Lib.hid (And.intro hCk (And.intro hMk (And.intro hgk (And.intro hB7 (And.intro hne (And.intro hor hor2))))))
    have hRd:=hRb.drew
    have hg0:wo.drew.grownBy wo.drew (some rb):=World.grownBy.refl _ _
    have HW:=Lib.hid (show wo.drew.heap.size=wo.heap.size/\Below wo.heap.size wo wo.drew from ⟨rfl,below_drewB wo⟩)
    clear hCk hMk hgk hB7 hne hor hor2 hOb hTb hOk hPk hRb x0 x1 hKb hTo hkb
    generalize wo.drew=w1 at HX hRd hg0 HW⊢
    have hP1:=HX.out.1
    have HM:=Lib.hid hord
    clear hord
    refine takeB (i:=0) (v:= .agg #[.slice vA vl vc,.slice (some ⟨mb,0,none⟩) m m,.int .i64 (rm:Int)]) rfl (yields_row (by rfl) 29 (.tmp 11) rfl pb rfl #[.slice vA vl vc,.slice (some ⟨mb,0,none⟩) m m,.int .i64 (rm:Int)] (fun _ hS=>run_row _ _ _ _ _ _ (HX.out.1.grown hS HX.out.2.2.2.1) Tryz.underlying29 rfl pg_info)) hg0 ?_
    simp only [Act.put,zA,zB,zC,zD,zE,zF]
    refine takeA (i:=1) (v:= .int .i64 (Wn:Int)) rfl hg0 ?_
    simp only [Act.put,zA,zB,zC,zD,zE,zF]
    refine takeA (i:=2) (v:= .pointer (some ⟨ob,1,none⟩)) rfl hg0 ?_
    simp only [Act.put,zA,zB,zC,zD,zE,zF]
    refine takeB (i:=3) (v:= .int .i64 (N:Int)) rfl (Or.inl ⟨by rfl,fun W hW=>by have q0:=((HX.out.2.1.grown hW HX.out.2.2.2.2.1).cell 1).trans rfl;go_simp⟩) hg0 ?_
    simp only [Act.put,zA,zB,zC,zD,zE,zF]
    refine takeB (i:=4) (v:= .bool true) rfl (Or.inl ⟨by rfl,fun W hW=>by have q0:=((HX.out.2.2.1.grown hW HX.out.2.2.2.2.2).cell 0).trans rfl;go_simp⟩) hg0 ?_
    simp only [Act.put,zA,zB,zC,zD,zE,zF]
    refine onlyG (i:=5) (by kernel_rfl) rfl (fun K hK=>?_)
    refine step_store_row rfl 29 (.tmp 2) (.tmp 107) rfl rb rfl #[.slice vA vl vc,.slice (some ⟨mb,0,none⟩) m m,.int .i64 (rm:Int)] rfl 29 #[.slice none 0 0,.slice none 0 0,.int .i64 0] hRd rfl pg_info (by simp [Value.oneCell']) ?_
    intro w3 hb3 hg3
    refine hK.out _ _ hg3 (fun _=>?_)
    clear hK K
    try simp only [Act.put,zA,zB,zC,zD,zE,zF]
    refine takeA (i:=6) (v:= .int .i64 (Wn:Int)) rfl hg3 ?_
    simp only [Act.put,zA,zB,zC,zD,zE,zF]
    refine takeA (i:=7) (v:= .int .i64 (N:Int)) rfl hg3 ?_
    simp only [Act.put,zA,zB,zC,zD,zE,zF]
    refine lastG (by kernel_rfl) rfl (by kernel_rfl) (fun K hK=>?_)
    go_simp
    refine hK.out _ _ ?_
    clear hK K
    try simp only [Act.put,zA,zB,zC,zD,zE,zF]
    have HZ:=Lib.hid (And.intro hb3 (And.intro hg3 hRd))
    clear hb3 hg3 hRd hP1
    go_wp2_with fail
    refine bodyPost_ret (results_row3 rfl _ _ _ _ rfl (run_row _ _ _ _ _ _ HZ.out.1 Tryz.underlying29 rfl pg_info)) rfl ?_
    obtain ⟨hm1,hm2,_⟩:=HMZ.out
    obtain ⟨hCk,hMk,hgk,hB7,hne,hor,hor2⟩:=HY.out
    obtain ⟨hb3,hg3,hRd⟩:=HZ.out
    obtain ⟨hwz,hwd⟩:=HW.out
    have hcw:=HC.out
    have hpl:cb<pb/\cb<W7.heap.size:=by omega
    have B0:Below cb w wo:=hB7.trans (below_of_grown (N:=cb) (by omega) hgk (fun g e=>by have :=Option.some.inj e;omega))
    have hM1:=hMk.below hwd hMk.lt
    have hC1:=hCk.below hwd
    have B1:Below cb w w1:=B0.trans (hwd.mono (by have :=hgk.size;omega))
    have B3:Below cb w w3:=B1.trans (below_of_grown (N:=cb) (by have :=hgk.size;omega) hg3 (fun g e=>by have :=Option.some.inj e;have :=HM.out.1;omega))
    have hM3:=hM1.grown hg3 (fun e=>blk_apart hM1 hRd (by decide) (Option.some.inj e))
    refine ⟨_,mb,W7.heap.size,by rw [hm1];rfl,by rw [hcw];exact B3,hC1.far hRd (by decide) (by decide) hg3,fun _=>⟨mb,0,rfl,hM3.lt,fun i hi=>?_⟩⟩
    rw [Nat.zero_add,hM3.cell,<-hm2]
    simp only [List.getElem?_toArray,List.getElem?_replicate]
    rw [if_pos (by omega)]
   case pos=>
    have hlt':(k:Int)<(Wn:Int)+(R:Int):=by omega
    have hmf: ∀(fn:Fn) (first cap:Array Value) (w:World),(Instr.makeFunc fn first cap).run Tryz.prog w= .ok (.func fn first cap) w:=fun _ _ _ _=>rfl
    have hA0:=AX.start wo hOk (by omega) hTo
    obtain ⟨isW,hisW⟩: ∃x,x=decide (k<Wn):=⟨_,rfl⟩
    have HL:=Lib.hid (And.intro hOb (And.intro hTb (And.intro hOk (And.intro hKb (And.intro hPk (And.intro hCk (And.intro hgk (And.intro hkb (And.intro hor (And.intro hor2 (And.intro hne hlt7)))))))))))
    have HA0:=Lib.hid hA0
    clear hOb hTb hOk hPk hCk hgk hA0 hor hor2 hne hkb
    go_wp2_with fail
    go_loopw [16] (fun v16 wq=> ∃(j n c:Nat) (A:Option Addr),j<=rd/\v16= .int .i64 (j:Int)/\AX wo wq okb (.slice A n c) A n c (sqL N k isW (sqSn N j isW))) (fun v16 _=>rd-(intOf v16).toNat)
    case atStart=>exact ⟨0,0,0,none,Nat.zero_le _,rfl,by rw [sqSn_zero,sqL_zero];exact HA0.out⟩
    case round=>
     obtain ⟨j,n,c,A,hj,rfl,hAX⟩:=hrel
     by_cases hjl:j<rd
     case neg=>
      have hje:j=rd:=by omega
      have hjl': ¬(j:Int)<(rd:Int):=by omega
      rw [hje]at hAX
      obtain ⟨hOb,hTb,hOk,hKb,hPk,hCk,hgk,hkb,hor,hor2,hne,hlt7⟩:=HL.out
      have hal:=hAX.all hOk
      have hC:=hAX.cw hOk
      have hPr:=hPk.below hal hPk.lt
      have hKr:=hKb.below hal hKb.lt
      have hcd:=hCk.below hal
      obtain ⟨vA,vc,hve⟩:=hcd.cap
      rw [List.length_map,List.length_range]at hve
      subst hve
      have q0:=(hPr.cell 0).trans rfl
      have b0:=(hAX.box.cell 0).trans rfl
      have hb0:W7.heap.size<=wo.heap.size:=hgk.size
      have hg:=grown_below hgk hal
      have hkp:kb≠pb:=by omega
      have hpl:pb<W7.heap.size:=by omega
      have hk4:k<=4:=by omega
      have HQ:=Lib.hid (And.intro hPr (And.intro hg (And.intro hKr (And.intro hkp (And.intro hKb (And.intro hpl hkb))))))
      clear hOb hTb hOk hKb hPk hCk hgk hor hor2 hne hlt7 hal hPr hKr hg hkp hpl hkb hAX
      go_wp2_with (at_builtin;refine CdRow.app hcd (by simp) hC hb0 rfl (.tmp 101) (.tmp 103) rfl rfl rfl (by omega) ?_;intro A' c' w' hcd' hkeep hgr;have hP6:=hkeep pb _ _ HQ.out.1 (by decide);have hK6:=hkeep kb _ _ HQ.out.2.2.1 (by decide);have hg6:=hgr _ _ rfl HQ.out.2.1;have p0:=(hP6.cell 0).trans rfl;have pf:=hP6.frozen 0;have k0:=((hK6.far (p:=⟨pb,0,none⟩) HQ.out.2.2.2.1 (.slice A' (k+1) c')).cell 0).trans rfl;have HQ6:=Lib.hid (And.intro hcd' (And.intro hP6 hg6));clear hcd hC hcd' hkeep hgr hP6 hK6 hg6)
      go_roundw
      case rel=>
       obtain ⟨hcd6,hP6,hg6⟩:=HQ6.out
       have hset:w'.grownBy (w'.setCell ⟨pb,0,none⟩ (.slice A' (k+1) c')) (some pb):=set_only _
       have hP7:=hP6.set_ 0 (.slice A' (k+1) c')
       have hcd7:=hcd6.far hP6 (by decide) (by decide) hset
       have hg7:=grown_row hg6 hset (fun g e=> .inr e)
       have hsz:(w'.setCell ⟨pb,0,none⟩ (.slice A' (k+1) c')).heap.size=w'.heap.size:=by simp
       have hal:=(Below.refl _ (w'.setCell ⟨pb,0,none⟩ (.slice A' (k+1) c'))).alloc (Nat.le_refl _) (.cells #[.int .i64 ((k:Int)+1)] 3)
       have hnew:=Blk.new (w'.setCell ⟨pb,0,none⟩ (.slice A' (k+1) c')) 3 #[.int .i64 ((k:Int)+1)]
       rw [hsz]at hnew
       have e:(List.range (k+1)).map (fun t=>sqL N t (decide (t<Wn)) (sqSn N rd (decide (t<Wn))))=(List.range k).map (fun t=>sqL N t (decide (t<Wn)) (sqSn N rd (decide (t<Wn))))++[sqL N k isW (sqSn N rd isW)]:=by
        rw [List.range_succ,List.map_append,hisW];rfl
       refine ⟨k+1,w'.heap.size,.slice A' (k+1) c',by omega,rfl,hnew,hg6.size,hP7.alloc _,?_,grown_below hg7 hal⟩
       rw [e]
       exact hcd7.below hal
      case measure=>
       have hsz:(w'.setCell ⟨pb,0,none⟩ (.slice A' (k+1) c')).heap.size=w'.heap.size:=by simp
       have hnew:=Blk.new (w'.setCell ⟨pb,0,none⟩ (.slice A' (k+1) c')) 3 #[.int .i64 ((k:Int)+1)]
       rw [hsz]at hnew
       rw [intAt_of (k:=k+1) hnew,intAt_of HQ.out.2.2.2.2.1]
       omega
     case pos=>
      have hjl':(j:Int)<(rd:Int):=by omega
      have y0:=((hAX.old HL.out.2.2.2.1 (by have h1:=HL.out.2.2.2.2.2.2.2.1;have h2:=HL.out.2.2.2.2.2.2.2.2.2.2.2;omega)).cell 0).trans rfl
      by_cases hkW:k<Wn
      case pos=>
       have hkW': ¬(Wn:Int)<=(k:Int):=by omega
       have eW:isW=true:=by rw [hisW];exact decide_eq_true hkW
       clear hisW
       subst eW
       have hne1:ob≠okb/\tb≠okb/\kb≠okb:=by have h1:=HL.out.2.2.2.2.2.2.2.1;have h2:=HL.out.2.2.2.2.2.2.2.2.1;have h3:=HL.out.2.2.2.2.2.2.2.2.2.1;have h4:=HL.out.2.2.2.2.2.2.2.2.2.2.2;omega
       have hsn:sqSn N j true=j*(N+2):=rfl
       have hj24:j*(N+2)<=10:=by have :=Nat.mul_le_mul (show j<=2 by omega) (show N+2<=5 by omega);omega
       rw [hsn]at hAX
       have cA:=seqAcq_any N k ((Wn:Int)+(R:Int)) wo wr okb ob tb kb A n c _ bN (by omega) (by omega) hAX (by have :=sqL_small N k true (n:=j*(N+2)) (by omega);omega) HL.out.1 HL.out.2.1 HL.out.2.2.2.1 hne1.1 hne1.2.1 hne1.2.2
       clear hsn
       go_wp2_with fail
       with_reducible refine cA.mono ?_
       rintro ed Wa ⟨⟨u,rfl⟩,A1,M1,c1,hM1,hAX1⟩
       clear cA hAX y0
       have z0:=(hAX1.box.cell 0).trans rfl
       have hLn:=sqL_small N k true (n:=j*(N+2)) (by omega)
       have hnL:=hAX1.n
       have hM9:M1<=1000:=by rw [hnL];unfold callL;rw [List.length_append,List.length_cons,List.length_append,List.length_map,(acq_ok k (by omega)).1];simp only [List.length_cons,List.length_nil];omega
       clear hLn hnL hM1
       go_wp2_with (at_builtin;refine hAX1.app3 ⟨16,0,8,0,18⟩ ⟨1,1,0,0,1⟩ ⟨3,0,0,1,0⟩ (M1+3) Wa.heap.size rfl rfl rfl (.tmp 82) (.tmp 86) rfl rfl rfl (by omega) ?_;intro A2 c2 Wb hAX2;have y1:=(hAX2.box.cell 0).trans rfl;have y2:=hAX2.box.frozen 0;clear z0 hAX1)
       have hAX3:=hAX2.set (.slice A2 (M1+3) c2)
       clear hAX2 y1 y2
       generalize Wb.setCell ⟨wo.heap.size,0,none⟩ (.slice A2 (M1+3) c2)=Wc at hAX3⊢
       rw [List.append_assoc,<-sqW_acq (by omega)]at hAX3
       have HAX3:=Lib.hid hAX3
       clear hAX3
       go_wp2_with fail
       go_loopw [18] (fun v18 wp=> ∃(i n c:Nat) (A:Option Addr),i<=N/\v18= .int .i64 (i:Int)/\AX wo wp okb (.slice A n c) A n c (sqL N k true (j*(N+2)+1+i))) (fun v18 _=>N-(intOf v18).toNat)
       case atStart=>exact ⟨0,M1+3,c2,A2,Nat.zero_le _,rfl,HAX3.out⟩
       case round=>
        obtain ⟨wp,rfl⟩: ∃wp:World,wp=wr:=⟨_,rfl⟩
        obtain ⟨i,n,c,A,hi,rfl,hAX⟩:=hrel
        by_cases hil:i<N
        case neg=>
         obtain rfl:N=i:=by omega
         have hil': ¬(N:Int)<(N:Int):=by omega
         have z0:=((hAX.old HL.out.1 hne1.1).cell 1).trans rfl
         have hLs:=sqL_small N k true (n:=j*(N+2)+1+N) (by omega)
         have cR:=seqRel_any N k ((Wn:Int)+(R:Int)) wo wp okb ob tb kb A n c _ bN (by omega) (by omega) hAX (by omega) HL.out.1 HL.out.2.1 HL.out.2.2.2.1 hne1.1 hne1.2.1 hne1.2.2
         rw [<-sqW_rel bN.1 (by omega)]at cR
         clear hLs
         go_wp2_with fail
         with_reducible refine cR.mono ?_
         rintro ed We ⟨⟨u2,rfl⟩,A3,M3,c3,hM3,hAX4⟩
         clear cR hAX z0 hM3
         go_wp2_with fail
         go_roundw
         case rel=>exact ⟨j+1,M3,c3,A3,by omega,by go_num,hAX4⟩
         case measure=>simp [intOf];omega
        case pos=>
         have hil':(i:Int)<(N:Int):=by omega
         have z0:=((hAX.old HL.out.1 hne1.1).cell 1).trans rfl
         have hj24b:j*(N+2)+1+i<=24:=by omega
         have hLs:=sqL_small N k true hj24b
         have cP:=seqPut_any N k i ((Wn:Int)+(R:Int)) wo wp okb ob tb kb A n c _ bN hil (by omega) (by omega) hAX (by omega) HL.out.1 HL.out.2.1 HL.out.2.2.2.1 hne1.1 hne1.2.1 hne1.2.2
         rw [<-sqW_put (by omega) (by omega) hil]at cP
         clear hLs
         go_wp2_with fail
         with_reducible refine cP.mono ?_
         rintro ed We ⟨⟨u2,rfl⟩,A3,M3,c3,hM3,hAX4⟩
         clear cP hAX z0 hM3
         go_wp2_with fail
         go_roundw
         case rel=>exact ⟨i+1,M3,c3,A3,by omega,by go_num,hAX4⟩
         case measure=>simp [intOf];omega
      case neg=>
       have hkW':(Wn:Int)<=(k:Int):=by omega
       have eW:isW=false:=by rw [hisW];exact decide_eq_false hkW
       clear hisW
       subst eW
       have hne1:ob≠okb/\tb≠okb/\kb≠okb:=by have h1:=HL.out.2.2.2.2.2.2.2.1;have h2:=HL.out.2.2.2.2.2.2.2.2.1;have h3:=HL.out.2.2.2.2.2.2.2.2.2.1;have h4:=HL.out.2.2.2.2.2.2.2.2.2.2.2;omega
       have hsn:sqSn N j false=j*(2*N+2):=rfl
       have hj24:j*(2*N+2)<=16:=by have :=Nat.mul_le_mul (show j<=2 by omega) (show 2*N+2<=8 by omega);omega
       rw [hsn]at hAX
       have cA:=seqRead_any N k ((Wn:Int)+(R:Int)) wo wr okb ob tb kb A n c _ bN (by omega) (by omega) hAX (by have :=sqL_small N k false (n:=j*(2*N+2)) (by omega);omega) HL.out.1 HL.out.2.1 HL.out.2.2.2.1 hne1.1 hne1.2.1 hne1.2.2
       rw [<-sqR_read bN (by omega)]at cA
       clear hsn
       go_wp2_with fail
       with_reducible refine cA.mono ?_
       rintro ed Wa ⟨⟨u,rfl⟩,A1,M1,c1,hM1,hAX1⟩
       clear cA hAX y0 hM1
       have HAX1:=Lib.hid hAX1
       clear hAX1
       go_wp2_with fail
       go_loopw [17] (fun v17 wp=> ∃(i n c:Nat) (A:Option Addr),i<=N/\v17= .int .i64 (i:Int)/\AX wo wp okb (.slice A n c) A n c (sqL N k false (j*(2*N+2)+(N+2+i)))) (fun v17 _=>N-(intOf v17).toNat)
       case atStart=>exact ⟨0,M1,c1,A1,Nat.zero_le _,rfl,HAX1.out⟩
       case round=>
        obtain ⟨wp,rfl⟩: ∃wp:World,wp=wr:=⟨_,rfl⟩
        obtain ⟨i,n,c,A,hi,rfl,hAX⟩:=hrel
        by_cases hil:i<N
        case neg=>
         obtain rfl:N=i:=by omega
         have hil': ¬(N:Int)<(N:Int):=by omega
         have z0:=((hAX.old HL.out.1 hne1.1).cell 1).trans rfl
         rw [show j*(2*N+2)+(N+2+N)=(j+1)*(2*N+2) by rw [show (j+1)*(2*N+2)=j*(2*N+2)+(2*N+2) from Nat.succ_mul _ _];generalize j*(2*N+2)=z;omega]at hAX
         have HAX:=Lib.hid hAX
         clear hAX
         go_wp2_with fail
         go_roundw
         case rel=>exact ⟨j+1,n,c,A,by omega,by go_num,HAX.out⟩
         case measure=>simp [intOf];omega
        case pos=>
         have hil':(i:Int)<(N:Int):=by omega
         have z0:=((hAX.old HL.out.1 hne1.1).cell 1).trans rfl
         have z1:=(hAX.box.cell 0).trans rfl
         have hn9:n<=1000:=by have h1:=hAX.n;have h2:=sqL_small N k false (n:=j*(2*N+2)+(N+2+i)) (by omega);omega
         go_wp2_with (at_builtin;refine hAX.app1 ⟨22,(i:Int),0,0,0⟩ (n+1) wp.heap.size rfl rfl rfl (.tmp 75) (.tmp 78) rfl rfl rfl (by omega) ?_;intro A2 c2 Wb hAX2 _;have y1:=(hAX2.box.cell 0).trans rfl;have y2:=hAX2.box.frozen 0;clear z1 hAX)
         have hAX3:=hAX2.set (.slice A2 (n+1) c2)
         clear hAX2 y1 y2 z0
         generalize Wb.setCell ⟨wo.heap.size,0,none⟩ (.slice A2 (n+1) c2)=Wc at hAX3⊢
         rw [<-sqR_out hil]at hAX3
         have HAX3:=Lib.hid hAX3
         clear hAX3
         go_wp2_with fail
         go_roundw
         case rel=>exact ⟨i+1,n+1,c2,A2,by omega,by go_num,HAX3.out⟩
         case measure=>simp [intOf];omega
end Go.Proofs.YtmhfpjnkjlhbpaaGreatDoor
