/- GateMeets: the law. Structs of bytes, opened at once. -/
import Derived.Test.YtmhfpjnkjlhbpaaGreatDoorQi35
import Derived.Test.YtmhfpjnkjlhbpaaGreatDoorQi38
import Derived.Deep.DeepMust
import Derived.Test.YtmhfpjnkjlhbpaaGreatDoorQi02
import Derived.Lib.SmallJoins
namespace Go.Proofs.YtmhfpjnkjlhbpaaGreatDoor
open Go.ChangeShapes Go.WideShapes Go.ChangeAt Go.RowKit Go.Deep
set_option linter.unusedVariables false
set_option maxRecDepth 100000
set_option linter.unusedSimpArgs false
open List renaming setIfInBounds_toArray->zD
theorem meet_info:(Tryz.prog.info? 91).map (·.size)=some 4:=by kernel_rfl
def cntU (C:List Cl) (i u:Nat):Nat:=((C.take i).filter fun c=>c.who==(u:Int)).length
theorem cntU_succ (C:List Cl) (i u:Nat) (hi:i<C.length):cntU C (i+1) u=cntU C i u+(if (C.getD i default).who=(u:Int)then 1 else 0):=by
 unfold cntU
 rw [List.take_succ_eq_append_getElem hi,List.filter_append,List.length_append,show C.getD i default=C[i] by rw [List.getD_eq_getElem?_getD,List.getElem?_eq_getElem hi];rfl]
 by_cases h:C[i].who=(u:Int)
 ·rw [if_pos h,List.filter_cons_of_pos (by simp [h])];rfl
 ·rw [if_neg h,List.filter_cons_of_neg (by simpa using h)];rfl
theorem cntU_le (C:List Cl) (i u:Nat):cntU C i u<=i:=by
 unfold cntU
 exact Nat.le_trans (List.length_filter_le _ _) (by rw [List.length_take];exact Nat.min_le_left _ _)
theorem phs_cntU (C:List Cl) (i u:Nat) (h:(C.getD i default).who=(u:Int)):phs C i=cntU C i u:=by
 unfold phs cntU;rw [h]
def cntA (C:List Cl) (i:Nat):Array Value:=((List.range 8).map fun u=>Value.int .i64 (cntU C i u:Int)).toArray
theorem cntA_at (C:List Cl) (i u:Nat) (hu:u<8):(cntA C i)[u]?=some (.int .i64 (cntU C i u:Int)):=by
 unfold cntA
 rw [List.getElem?_toArray,List.getElem?_map,List.getElem?_range hu];rfl
theorem cntA_set (C:List Cl) (i u:Nat) (hi:i<C.length) (hu:u<8) (h:(C.getD i default).who=(u:Int)):(cntA C i).setIfInBounds u (.int .i64 ((cntU C i u:Int)+1))=cntA C (i+1):=by
 unfold cntA
 rw [zD]
 congr 1
 refine List.ext_getElem? fun j=>?_
 rw [List.getElem?_set,List.getElem?_map,List.getElem?_map]
 by_cases c:u=j
 ·subst c
  rw [if_pos rfl,if_pos (by simpa using hu),List.getElem?_range hu]
  show some (Value.int .i64 ((cntU C i u:Int)+1))=some (Value.int .i64 (cntU C (i+1) u:Int))
  rw [cntU_succ C i u hi,if_pos h];rfl
 ·rw [if_neg c]
  rcases Nat.lt_or_ge j 8 with z|z
  ·rw [List.getElem?_range z]
   show some (Value.int .i64 (cntU C i j:Int))=some (Value.int .i64 (cntU C (i+1) j:Int))
   rw [cntU_succ C i j hi,if_neg (fun e=>c (by omega))];rfl
  ·rw [List.getElem?_eq_none (by simpa using z)];rfl
theorem cntA_zero (C:List Cl):cntA C 0= #[.int .i64 0,.int .i64 0,.int .i64 0,.int .i64 0,.int .i64 0,.int .i64 0,.int .i64 0,.int .i64 0]:=by
 unfold cntA cntU
 simp [List.range_succ]
theorem hitN_succ (C:List Cl) (i k:Nat):hitN C i (k+1)=hitN C i k+(if phs C k=phs C i/\(C.getD k default).began<(C.getD i default).ended then 1 else 0):=by
 unfold hitN
 rw [cF_succ]
 by_cases h:phs C k=phs C i/\(C.getD k default).began<(C.getD i default).ended
 ·rw [if_pos h,if_pos (by rw [Bool.and_eq_true,beq_iff_eq,decide_eq_true_eq];exact h)]
 ·rw [if_neg h,if_neg (by rw [Bool.and_eq_true,beq_iff_eq,decide_eq_true_eq];exact h)]
set_option maxHeartbeats 40000000 in
theorem gateMeets_true (a b c d:Nat) (h255:a<=255/\b<=255/\c<=255/\d<=255) (sA:Option Addr) (sn scap:Nat) (Y:Nat->Int) (hsn:sn<=scap) (hsm:scap<=maxLen) (hy: ∀i,i<sn->0<=Y i/\Y i<=255)
 (w:World) (hT:Tab w) (hO:ONam w) (hss:Sl w sA sn (fun i=> .int .u8 (Y i))):
 Calls Tryz.prog 11 #[.agg #[.int .u8 (a:Int),.int .u8 (b:Int),.int .u8 (c:Int),.int .u8 (d:Int)],.slice sA sn scap] w fun ed w'=>ed= .returned (.bool true)/\Below w.heap.size w w':=by
 have hal:=(Below.refl w.heap.size w).alloc (Nat.le_refl _) (.cells #[.int .u8 (a:Int),.int .u8 (b:Int),.int .u8 (c:Int),.int .u8 (d:Int)] 91)
 have cA:=awake21_any _ (hT.step hal) (hO.step hal)
 have hX:=Blk.new w 91 #[.int .u8 (a:Int),.int .u8 (b:Int),.int .u8 (c:Int),.int .u8 (d:Int)]
 have HI:=Lib.hid (And.intro hT (And.intro hO (And.intro hss (And.intro hy (And.intro hsn (And.intro hsm h255))))))
 have HW:=Lib.hid (And.intro hX (And.intro hal (And.intro (hT.step hal) (hO.step hal))))
 clear hX hal hT hO hss hy hsn hsm h255
 obtain ⟨xb,hxb⟩: ∃xb,w.heap.size=xb:=⟨_,rfl⟩
 have HX0:=Lib.hid hxb.symm
 generalize hW1:w.alloc (.cells #[.int .u8 (a:Int),.int .u8 (b:Int),.int .u8 (c:Int),.int .u8 (d:Int)] 91)=W1 at cA HW
 rw [hxb]at HW
 go_enter Tryz.func11,Tryz.ntmps11
 go_wp2_with fail
 try rw [hW1]
 try rw [hxb]
 by_cases h3000:sn<=3000
 case neg=>
  have h3:((3000:Int)<(sn:Int)):=by omega
  with_reducible refine cA.mono ?_
  rintro ed Wa ⟨rfl,hB⟩
  have cA2:=awake21_any Wa (HW.out.2.2.1.step hB) (HW.out.2.2.2.step hB)
  have HB:=Lib.hid hB
  clear cA hB
  go_wp2_with fail
  with_reducible refine cA2.mono ?_
  rintro ed Wb ⟨rfl,hB2⟩
  clear cA2
  go_wp2
  go_ret
  rw [hxb]
  exact ⟨rfl,(HW.out.2.1.trans (HB.out.mono (by have :=HW.out.2.1.size;omega))).trans (hB2.mono (by have :=HW.out.2.1.size;have :=HB.out.size;omega))⟩
 case pos=>
  have h3: ¬((3000:Int)<(sn:Int)):=by omega
  with_reducible refine cA.mono ?_
  rintro ed Wa ⟨rfl,hB⟩
  clear cA hW1
  have hX:=HW.out.1.below hB HW.out.1.lt
  have hBa:Below xb w Wa:=HW.out.2.1.trans (hB.mono (by have :=HW.out.2.1.size;omega))
  have cM:=meetMk_any a b c d HI.out.2.2.2.2.2.2 Wa (HW.out.2.2.1.step hB) (HW.out.2.2.2.step hB)
  obtain ⟨th,hth⟩: ∃x,1+a % 4=x:=⟨_,rfl⟩
  rw [hth]at cM
  obtain ⟨N,hN⟩: ∃x,1+b % th=x:=⟨_,rfl⟩
  obtain ⟨rd,hrd⟩: ∃x,1+c % 4=x:=⟨_,rfl⟩
  obtain ⟨rm,hrm⟩: ∃x,1+d % 4=x:=⟨_,rfl⟩
  rw [hN,hrd,hrm]at cM
  have bth:1<=th/\th<=4:=by omega
  have bN:1<=N/\N<=th:=by have :=Nat.mod_lt b (show 0<th by omega);omega
  have brd:1<=rd/\rd<=4:=by omega
  have brm:1<=rm/\rm<=4:=by omega
  clear hth hN hrd hrm
  have hxl:=hX.lt
  have HXa:=Lib.hid (And.intro hX hBa)
  clear hX hBa hB
  go_wp2_with (refine wpList_load_row rfl 91 (.tmp 2) rfl xb rfl 91 #[.int .u8 (a:Int),.int .u8 (b:Int),.int .u8 (c:Int),.int .u8 (d:Int)] _ _ HXa.out.1 Tryz.underlying91 rfl meet_info ?_)
  with_reducible refine cM.mono ?_
  rintro ed Wb ⟨v,mA,mc,base,rfl,hm1,hm2,hBb,hCk,hSl⟩
  clear cM
  obtain ⟨vA,vc,hve⟩:=hCk.cap
  rw [List.length_map,List.length_range]at hve
  subst hve
  have halb:=(Below.refl Wb.heap.size Wb).alloc (Nat.le_refl _) (.cells #[.slice vA th vc,.slice mA 18 mc,.int .i64 (rm:Int)] 29)
  have hPb:=Blk.new Wb 29 #[.slice vA th vc,.slice mA 18 mc,.int .i64 (rm:Int)]
  have hCp:=hCk.below halb
  have hSp:=hSl.step halb
  have hXp:=(HXa.out.1.below hBb HXa.out.1.lt).below halb (by have :=(HXa.out.1.below hBb HXa.out.1.lt).lt;exact this)
  have hBp:Below xb w (Wb.alloc (.cells #[.slice vA th vc,.slice mA 18 mc,.int .i64 (rm:Int)] 29)):=(HXa.out.2.trans (hBb.mono (by have :=HXa.out.2.size;have :=HX0.out;omega))).trans (halb.mono (by have :=HXa.out.2.size;have :=HX0.out;have :=hBb.size;omega))
  obtain ⟨pb,hpb⟩: ∃pb,Wb.heap.size=pb:=⟨_,rfl⟩
  rw [hpb]at hPb
  have hpx:pb≠xb:=by have :=(HXa.out.1.below hBb HXa.out.1.lt).lt;omega
  clear hCk hSl halb hBb
  generalize hWp:Wb.alloc (.cells #[.slice vA th vc,.slice mA 18 mc,.int .i64 (rm:Int)] 29)=Wp at hPb hCp hSp hXp hBp
  have hL: ∀l∈(List.range th).map (fun t=>meetC N rd t),∃t,t<th/\l=meetC N rd t:=fun l hl=>by
   obtain ⟨t,h1,h2⟩:=List.mem_map.1 hl
   exact ⟨t,List.mem_range.1 h1,h2.symm⟩
  have hgd:=fun t=>meetC_good N rd t (by omega) brd.2
  obtain ⟨vA',vc',cds,hv',pO,pC,pA,pcd⟩:=hCp.prog (fun l hl x hx=>by obtain ⟨t,h1,rfl⟩:=hL l hl;exact (hgd t).1 x hx) (fun l hl x hx=>by obtain ⟨t,h1,rfl⟩:=hL l hl;exact (hgd t).2.1 x hx)
   (fun l hl=>by obtain ⟨t,h1,rfl⟩:=hL l hl;exact (hgd t).2.2) (by rw [List.length_map,List.length_range];omega) (room:=(rm:Int)) (by omega) (mA:=mA) (m:=18) (mcap:=mc) (by decide) ⟨hm1,hm2⟩ hSp
  rw [List.length_map,List.length_range]at hv' pO pC pA pcd
  injection hv' with e1 _ e2
  subst e1 e2
  obtain ⟨pg,hpg⟩: ∃pg,lPg vA th vc cds mA 18 mc (rm:Int)=pg:=⟨_,rfl⟩
  have cN:=tsoNew_ok pg (hpg▸pO) 0 0 (hpg▸pC) Wp (HI.out.1.step (HX0.out▸hBp)) (hpg▸pA)
  have hpv:pg.val= .agg #[.slice vA th vc,.slice mA 18 mc,.int .i64 (rm:Int)]:=by rw [<-hpg];rfl
  rw [hpv]at cN
  have pcd': ∀t,t<th->(pg.cd t).len=(meetC N rd t).length/\(pg.cd t).F=fun i=>(meetC N rd t).getD i default:=fun t ht=>by
   have h:=pcd t ht
   have e:((List.range th).map fun t=>meetC N rd t).getD t []=meetC N rd t:=by simp [List.getD_eq_getElem?_getD,List.getElem?_map,List.getElem?_range ht]
   rw [e]at h
   rw [<-hpg]
   exact h
  have HPG:=Lib.hid (And.intro (hpg▸pO) (And.intro (show 1<=pg.room/\pg.room<=16 by rw [<-hpg];show 1<=(rm:Int)/\(rm:Int)<=16;omega) (And.intro (show pg.m=18 by rw [<-hpg];rfl) (And.intro (show∀i,pg.Z i=0 by rw [<-hpg];exact fun _=>rfl) (And.intro (show pg.n=th by rw [<-hpg];rfl) (fun t (ht:t<pg.n)=>pcd' t (by rw [<-hpg]at ht;exact ht)))))))
  have HP:=Lib.hid (And.intro hPb (And.intro hXp (And.intro hBp hpx)))
  clear hL hgd pO pC pA pcd pcd' hpv hpg hPb hCp hSp hXp hBp hpx hm1 hm2
  have p0:=(HP.out.1.cell 0).trans rfl
  have p1:=(HP.out.1.cell 1).trans rfl
  have p2:=(HP.out.1.cell 2).trans rfl
  go_wp2_with fail
  try rw [hWp]
  try rw [hpb]
  with_reducible refine cN.mono ?_
  rintro ed W6 ⟨B,rfl,hNew,hroom,hI,hB6⟩
  clear cN hWp hpb p0 p1 p2
  have hBok:=newM_ok hNew (by rw [HPG.out.2.2.2.2.1];omega) (by rw [HPG.out.2.2.1];omega)
  have hOk0:=t0_ok HPG.out.1 hNew
  have hb6:Below w.heap.size w W6:=step_below (HX0.out▸HP.out.2.2.1) hB6
  have hss6:=HI.out.2.2.1.step hb6
  have hP6:=HP.out.1.below hB6 HP.out.1.lt
  have cR:=pickRead_any sA sn scap Y W6 (by omega) hss6 HI.out.2.2.2.1
  have HM:=Lib.hid (And.intro hNew (And.intro hroom (And.intro hI (And.intro hb6 (And.intro hBok (And.intro hOk0 (And.intro hB6 hP6)))))))
  clear hNew hroom hI hB6 hBok hOk0 hb6 hss6 hP6
  go_wp2_with fail
  with_reducible refine cR.mono ?_
  rintro ed W7 ⟨cs7,rfl,hb7,hs7,hc7,hB7⟩
  clear cR
  obtain ⟨F,hF⟩: ∃F:Nat->Int×Int,(fun i=>(Y i/8 % 3,Y i % 8))=F:=⟨_,rfl⟩
  have hsl:SlE W7 (some ⟨W6.heap.size,0,none⟩) sn 2 (fun i=>pkc (F i)):=fun _=>⟨_,0,rfl,hb7.lt,fun i hi j u hu=>by
   rw [<-hF]at hu
   have hq:=hc7 i hi
   have hj:j=0∨j=1:=by
    have :=(List.getElem?_eq_some_iff.1 hu).1
    have h2:j<2:=this
    omega
   rcases hj with rfl|rfl
   ·rw [Nat.zero_add,Nat.add_zero,hb7.cell,hq.1];exact hu
   ·rw [Nat.zero_add,hb7.cell,hq.2];exact hu⟩
  obtain ⟨hNew,hroom,hI6,hb6,hBok,hOk0,hB6,hP6⟩:=HM.out
  have hI7:=hI6.below hB7
  have cQ:=trun2_any B hBok (t0 pg) (by rw [hroom];exact HPG.out.2.1.2) hOk0 (some ⟨W6.heap.size,0,none⟩) sn sn F (by
   unfold EvC
   show 0+tot (List.replicate pg.n [])+_<=_
   rw [tot_nil];omega) _ W7 hI7 (HI.out.1.step (step_below hb6 hB7)) hsl (fun _ b o e q=>by injection e with e;injection e with e1 _ _;have :=q.2;omega) (by omega)
  have HS:=meet_ends HPG.out.1 hNew hroom HPG.out.2.1 HPG.out.2.2.1 HPG.out.2.2.2.1 (N:=N) (rd:=rd) (by omega) brd.2 (by rw [HPG.out.2.2.2.2.1];exact bN.2) (by rw [HPG.out.2.2.2.2.1];omega) HPG.out.2.2.2.2.2 ((List.range sn).map F) (by simp;omega)
  obtain ⟨S,hS⟩: ∃S,tRun B (t0 pg) ((List.range sn).map F)=S:=⟨_,rfl⟩
  have hOkS:=tRun_ok hBok ((List.range sn).map F) (t0 pg) hOk0
  rw [hS]at cQ HS hOkS
  dsimp only at HS
  have HSS:=Lib.hid (And.intro HS hOkS)
  have HB7:=Lib.hid (And.intro hb6 (And.intro (step_below hb6 hB7) (And.intro (show w.heap.size<=W6.heap.size from hb6.size) (And.intro hBok hNew))))
  clear hb7 hs7 hc7 hsl hNew hroom hI6 hb6 hBok hOk0 hI7 HS hS hF hB7 hOkS hP6 hB6
  obtain ⟨g6,hg6⟩: ∃g6,W6.heap.size=g6:=⟨_,rfl⟩
  rw [hg6]at cQ HB7
  try rw [hg6]
  clear hg6
  go_wp2_with fail
  with_reducible refine cQ.mono ?_
  rintro ed W8 ⟨⟨u,rfl⟩,hM8⟩
  clear cQ
  obtain ⟨own8,hI8,ho8,hk8⟩:=hM8
  have hb8:Below w.heap.size w W8:=HB7.out.2.1.trans ⟨hk8.os,hk8.tape,hk8.output,by have h1:=HB7.out.2.1.size;have h2:=hk8.size;exact h2,fun i hi=>hk8.block i (Nat.lt_of_lt_of_le hi HB7.out.2.1.size) (fun ho=>by have h1:=ho.1;have h2:=HP.out.2.2.1.size;have h3:=HX0.out;omega)⟩
  have cV:=tevents_any B S own8 W8 hI8 (by have :=HSS.out.1.2.1;omega)
  have HB8:=Lib.hid hb8
  clear hI8 ho8 hk8 hb8
  go_wp2_with fail
  with_reducible refine cV.mono ?_
  rintro ed W9 ⟨ve,rfl,hr9,hB9⟩
  clear cV
  obtain ⟨AE,cE,rfl,_,hslE⟩:=own_sle Evt.cells (fun _=>rfl) ev0 S.evs hr9
  obtain ⟨n,hn⟩: ∃n,S.evs.length=n:=⟨_,rfl⟩
  have hsE:=evF_sle HSS.out.1.1 hslE
  rw [hn]at hslE hsE
  have hnb:n<=999999000:=by rw [<-hn];exact HSS.out.1.2.1
  try rw [hn]
  have cC:=tcalls_any AE n cE (evF S.evs) (by omega) W9 hsE
  have HE:=Lib.hid hn
  have HB9:=Lib.hid (step_below HB8.out hB9)
  clear hr9 hslE hsE hB9 hn
  go_wp2_with fail
  with_reducible refine cC.mono ?_
  rintro ed Wc ⟨vC,RV,rfl,hRV,hPT,_,hBc⟩
  clear cC
  have hlenS:(allC (evF S.evs) n).length<=n:=by
   unfold allC
   rw [List.length_map]
   exact Nat.le_trans (List.length_filter_le _ _) (by rw [List.length_range];exact Nat.le_refl _)
  have hlen:RV.length=(allC (evF S.evs) n).length:=by rw [<-hRV,List.length_map]
  have hwho: ∀c∈allC (evF S.evs) n,0<=c.who/\c.who<8:=fun c hc=>by
   obtain ⟨i,_,_,_,_,e,_,_,h,_⟩:=call_at hc
   rw [e];exact h
  have hmeet: ∀i,i<(allC (evF S.evs) n).length->0<=((allC (evF S.evs) n).getD i default).ended->((allC (evF S.evs) n).getD i default).result=0/\hitN (allC (evF S.evs) n) i (allC (evF S.evs) n).length=N:=by
   obtain ⟨P,la,H⟩:=HSS.out.1.2.2
   have :=fun i=>meets_calls (N:=N) (l:=S.evs) HSS.out.1.1 H.ev (by omega) (i:=i)
   rw [HE.out]at this
   exact this
  obtain ⟨C,hC⟩: ∃C,allC (evF S.evs) n=C:=⟨_,rfl⟩
  rw [hC]at hRV hlen hlenS hwho hmeet
  obtain ⟨AC,cC2,rfl,_,_,hcells⟩:=hPT
  obtain ⟨nC,hnC⟩: ∃nC,RV.length=nC:=⟨_,rfl⟩
  rw [hnC]at hcells hlen
  have hC9:nC<=999999000:=by omega
  rw [hnC]
  have hcc:0<nC-> ∃b off,AC=some ⟨b,off,none⟩/\b<Wc.heap.size/\ ∀i,i<nC->Wc.cell? ⟨b,off+i*6,none⟩=some (.int .i64 (C.getD i default).site)/\Wc.cell? ⟨b,off+i*6+1,none⟩=some (.int .i64 (C.getD i default).who)/\Wc.cell? ⟨b,off+i*6+2,none⟩=some (.int .i64 (C.getD i default).began)/\
   Wc.cell? ⟨b,off+i*6+3,none⟩=some (.int .i64 (C.getD i default).ended)/\Wc.cell? ⟨b,off+i*6+4,none⟩=some (.int .u32 (C.getD i default).result):=fun hp=>by
   obtain ⟨b,off,e,_,hbl,hx⟩:=hcells hp
   refine ⟨b,off,e,hbl,fun i hi=>?_⟩
   have e2:C.getD i default=(RV.getD i cv0).1:=by
    rw [<-hRV]
    have hi':i<RV.length:=by omega
    simp [List.getD_eq_getElem?_getD,List.getElem?_map,List.getElem?_eq_getElem hi']
   rw [e2]
   exact ⟨hx i hi 0 _ rfl,hx i hi 1 _ rfl,hx i hi 2 _ rfl,hx i hi 3 _ rfl,hx i hi 4 _ rfl⟩
  have HC:=Lib.hid (And.intro hcc (And.intro hlen (And.intro hwho hmeet)))
  have HBc:=Lib.hid (step_below HB9.out hBc)
  clear hRV hlen hlenS hC hcells hnC hcc hBc hwho hmeet
  have hA0:=Blk.new Wc 92 #[.int .i64 0,.int .i64 0,.int .i64 0,.int .i64 0,.int .i64 0,.int .i64 0,.int .i64 0,.int .i64 0]
  have hBz:=(Below.refl Wc.heap.size Wc).alloc (Nat.le_refl _) (.cells #[.int .i64 0,.int .i64 0,.int .i64 0,.int .i64 0,.int .i64 0,.int .i64 0,.int .i64 0,.int .i64 0] 92)
  obtain ⟨ab,hab⟩: ∃x,Wc.heap.size=x:=⟨_,rfl⟩
  rw [hab]at hA0
  have HA:=Lib.hid (And.intro hA0 (And.intro hBz hab))
  clear hA0 hBz
  go_wp2_with fail
  try rw [hab]
  clear hab
  generalize hWd:Wc.alloc (.cells #[.int .i64 0,.int .i64 0,.int .i64 0,.int .i64 0,.int .i64 0,.int .i64 0,.int .i64 0,.int .i64 0] 92)=Wd at HA
  try rw [hWd]
  clear hWd
  go_loopw [13,14] (fun v13 v14 wr=> ∃(i c:Nat) (A:Option Addr),i<=nC/\v14= .int .i64 (i:Int)/\v13= .slice A i c/\wr.ownsRow (ab+1) 3 1 (.slice A i c) i (((List.range i).map fun k=>(phs C k:Int)).map (Value.int .i64))/\Blk wr ab 92 (cntA C i)/\Below ab Wc wr/\ab<wr.heap.size) (fun _ v14 _=>nC-(intOf v14).toNat)
  case atStart=>exact ⟨0,0,none,Nat.zero_le _,rfl,rfl,⟨rfl,.inl ⟨rfl,rfl⟩⟩,by rw [cntA_zero];exact HA.out.1,HA.out.2.2▸HA.out.2.1,HA.out.1.lt⟩
  case round=>
   obtain ⟨i,cp,AP,hi,rfl,rfl,hR,hAr,hBr,hal⟩:=hrel
   obtain ⟨wo,rfl⟩: ∃wo:World,wo=wr:=⟨_,rfl⟩
   by_cases hil:i<nC
   case pos=>
    have hil':(i:Int)<(nC:Int):=by omega
    obtain ⟨cb,co,rfl,hcb,hcl⟩:=HC.out.1 (by omega)
    obtain ⟨k0,k1,k2,k3,k4⟩:=hcl i hil
    have hcba:cb<ab:=by have :=HA.out.2.2;omega
    have c1:=(hBr.cell (p:=⟨cb,co+i*6+1,none⟩) hcba).trans k1
    have hiC:i<C.length:=by rw [<-HC.out.2.1];exact hil
    have hw:=HC.out.2.2.1 _ (getD_mem (d:=default) hiC)
    obtain ⟨u,hu⟩: ∃u:Nat,(C.getD i default).who=(u:Int):=⟨(C.getD i default).who.toNat,by omega⟩
    have hu8:u<8:=by omega
    rw [hu]at c1
    have utm:Int.tmod (u:Int) 8=(u:Int):=by rw [Int.tmod_eq_emod_of_nonneg (by omega)];omega
    have hu8':(u:Int)<8:=by omega
    obtain ⟨q,hq⟩: ∃q,cntU C i u=q:=⟨_,rfl⟩
    have hq9:q<=999999000:=by have :=cntU_le C i u;omega
    have a0:=(hAr.cell u).trans (cntA_at C i u hu8)
    rw [hq]at a0
    have hset:=cntA_set C i u hiC hu8 hu
    rw [hq]at hset
    have hph:=phs_cntU C i u hu
    rw [hq]at hph
    have hrow:some ab≠(Value.slice AP i cp).ownBlock:=fun e=>by have :=(own_in hR ab e.symm).1;omega
    have hab1:ab+1<=wo.heap.size:=hal
    have HQ0:=Lib.hid hq
    have HR:=Lib.hid (And.intro hAr (And.intro hBr (And.intro hset (And.intro hph (And.intro hrow (And.intro hcba k1))))))
    clear hAr hBr hset hph hrow k0 k1 k2 k3 k4 hcl hw hq
    go_wp2_with (at_builtin;refine own_app1 hR (by simp) (q:Int) rfl (.tmp 61) (.tmp 70) rfl rfl rfl hab1 (by omega) ?_;intro v' w' hR2 hg2;have hA2:=HR.out.1.grown hg2 HR.out.2.2.2.2.1;have hB2:=HR.out.2.1.trans (below_of_grown (N:=ab) (by omega) hg2 (fun g e=>by have :=(own_in hR g e).1;omega));obtain ⟨A',c',rfl,_,_⟩:=own_cap hR2;have c2:=(hB2.cell (p:=⟨cb,co+i*6+1,none⟩) HR.out.2.2.2.2.2.1).trans (HR.out.2.2.2.2.2.2.trans (congrArg (fun x=>some (Value.int .i64 x)) hu));have a1:=(hA2.cell u).trans (cntA_at C i u hu8);rw [HQ0.out]at a1;have af:=hA2.frozen u;have HR2:=Lib.hid (And.intro hR2 (And.intro hA2 (And.intro hB2 hg2.size)));clear hR hR2 hA2 hB2 hg2 a0 c1)
    go_roundw
    case rel=>
     obtain ⟨hR2,hA2,hB2,hsz⟩:=HR2.out
     have hgs:w'.grownBy (w'.setCell ⟨ab,u,none⟩ (.int .i64 ((q:Int)+1))) (some ab):=set_only _
     refine ⟨i+1,c',A',by omega,by go_num,rfl,?_,?_,hB2.trans (below_of_grown (N:=ab) (by have :=hA2.lt;omega) hgs (fun g e=>by have :=Option.some.inj e;omega)),by have :=(hA2.set_ u (.int .i64 ((q:Int)+1))).lt;exact this⟩
     ·have e:(List.range (i+1)).map (fun k=>(phs C k:Int))=(List.range i).map (fun k=>(phs C k:Int))++[(q:Int)]:=by rw [List.range_succ,List.map_append,<-HR.out.2.2.2.1];rfl
      rw [e]
      exact row_grown hR2 hgs (fun e=>by have :=(own_in hR2 ab e.symm).1;omega)
     ·rw [<-HR.out.2.2.1]
      exact hA2.set_ u _
    case measure=>simp [intOf];omega
   case neg=>
    obtain rfl:nC=i:=by omega
    have hil': ¬(nC:Int)<(nC:Int):=by omega
    obtain ⟨A',c',e',_,hsP⟩:=own_sl hR
    injection e' with e1 _ e2
    subst e1 e2
    rw [Nat.mul_one]at hsP
    have hsP2:=hsP.congr (D:=fun k=> .int .i64 (phs C k:Int)) (fun k hk=>by simp [List.getD_eq_getElem?_getD,List.getElem?_map,List.getElem?_range hk])
    have HL:=Lib.hid (And.intro hsP2 (And.intro hBr hal))
    clear hR hAr hBr hsP hsP2 hal
    go_wp2_with fail
    go_loopw [15] (fun v15 wi=> ∃i:Nat,i<=nC/\v15= .int .i64 (i:Int)/\Below wo.heap.size wo wi) (fun v15 _=>nC-(intOf v15).toNat)
    case atStart=>exact ⟨0,Nat.zero_le _,rfl,Below.refl _ _⟩
    case round=>
     obtain ⟨i,hi,rfl,hBi⟩:=hrel
     obtain ⟨Wi,rfl⟩: ∃Wi:World,Wi=wr:=⟨_,rfl⟩
     by_cases hin:i<nC
     case pos=>
      have hin':(i:Int)<(nC:Int):=by omega
      obtain ⟨cb,co,rfl,hcb,hcl⟩:=HC.out.1 (by omega)
      have hcba:cb<ab:=by have :=HA.out.2.2;omega
      obtain ⟨pb2,po,rfl,hpl,hpc⟩:=HL.out.1 (by omega)
      have cells: ∀(W2:World),Below wo.heap.size wo W2-> ∀o v,Wc.cell? ⟨cb,o,none⟩=some v->W2.cell? ⟨cb,o,none⟩=some v:=fun W2 hb2 o v e=>(hb2.cell (p:=⟨cb,o,none⟩) (Nat.lt_trans hcba HL.out.2.2)).trans ((HL.out.2.1.cell (p:=⟨cb,o,none⟩) hcba).trans e)
      have pcell: ∀(W2:World),Below wo.heap.size wo W2-> ∀k,k<nC->W2.cell? ⟨pb2,po+k,none⟩=some (.int .i64 (phs C k:Int)):=fun W2 hb2 k hk=>(hb2.cell (p:=⟨pb2,po+k,none⟩) hpl).trans (hpc k hk)
      obtain ⟨k0,k1,k2,k3,k4⟩:=hcl i hin
      have c3:=cells Wi hBi _ _ k3
      have hm:=HC.out.2.2.2 i (by rw [<-HC.out.2.1];exact hin)
      rw [<-HC.out.2.1]at hm
      obtain ⟨ei,hei⟩: ∃ei,(C.getD i default).ended=ei:=⟨_,rfl⟩
      rw [hei]at c3 hm
      have HQ:=Lib.hid (And.intro cells (And.intro pcell (And.intro hcl (And.intro hm hei))))
      have HBI:=Lib.hid hBi
      clear cells pcell hcl hm k0 k1 k2 k3 k4 hpl hpc hei hBi
      by_cases e0:ei<0
      case pos=>
       go_wp2_with fail
       go_roundw
       case rel=>exact ⟨i+1,by omega,by go_num,HBI.out⟩
       case measure=>simp [intOf];omega
      case neg=>
       go_wp2_with fail
       clear c3
       go_loopw [16,17] (fun v16 v17 wk=> ∃(k e:Nat),k<=nC/\v17= .int .i64 (k:Int)/\v16= .int .i64 (e:Int)/\e<=k/\e=hitN C i k/\Below wo.heap.size wo wk) (fun _ v17 _=>nC-(intOf v17).toNat)
       case atStart=>exact ⟨0,0,Nat.zero_le _,rfl,rfl,Nat.le_refl _,rfl,HBI.out⟩
       case round=>
        obtain ⟨k,e,hk,rfl,rfl,hek,heh,hBk⟩:=hrel
        obtain ⟨Wk,rfl⟩: ∃Wk:World,Wk=wr:=⟨_,rfl⟩
        by_cases hkn:k<nC
        case pos=>
         have hkn':(k:Int)<(nC:Int):=by omega
         have y0:=HQ.out.2.1 Wk hBk k hkn
         have y1:=HQ.out.2.1 Wk hBk i hin
         have d2:=HQ.out.1 Wk hBk _ _ (HQ.out.2.2.1 k hkn).2.2.1
         have d3:=HQ.out.1 Wk hBk _ _ (HQ.out.2.2.1 i hin).2.2.2.1
         rw [HQ.out.2.2.2.2]at d3
         have hsucc:=hitN_succ C i k
         rw [HQ.out.2.2.2.2]at hsucc
         obtain ⟨fk,hfk⟩: ∃fk,phs C k=fk:=⟨_,rfl⟩
         obtain ⟨fi,hfi⟩: ∃fi,phs C i=fi:=⟨_,rfl⟩
         obtain ⟨bk,hbk⟩: ∃bk,(C.getD k default).began=bk:=⟨_,rfl⟩
         rw [hfk]at y0 hsucc
         rw [hfi]at y1 hsucc
         rw [hbk]at d2 hsucc
         by_cases hgo:fk=fi/\bk<ei
         case pos=>
          have s1:((fk:Int)==(fi:Int))=true:=by simp [hgo.1]
          have s2:decide (bk<ei)=true:=by simp [hgo.2]
          have HR:=Lib.hid (And.intro (show e+1=hitN C i (k+1) by rw [hsucc,if_pos hgo,<-heh]) hBk)
          clear hsucc heh hBk hfk hfi hbk hgo
          go_wp2_with fail
          go_quiet (fail)
          go_wp2_with fail
          go_roundw
          case rel=>exact ⟨k+1,e+1,by omega,by go_num,by go_num,by omega,HR.out.1,⟨HR.out.2.os,HR.out.2.tape,HR.out.2.output,HR.out.2.size,HR.out.2.block⟩⟩
          case measure=>simp [intOf];omega
         case neg=>
          have HR:=Lib.hid (And.intro (show e=hitN C i (k+1) by rw [hsucc,if_neg hgo,<-heh];rfl) hBk)
          clear hsucc heh hBk hfk hfi hbk
          by_cases z:fk=fi
          case pos=>
           have s1:((fk:Int)==(fi:Int))=true:=by simp [z]
           have s2:decide (bk<ei)=false:=decide_eq_false (fun y=>hgo ⟨z,y⟩)
           clear hgo z
           go_wp2_with fail
           go_quiet (fail)
           go_wp2_with fail
           go_roundw
           case rel=>exact ⟨k+1,e,by omega,by go_num,rfl,by omega,HR.out.1,⟨HR.out.2.os,HR.out.2.tape,HR.out.2.output,HR.out.2.size,HR.out.2.block⟩⟩
           case measure=>simp [intOf];omega
          case neg=>
           have s1:((fk:Int)==(fi:Int))=false:=by simp;omega
           clear hgo z
           go_wp2_with fail
           go_quiet (fail)
           go_wp2_with fail
           go_roundw
           case rel=>exact ⟨k+1,e,by omega,by go_num,rfl,by omega,HR.out.1,⟨HR.out.2.os,HR.out.2.tape,HR.out.2.output,HR.out.2.size,HR.out.2.block⟩⟩
           case measure=>simp [intOf];omega
        case neg=>
         obtain rfl:nC=k:=by omega
         have hkn': ¬(nC:Int)<(nC:Int):=by omega
         obtain ⟨m1,m2⟩:=HQ.out.2.2.2.1 (by omega)
         have heN:e=N:=by rw [heh];exact m2
         subst heN
         have c4:=HQ.out.1 Wk hBk _ _ (HQ.out.2.2.1 i hin).2.2.2.2
         rw [m1]at c4
         have HBK:=Lib.hid hBk
         clear m1 m2 heh hBk
         go_wp2_with fail
         go_roundw
         case rel=>exact ⟨i+1,by omega,by go_num,HBK.out⟩
         case measure=>simp [intOf];omega
     case neg=>
      have hin': ¬(i:Int)<(nC:Int):=by omega
      have HBI:=Lib.hid hBi
      clear hBi
      go_wp2
      go_ret
      exact ⟨rfl,by
       have h1:=HL.out.2.1
       have K:Below w.heap.size w Wi:=(HBc.out.trans (h1.mono (by have :=HBc.out.size;have :=HA.out.2.2;omega))).trans (HBI.out.mono (by have :=HBc.out.size;have :=h1.size;omega))
       first|exact K|(rw [hxb]at K;exact K)⟩
end Go.Proofs.YtmhfpjnkjlhbpaaGreatDoor
namespace Go.Proofs.YtmhfpjnkjlhbpaaGreatDoor
open Go.Joins Go.ChangeShapes Go.WideShapes Go.ChangeAt Go.RowKit Go.Deep
set_option linter.unusedVariables false
set_option maxRecDepth 100000
set_option linter.unusedSimpArgs false
open List renaming setIfInBounds_toArray->zD
section
variable {H:Type} {enc:TypeId×Value->H} {P:Program} {w:World} {base:Nat} {spare:Nat->Bool} {held:Bool}
theorem agg_u8 {r:Reach} {b0:Nat} {t:TypeId} {fs:Array Field} {v:Value} {d:DataW H} {p:List MemPlace} (hs:P.underlying t=some (.struct fs)) (hone:oneCellFields P fs=true) (hC:P.cellsOf t=fs.size)
 (hk: ∀(i:Nat) (f:Field),fs[i]?=some f->P.underlying f.type=some (.int .u8))
 (hv:Value.okWide P w r b0 t v) (h:DataW.Trod enc P w base spare held t v d p):
 ∃l:List Nat,l.length=fs.size/\v= .agg (l.map fun n:Nat=>Value.int .u8 (n:Int)).toArray/\ ∀n∈l,n<=255:=by
 obtain ⟨cs,rfl,hsz⟩:=okWide_struct hs hv
 obtain ⟨l⟩:=cs
 obtain ⟨fuel,hf⟩:=h
 obtain ⟨xs,n,_,_,_,hxl,hg⟩:=DataW.trod_struct hs hf
 have hl:l.length=fs.size:=hsz.trans hC
 have hall: ∀i,i<fs.size-> ∃k:Nat,k<=255/\l.getD i undef= .int .u8 (k:Int):=fun i hi=>by
  have hfi:fs[i]?=some fs[i]:=Array.getElem?_eq_getElem hi
  obtain ⟨ho,hc1⟩:=hone_of hone i _ hfi
  have hg':DataW.trod enc P w base spare held n fs[i].type ((l.drop fs[i].offset).take (P.cellsOf fs[i].type))=xs[i]?:=hg i _ hfi
  rw [ho,hc1,take1_drop l i undef (by omega)]at hg'
  obtain ⟨y,hy⟩: ∃y,xs[i]?=some y:=⟨xs[i]'(by omega),List.getElem?_eq_getElem (by omega)⟩
  obtain ⟨k,e,_,hw⟩:=DataW.trod_int (hk i _ hfi) (hg'.trans hy)
  have e':l.getD i undef= .int .u8 k:=by simpa using e
  have hb:=bounds_u8 hw
  exact ⟨k.toNat,by omega,by rw [e',Int.toNat_of_nonneg hb.1]⟩
 refine ⟨l.map fun v=>(match v with| .int _ k=>k.toNat|_=>0),by rw [List.length_map];exact hl,?_,fun n hn=>?_⟩
 ·congr 1
  congr 1
  refine List.ext_getElem (by rw [List.length_map,List.length_map]) fun i h1 h2=>?_
  obtain ⟨k,hk1,hk2⟩:=hall i (by omega)
  rw [List.getD_eq_getElem?_getD,List.getElem?_eq_getElem h1]at hk2
  have e:l[i]=Value.int .u8 (k:Int):=hk2
  rw [List.getElem_map,List.getElem_map,e]
  show Value.int .u8 (k:Int)=Value.int .u8 (((k:Int).toNat:Nat):Int)
  rw [Int.toNat_natCast]
 ·obtain ⟨x,hx,rfl⟩:=List.mem_map.1 hn
  obtain ⟨i,hi,rfl⟩:=List.getElem_of_mem hx
  obtain ⟨k,hk1,hk2⟩:=hall i (by omega)
  rw [List.getD_eq_getElem?_getD,List.getElem?_eq_getElem hi]at hk2
  have e:l[i]=Value.int .u8 (k:Int):=hk2
  rw [e]
  show (k:Int).toNat<=255
  rw [Int.toNat_natCast];exact hk1
end
end Go.Proofs.YtmhfpjnkjlhbpaaGreatDoor
