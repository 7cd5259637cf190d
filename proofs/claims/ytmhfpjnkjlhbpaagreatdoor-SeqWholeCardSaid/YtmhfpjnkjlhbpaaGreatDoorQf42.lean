/- SeqWhole: the law. -/
import Derived.Test.YtmhfpjnkjlhbpaaGreatDoorQf35
import Derived.Test.YtmhfpjnkjlhbpaaGreatDoorQf36
import Derived.Test.YtmhfpjnkjlhbpaaGreatDoorQf37
import Derived.Test.YtmhfpjnkjlhbpaaGreatDoorQf41
import Derived.Test.YtmhfpjnkjlhbpaaGreatDoorQf26
import Derived.Deep.DeepMust
namespace Go.Proofs.YtmhfpjnkjlhbpaaGreatDoor
open Go.ChangeShapes Go.WideShapes Go.ChangeAt Go.RowKit Go.Deep
set_option linter.unusedVariables false
set_option maxRecDepth 100000
set_option linter.unusedSimpArgs false
theorem case_info:(Tryz.prog.info? 23).map (·.size)=some 5:=by kernel_rfl
theorem rdN_take (t:Int) (C:List Cl) {k:Nat} (hk:k<C.length):rdN t (C.take (k+1))=rdN t (C.take k)+(if (C.getD k default).who=t/\0<=(C.getD k default).ended then 1 else 0):=by
 unfold rdN
 rw [List.take_succ_eq_append_getElem hk,List.filter_append,List.length_append,show C.getD k default=C[k] by rw [List.getD_eq_getElem?_getD,List.getElem?_eq_getElem hk];rfl]
 by_cases h:C[k].who=t/\0<=C[k].ended
 ·rw [if_pos h,List.filter_cons_of_pos (by simp [h.1,h.2])];rfl
 ·rw [if_neg h,List.filter_cons_of_neg (by simpa using h)];rfl
theorem endN_take (b:Int) (C:List Cl) {k:Nat} (hk:k<C.length):endN (C.take (k+1)) b=endN (C.take k) b+(if (C.getD k default).site=1/\0<=(C.getD k default).ended/\(C.getD k default).ended<b then 1 else 0):=by
 unfold endN
 rw [List.take_succ_eq_append_getElem hk,List.filter_append,List.length_append,show C.getD k default=C[k] by rw [List.getD_eq_getElem?_getD,List.getElem?_eq_getElem hk];rfl]
 by_cases h:C[k].site=1/\0<=C[k].ended/\C[k].ended<b
 ·rw [if_pos h,List.filter_cons_of_pos (by simp [h.1,h.2.1,h.2.2])];rfl
 ·rw [if_neg h,List.filter_cons_of_neg (by simpa using h)];rfl
def NextQ (t:Nat) (C:List Cl) (nV k q:Nat):Prop:=(q=rdN (t:Int) (C.take k)/\q<=nV)∨(q=nV/\nV<=rdN (t:Int) (C.take k))
theorem NextQ.zero (t:Nat) (C:List Cl) (nV:Nat):NextQ t C nV 0 0:= .inl ⟨rfl,Nat.zero_le _⟩
theorem NextQ.skip {t:Nat} {C:List Cl} {nV k q:Nat} (h:NextQ t C nV k q) (hk:k<C.length) (hn: ¬((C.getD k default).who=(t:Int)/\0<=(C.getD k default).ended)):NextQ t C nV (k+1) q:=by
 unfold NextQ
 rw [rdN_take _ _ hk,if_neg hn];exact h
theorem NextQ.full {t:Nat} {C:List Cl} {nV k q:Nat} (h:NextQ t C nV k q) (hk:k<C.length) (hq:nV<=q):NextQ t C nV (k+1) q:=by
 unfold NextQ at h⊢
 rw [rdN_take _ _ hk]
 split<;>omega
theorem NextQ.go {t:Nat} {C:List Cl} {nV k q:Nat} (h:NextQ t C nV k q) (hk:k<C.length) (hq:q<nV) (hn:(C.getD k default).who=(t:Int)/\0<=(C.getD k default).ended):q=rdN (t:Int) (C.take k)/\NextQ t C nV (k+1) (q+1):=by
 unfold NextQ at h⊢
 rw [rdN_take _ _ hk,if_pos hn]
 omega
set_option maxHeartbeats 40000000 in
theorem seqWhole_true (a b c d e:Nat) (h255:a<=255/\b<=255/\c<=255/\d<=255/\e<=255) (sA:Option Addr) (sn scap:Nat) (Y:Nat->Int) (hsn:sn<=scap) (hsm:scap<=maxLen) (hy: ∀i,i<sn->0<=Y i/\Y i<=255)
 (w:World) (hT:Tab w) (hss:Sl w sA sn (fun i=> .int .u8 (Y i))):
 Calls Tryz.prog 6 #[.agg #[.int .u8 (a:Int),.int .u8 (b:Int),.int .u8 (c:Int),.int .u8 (d:Int),.int .u8 (e:Int)],.slice sA sn scap] w fun ed w'=>ed= .returned (.bool true)/\Below w.heap.size w w':=by
 have hal:=(Below.refl w.heap.size w).alloc (Nat.le_refl _) (.cells #[.int .u8 (a:Int),.int .u8 (b:Int),.int .u8 (c:Int),.int .u8 (d:Int),.int .u8 (e:Int)] 23)
 have cA:=awake19 _ (hT.step hal)
 have hX:=Blk.new w 23 #[.int .u8 (a:Int),.int .u8 (b:Int),.int .u8 (c:Int),.int .u8 (d:Int),.int .u8 (e:Int)]
 have HI:=Lib.hid (And.intro hT (And.intro hss (And.intro hy (And.intro hsn (And.intro hsm h255)))))
 have HW:=Lib.hid (And.intro hX (And.intro hal (And.intro (hss.step hal) (hT.step hal))))
 clear hX hal hT hss hy hsn hsm h255
 obtain ⟨xb,hxb⟩: ∃xb,w.heap.size=xb:=⟨_,rfl⟩
 have HX0:=Lib.hid hxb.symm
 generalize hW1:w.alloc (.cells #[.int .u8 (a:Int),.int .u8 (b:Int),.int .u8 (c:Int),.int .u8 (d:Int),.int .u8 (e:Int)] 23)=W1 at cA HW
 rw [hxb]at HW
 go_enter Tryz.func6,Tryz.ntmps6
 go_wp2_with fail
 try rw [hW1]
 try rw [hxb]
 by_cases h3000:sn<=3000
 case neg=>
  have h3:((3000:Int)<(sn:Int)):=by omega
  with_reducible refine cA.mono ?_
  rintro ed Wa ⟨rfl,hB⟩
  have cA2:=awake19 Wa (HW.out.2.2.2.step hB)
  have HB:=Lib.hid hB
  clear cA hB
  go_wp2_with fail
  with_reducible refine cA2.mono ?_
  rintro ed Wb ⟨rfl,hB2⟩
  clear cA2
  go_wp2
  go_ret
  rw [hxb]
  exact ⟨rfl,(HW.out.2.1.trans (HB.out.mono (by have :=HW.out.2.1.size;omega))).trans (hB2.mono (by have :=HW.out.2.1.size;have :=HB.out.size;omega))⟩
 case pos=>
  have h3: ¬((3000:Int)<(sn:Int)):=by omega
  with_reducible refine cA.mono ?_
  rintro ed Wa ⟨rfl,hB⟩
  clear cA hW1
  have hX:=HW.out.1.below hB HW.out.1.lt
  have hBa:Below xb w Wa:=HW.out.2.1.trans (hB.mono (by have :=HW.out.2.1.size;omega))
  have cM:=seqMk_any a b c d e HI.out.2.2.2.2.2 Wa (HW.out.2.2.2.step hB)
  obtain ⟨N,hN⟩: ∃N,1+a % 3=N:=⟨_,rfl⟩
  obtain ⟨Wn,hWn⟩: ∃N,1+b % 2=N:=⟨_,rfl⟩
  obtain ⟨R,hRn⟩: ∃N,1+c % 2=N:=⟨_,rfl⟩
  obtain ⟨rd,hrd⟩: ∃N,1+d % 3=N:=⟨_,rfl⟩
  obtain ⟨rm,hrm⟩: ∃N,1+e % 5=N:=⟨_,rfl⟩
  rw [hN,hWn,hRn,hrd,hrm]at cM
  have hd255:d<=255:=HI.out.2.2.2.2.2.2.2.2.1
  have bN:1<=N/\N<=3:=by omega
  have bW:1<=Wn/\Wn<=2:=by omega
  have bR:1<=R/\R<=2:=by omega
  have brd:1<=rd/\rd<=3:=by omega
  have brm:1<=rm/\rm<=5:=by omega
  have HN:=Lib.hid (And.intro hN (And.intro hWn (And.intro hRn (And.intro hrd hrm))))
  clear hN hWn hRn hrd hrm
  have hxl:=hX.lt
  have HXa:=Lib.hid (And.intro hX hBa)
  clear hX hBa hB
  go_wp2_with (refine wpList_load_row rfl 23 (.tmp 2) rfl xb rfl 23 #[.int .u8 (a:Int),.int .u8 (b:Int),.int .u8 (c:Int),.int .u8 (d:Int),.int .u8 (e:Int)] _ _ HXa.out.1 Tryz.underlying23 rfl case_info ?_)
  with_reducible refine cM.mono ?_
  rintro ed Wb ⟨v,mb,base,rfl,hBb,hCk,hSl⟩
  clear cM
  obtain ⟨vA,vc,hve⟩:=hCk.cap
  rw [List.length_map,List.length_range]at hve
  subst hve
  obtain ⟨th,hth⟩: ∃th,Wn+R=th:=⟨_,rfl⟩
  obtain ⟨m,hm⟩: ∃m,18+N=m:=⟨_,rfl⟩
  rw [hth]at hCk
  rw [hm]at hSl
  try rw [hth]
  try rw [hm]
  have bth:2<=th/\th<=4:=by omega
  have bm:m<=21:=by omega
  have halb:=(Below.refl Wb.heap.size Wb).alloc (Nat.le_refl _) (.cells #[.slice vA th vc,.slice (some ⟨mb,0,none⟩) m m,.int .i64 (rm:Int)] 29)
  have hPb:=Blk.new Wb 29 #[.slice vA th vc,.slice (some ⟨mb,0,none⟩) m m,.int .i64 (rm:Int)]
  have hCp:=hCk.below halb
  have hSp:=hSl.step halb
  have hXp:=(HXa.out.1.below hBb HXa.out.1.lt).below halb (by have :=(HXa.out.1.below hBb HXa.out.1.lt).lt;exact this)
  have hBp:Below xb w (Wb.alloc (.cells #[.slice vA th vc,.slice (some ⟨mb,0,none⟩) m m,.int .i64 (rm:Int)] 29)):=(HXa.out.2.trans (hBb.mono (by have :=HXa.out.2.size;have :=HX0.out;omega))).trans (halb.mono (by have :=HXa.out.2.size;have :=HX0.out;have :=hBb.size;omega))
  obtain ⟨pb,hpb⟩: ∃pb,Wb.heap.size=pb:=⟨_,rfl⟩
  rw [hpb]at hPb
  have hpx:pb≠xb:=by have :=(HXa.out.1.below hBb HXa.out.1.lt).lt;omega
  clear hCk hSl halb hBb
  generalize hWp:Wb.alloc (.cells #[.slice vA th vc,.slice (some ⟨mb,0,none⟩) m m,.int .i64 (rm:Int)] 29)=Wp at hPb hCp hSp hXp hBp
  have hL: ∀l∈(List.range th).map (fun t=>sqT N rd t (decide (t<Wn))),∃t,t<th/\l=sqT N rd t (decide (t<Wn)):=fun l hl=>by
   obtain ⟨t,h1,h2⟩:=List.mem_map.1 hl
   exact ⟨t,List.mem_range.1 h1,h2.symm⟩
  have hgd:=fun t (ht:t<th)=>sqT_good (N:=N) (rd:=rd) (t:=t) (decide (t<Wn)) (by omega) bN.1 bN.2 brd.1 brd.2
  obtain ⟨vA',vc',cds,hv',pO,pC,pA,pcd⟩:=hCp.prog (fun l hl x hx=>by obtain ⟨t,h1,rfl⟩:=hL l hl;exact (hgd t h1).1 x hx) (fun l hl x hx=>by obtain ⟨t,h1,rfl⟩:=hL l hl;exact (hgd t h1).2.1 x hx)
   (fun l hl=>by obtain ⟨t,h1,rfl⟩:=hL l hl;rw [(hgd t h1).2.2];have h5:=bsQ_le (if decide (t<Wn)=true then sgW N else sgR N) (sqSn N rd (decide (t<Wn)));have h6:=sqSn_le (N:=N) bN.2 brd.2 (decide (t<Wn));omega) (by rw [List.length_map,List.length_range];omega) (room:=(rm:Int)) (by omega) (mA:=some ⟨mb,0,none⟩) (m:=m) (mcap:=m) (by omega) ⟨Nat.le_refl _,by unfold maxLen;omega⟩ hSp
  rw [List.length_map,List.length_range]at hv' pO pC pA pcd
  injection hv' with e1 _ e2
  subst e1 e2
  obtain ⟨pg,hpg⟩: ∃pg,lPg vA th vc cds (some ⟨mb,0,none⟩) m m (rm:Int)=pg:=⟨_,rfl⟩
  have cN:=tsoNew_ok pg (hpg▸pO) 0 0 (hpg▸pC) Wp (HI.out.1.step (HX0.out▸hBp)) (hpg▸pA)
  have hpv:pg.val= .agg #[.slice vA th vc,.slice (some ⟨mb,0,none⟩) m m,.int .i64 (rm:Int)]:=by rw [<-hpg];rfl
  rw [hpv]at cN
  have pcd': ∀t,t<th->(pg.cd t).len=(sqT N rd t (decide (t<Wn))).length/\(pg.cd t).F=fun i=>(sqT N rd t (decide (t<Wn))).getD i default:=fun t ht=>by
   have h:=pcd t ht
   have e:((List.range th).map fun t=>sqT N rd t (decide (t<Wn))).getD t []=sqT N rd t (decide (t<Wn)):=by simp [List.getD_eq_getElem?_getD,List.getElem?_map,List.getElem?_range ht]
   rw [e]at h
   rw [<-hpg]
   exact h
  have HPG:=Lib.hid (And.intro (hpg▸pO) (And.intro (show 1<=pg.room/\pg.room<=16 by rw [<-hpg];show 1<=(rm:Int)/\(rm:Int)<=16;omega) (And.intro (show pg.m=18+N by rw [<-hpg];exact hm.symm) (And.intro (show∀i,pg.Z i=0 by rw [<-hpg];exact fun _=>rfl) (And.intro (show pg.n=Wn+R by rw [<-hpg];exact hth.symm) (fun t (ht:t<pg.n)=>pcd' t (by rw [<-hpg]at ht;exact ht)))))))
  have HP:=Lib.hid (And.intro hPb (And.intro hXp (And.intro hBp (And.intro hpx (And.intro hth hm)))))
  clear hL hgd pO pC pA pcd pcd' hpv hpg hPb hCp hSp hXp hBp hpx hth hm
  have p0:=(HP.out.1.cell 0).trans rfl
  have p1:=(HP.out.1.cell 1).trans rfl
  have p2:=(HP.out.1.cell 2).trans rfl
  go_wp2_with fail
  try rw [hWp]
  try rw [hpb]
  with_reducible refine cN.mono ?_
  rintro ed W6 ⟨B,rfl,hNew,hroom,hI,hB6⟩
  clear cN hWp hpb p0 p1 p2
  have hBok:=newM_ok hNew (by rw [HPG.out.2.2.2.2.1];omega) (by rw [HPG.out.2.2.1];omega)
  have hOk0:=t0_ok HPG.out.1 hNew
  have hb6:Below w.heap.size w W6:=step_below (HX0.out▸HP.out.2.2.1) hB6
  have hss6:=HI.out.2.1.step hb6
  have hP6:=HP.out.1.below hB6 HP.out.1.lt
  have hX6:=HP.out.2.1.below hB6 HP.out.2.1.lt
  have cR:=pickRead_any sA sn scap Y W6 (by omega) hss6 HI.out.2.2.1
  have HM:=Lib.hid (And.intro hNew (And.intro hroom (And.intro hI (And.intro hb6 (And.intro hBok (And.intro hOk0 (And.intro hB6 hP6)))))))
  clear hNew hroom hI hB6 hBok hOk0 hb6 hss6 hP6 hX6
  go_wp2_with fail
  with_reducible refine cR.mono ?_
  rintro ed W7 ⟨cs7,rfl,hb7,hs7,hc7,hB7⟩
  clear cR
  obtain ⟨F,hF⟩: ∃F:Nat->Int×Int,(fun i=>(Y i/8 % 3,Y i % 8))=F:=⟨_,rfl⟩
  have hsl:SlE W7 (some ⟨W6.heap.size,0,none⟩) sn 2 (fun i=>pkc (F i)):=fun _=>⟨_,0,rfl,hb7.lt,fun i hi j u hu=>by
   rw [<-hF]at hu
   have hq:=hc7 i hi
   have hj:j=0∨j=1:=by
    have :=(List.getElem?_eq_some_iff.1 hu).1
    have h2:j<2:=this
    omega
   rcases hj with rfl|rfl
   ·rw [Nat.zero_add,Nat.add_zero,hb7.cell,hq.1];exact hu
   ·rw [Nat.zero_add,hb7.cell,hq.2];exact hu⟩
  obtain ⟨hNew,hroom,hI6,hb6,hBok,hOk0,hB6,hX6⟩:=HM.out
  have hI7:=hI6.below hB7
  have cQ:=trun2_any B hBok (t0 pg) (by rw [hroom];exact HPG.out.2.1.2) hOk0 (some ⟨W6.heap.size,0,none⟩) sn sn F (by
   unfold EvC
   show 0+tot (List.replicate pg.n [])+_<=_
   rw [tot_nil];omega) _ W7 hI7 (HI.out.1.step (step_below hb6 hB7)) hsl (fun _ b o e q=>by injection e with e;injection e with e1 _ _;have :=q.2;omega) (by omega)
  have HS:=seq_ends HPG.out.1 hNew hroom HPG.out.2.1 bN.1 bN.2 brd.1 brd.2 bW.2 bR.2 HPG.out.2.2.1 HPG.out.2.2.2.1 HPG.out.2.2.2.2.1 HPG.out.2.2.2.2.2 ((List.range sn).map F) (by simp;omega)
  have HV:=seq_whole HPG.out.1 hNew hroom HPG.out.2.1 bN.1 bN.2 brd.1 brd.2 bW.2 bR.2 HPG.out.2.2.1 HPG.out.2.2.2.1 HPG.out.2.2.2.2.1 HPG.out.2.2.2.2.2 ((List.range sn).map F) (by simp;omega)
  obtain ⟨S,hS⟩: ∃S,tRun B (t0 pg) ((List.range sn).map F)=S:=⟨_,rfl⟩
  have hOkS:=tRun_ok hBok ((List.range sn).map F) (t0 pg) hOk0
  rw [hS]at cQ HS HV hOkS
  dsimp only at HS HV
  have hmS:S.mem.length=18+N:=by
   rw [<-hS,tRun_mem]
   show ((List.range pg.m).map pg.Z).length=_
   rw [List.length_map,List.length_range,HPG.out.2.2.1]
  have HWV:=Lib.hid HV
  have HSS:=Lib.hid (And.intro HS (And.intro hOkS hmS))
  have hX7:=hX6.below hB7 hX6.lt
  have HB7:=Lib.hid (And.intro hb6 (And.intro (step_below hb6 hB7) (And.intro (show w.heap.size<=W6.heap.size from hb6.size) (And.intro hX7 (And.intro hBok (And.intro hNew (show pb<Wp.heap.size from HP.out.1.lt)))))))
  clear hb7 hs7 hc7 hsl hNew hroom hI6 hb6 hBok hOk0 hI7 HS HV hS hF hB7 hOkS hmS hX6 hX7 hB6
  obtain ⟨g6,hg6⟩: ∃g6,W6.heap.size=g6:=⟨_,rfl⟩
  rw [hg6]at cQ HB7
  try rw [hg6]
  clear hg6
  go_wp2_with fail
  with_reducible refine cQ.mono ?_
  rintro ed W8 ⟨⟨u,rfl⟩,hM8⟩
  clear cQ
  obtain ⟨own8,hI8,ho8,hk8⟩:=hM8
  have hb8:Below w.heap.size w W8:=HB7.out.2.1.trans ⟨hk8.os,hk8.tape,hk8.output,by have h1:=HB7.out.2.1.size;have h2:=hk8.size;exact h2,fun i hi=>hk8.block i (Nat.lt_of_lt_of_le hi HB7.out.2.1.size) (fun ho=>by have h1:=ho.1;have h2:=HP.out.2.2.1.size;have h3:=HX0.out;omega)⟩
  have hX8:Blk W8 pb 29 #[.slice vA th vc,.slice (some ⟨mb,0,none⟩) m m,.int .i64 (rm:Int)]:=(hk8.block pb HB7.out.2.2.2.1.lt (fun ho=>by have h1:=ho.1;have h2:=HB7.out.2.2.2.2.2.2;omega)).trans HB7.out.2.2.2.1
  have cV:=tevents_any B S own8 W8 hI8 (by have :=HSS.out.1.2.1;omega)
  have HB8:=Lib.hid (And.intro hb8 hX8)
  clear hI8 ho8 hk8 hb8 hX8
  go_wp2_with fail
  with_reducible refine cV.mono ?_
  rintro ed W9 ⟨ve,rfl,hr9,hB9⟩
  clear cV
  obtain ⟨AE,cE,rfl,_,hslE⟩:=own_sle Evt.cells (fun _=>rfl) ev0 S.evs hr9
  obtain ⟨n,hn⟩: ∃n,S.evs.length=n:=⟨_,rfl⟩
  have hsE:=evF_sle HSS.out.1.1 hslE
  rw [hn]at hslE hsE
  have hnb:n<=999999000:=by rw [<-hn];exact HSS.out.1.2.1
  try rw [hn]
  have cC:=tcalls_any AE n cE (evF S.evs) (by omega) W9 hsE
  have HE:=Lib.hid (And.intro hslE hn)
  have HB9:=Lib.hid (And.intro (step_below HB8.out.1 hB9) (HB8.out.2.below hB9 HB8.out.2.lt))
  clear hr9 hslE hsE hB9 hn
  go_wp2_with fail
  with_reducible refine cC.mono ?_
  rintro ed Wc ⟨vC,RV,rfl,hRV,hPT,_,hBc⟩
  clear cC
  rw [HE.out.2]at HWV
  have hlenS:(allC (evF S.evs) n).length<=n:=by
   unfold allC
   rw [List.length_map]
   exact Nat.le_trans (List.length_filter_le _ _) (by rw [List.length_range];exact Nat.le_refl _)
  have hlen:RV.length=(allC (evF S.evs) n).length:=by rw [<-hRV,List.length_map]
  obtain ⟨C,hC⟩: ∃C,allC (evF S.evs) n=C:=⟨_,rfl⟩
  rw [hC]at hRV hlen hlenS
  obtain ⟨AC,cC2,rfl,_,_,hcells⟩:=hPT
  obtain ⟨nC,hnC⟩: ∃nC,RV.length=nC:=⟨_,rfl⟩
  rw [hnC]at hcells hlen
  have hC9:nC<=999999000:=by omega
  rw [hnC]
  have hcc:0<nC-> ∃b off,AC=some ⟨b,off,none⟩/\b<Wc.heap.size/\ ∀i,i<nC->Wc.cell? ⟨b,off+i*6,none⟩=some (.int .i64 (C.getD i default).site)/\Wc.cell? ⟨b,off+i*6+1,none⟩=some (.int .i64 (C.getD i default).who)/\Wc.cell? ⟨b,off+i*6+2,none⟩=some (.int .i64 (C.getD i default).began)/\
   Wc.cell? ⟨b,off+i*6+3,none⟩=some (.int .i64 (C.getD i default).ended)/\Wc.cell? ⟨b,off+i*6+4,none⟩=some (.int .u32 (C.getD i default).result):=fun hp=>by
   obtain ⟨b,off,e,_,hbl,hx⟩:=hcells hp
   refine ⟨b,off,e,hbl,fun i hi=>?_⟩
   have e2:C.getD i default=(RV.getD i cv0).1:=by
    rw [<-hRV]
    have hi':i<RV.length:=by omega
    simp [List.getD_eq_getElem?_getD,List.getElem?_map,List.getElem?_eq_getElem hi']
   rw [e2]
   exact ⟨hx i hi 0 _ rfl,hx i hi 1 _ rfl,hx i hi 2 _ rfl,hx i hi 3 _ rfl,hx i hi 4 _ rfl⟩
  have HC:=Lib.hid (And.intro hcc (And.intro hlen hC))
  have HBc:=Lib.hid (And.intro (step_below HB9.out.1 hBc) (And.intro (HB9.out.2.below hBc HB9.out.2.lt) hBc))
  clear hRV hlen hlenS hC hcells hnC hcc hBc
  go_wp2_with fail
  go_loopw [13] (fun v13 wr=> ∃t:Nat,Wn<=t/\t<=th/\v13= .int .i64 (t:Int)/\Below Wc.heap.size Wc wr) (fun v13 _=>th-(intOf v13).toNat)
  case atStart=>exact ⟨Wn,Nat.le_refl _,by have :=HP.out.2.2.2.2.1;omega,rfl,Below.refl _ _⟩
  case round=>
   obtain ⟨t,hWt,ht,rfl,hB⟩:=hrel
   obtain ⟨Wr,rfl⟩: ∃Wr,Wr=wr:=⟨_,rfl⟩
   have hPr:=HBc.out.2.1.below hB HBc.out.2.1.lt
   have p0:=(hPr.cell 0).trans rfl
   by_cases htn:t<th
   case pos=>
    have htn':(t:Int)<(th:Int):=by omega
    have cO:=outs_any AE n cE (fun i=>toEv (S.evs.getD i ev0)) (t:Int) (by omega) Wr ((HE.out.1.below (Nat.le_refl _) HBc.out.2.2).below (Nat.le_refl _) hB)
    obtain ⟨vs,HWh⟩:=HWV.out.2 t hWt (by have :=HP.out.2.2.2.2.1;omega)
    have eo:oL (evs (fun i=>toEv (S.evs.getD i ev0)) (t:Int) n)=outE t S.evs:=by
     rw [<-HE.out.2,oL_evs]
     unfold outE
     congr 1
     exact List.filter_congr (fun x _=>Bool.and_comm _ _)
    rw [eo]at cO
    have w1:=HWh.lo
    have w2:=HWh.hi
    have w3:=HWh.at_
    have w4:=HWh.srt
    have w5:=HWh.big
    have w6:=HWh.call
    rw [HE.out.2,HC.out.2.2]at w6
    obtain ⟨O,hO⟩: ∃O,outE t S.evs=O:=⟨_,rfl⟩
    rw [hO]at cO w1 w2 w3
    have hOl:O.length<=n:=by
     rw [<-hO,<-HE.out.2]
     unfold outE
     rw [List.length_map]
     exact List.length_filter_le _ _
    obtain ⟨nO,hnO⟩: ∃nO,O.length=nO:=⟨_,rfl⟩
    obtain ⟨nV,hnV⟩: ∃nV,vs.length=nV:=⟨_,rfl⟩
    rw [hnO]at w1 w2 hOl
    rw [hnV]at w1 w2 w3 w4 w5 w6
    have hnVO:nV<=nO:=Nat.le_trans (Nat.le_mul_of_pos_right nV (by omega)) w1
    have HO:=Lib.hid (And.intro w1 (And.intro w2 (And.intro w3 (And.intro w4 (And.intro w5 (And.intro w6 (And.intro hnO (And.intro hnVO hB))))))))
    clear w1 w2 w3 w4 w5 w6 HWh eo hO hB hPr hnO hnV hnVO
    go_wp2_with fail
    with_reducible refine cO.mono ?_
    rintro ed Wo ⟨vo,rfl,hro,hBo⟩
    clear cO p0
    obtain ⟨Ao,co2,rfl,_,hso⟩:=own_sl hro
    rw [HO.out.2.2.2.2.2.2.1]at hso
    try rw [HO.out.2.2.2.2.2.2.1]
    have HSO:=Lib.hid (And.intro hso (step_below HO.out.2.2.2.2.2.2.2.2 hBo))
    clear hso hro hBo
    go_wp2_with fail
    go_loopw [15,16,17] (fun v15 v16 v17 wi=> ∃k q la:Nat,k<=nC/\v17= .int .i64 (k:Int)/\v16= .int .i64 (q:Int)/\v15= .int .u32 (la:Int)/\NextQ t C nV k q/\q<=nV/\la<=24/\(q<nV->la<=vs.getD q 0)/\Below Wo.heap.size Wo wi) (fun _ _ v17 _=>nC-(intOf v17).toNat)
    case atStart=>exact ⟨0,0,0,Nat.zero_le _,rfl,rfl,rfl,NextQ.zero _ _ _,Nat.zero_le _,Nat.zero_le _,fun _=>Nat.zero_le _,Below.refl _ _⟩
    case round=>
     obtain ⟨k,q,la,hk,rfl,rfl,rfl,hNq,hqV,hla,hlq,hBi⟩:=hrel
     obtain ⟨Wi,rfl⟩: ∃Wi,Wi=wr:=⟨_,rfl⟩
     by_cases hkn:k<nC
     case pos=>
      have hkn':(k:Int)<(nC:Int):=by omega
      have hp:0<nC:=by omega
      have hq9:q<=999999000:=by have :=HO.out.2.2.2.2.2.2.2.1;omega
      obtain ⟨cb,co,rfl,hcb0,hcl⟩:=HC.out.1 hp
      have hWcI:Below Wc.heap.size Wc Wi:=step_below HSO.out.2 hBi
      have HCL:=Lib.hid (And.intro hcb0 (And.intro hcl (HC.out.2.1)))
      obtain ⟨k0,k1,k2,k3,k4⟩:=hcl k hkn
      have c1:=(hWcI.cell (p:=⟨cb,co+k*6+1,none⟩) hcb0).trans k1
      have c3:=(hWcI.cell (p:=⟨cb,co+k*6+3,none⟩) hcb0).trans k3
      obtain ⟨ck,hck⟩: ∃ck,C.getD k default=ck:=⟨_,rfl⟩
      rw [hck]at c1 c3
      have hkC:k<C.length:=by rw [<-HC.out.2.1];exact hkn
      obtain ⟨M,hM⟩: ∃M,(q+1)*N=M:=⟨_,rfl⟩
      have um:((q:Int)+1)*(N:Int)=(M:Int):=by rw [<-hM,Int.natCast_mul,Int.natCast_add];rfl
      have hM9:M<=3*(q+1):=by rw [<-hM,Nat.mul_comm 3];exact Nat.mul_le_mul_left _ bN.2
      have hM10:M<=3000000000:=by omega
      have hWt0:0<=(t:Int):=by omega
      by_cases hw:ck.who=(t:Int)
      case neg=>
       have wb:(ck.who !=(t:Int))=true:=by simpa using hw
       have HR:=Lib.hid (And.intro (hNq.skip hkC (fun z=>hw (by rw [<-hck];exact z.1))) (And.intro hlq hBi))
       clear hNq hlq hBi hWcI hcl k0 k1 k2 k3 k4 hck hw hM9 hM hcb0
       go_wp2_with fail
       go_roundw
       case rel=>exact ⟨k+1,q,la,by omega,by go_num,rfl,rfl,HR.out.1,hqV,hla,HR.out.2.1,HR.out.2.2⟩
       case measure=>simp [intOf];omega
      case pos=>
       have wb:(ck.who !=(t:Int))=false:=by simpa using hw
       by_cases he:0<=ck.ended
       case neg=>
        have he':ck.ended<0:=by omega
        have HR:=Lib.hid (And.intro (hNq.skip hkC (fun z=>he (by rw [<-hck];exact z.2))) (And.intro hlq hBi))
        clear hNq hlq hBi hWcI hcl k0 k1 k2 k3 k4 hck hw hM9 hM hcb0 he
        go_wp2_with fail
        go_roundw
        case rel=>exact ⟨k+1,q,la,by omega,by go_num,rfl,rfl,HR.out.1,hqV,hla,HR.out.2.1,HR.out.2.2⟩
        case measure=>simp [intOf];omega
       case pos=>
        have he': ¬ck.ended<0:=by omega
        by_cases hMO:nO<M
        case pos=>
         have hMO':(nO:Int)<(M:Int):=by omega
         have hVq:nV<=q:=by
          rcases Nat.lt_or_ge q nV with z|z
          ·have :=Nat.mul_le_mul_right N (show q+1<=nV from z)
           have :=HO.out.1
           omega
          ·exact z
         have HR:=Lib.hid (And.intro (hNq.full hkC hVq) (And.intro hlq hBi))
         clear hNq hlq hBi hWcI hcl k0 k1 k2 k3 k4 hck hw hM9 hM hcb0 he hMO hVq
         go_wp2_with fail
         go_roundw
         case rel=>exact ⟨k+1,q,la,by omega,by go_num,rfl,rfl,HR.out.1,hqV,hla,HR.out.2.1,HR.out.2.2⟩
         case measure=>simp [intOf];omega
        case neg=>
         have hMO': ¬(nO:Int)<(M:Int):=by omega
         have hqv:q<nV:=by
          rcases Nat.lt_or_ge q nV with z|z
          ·exact z
          ·have h1:=Nat.mul_le_mul_right N (show nV+1<=q+1 by omega)
           have h2:=HO.out.2.1
           rw [Nat.succ_mul]at h1
           omega
         obtain ⟨hqr,hNq2⟩:=hNq.go hkC hqv (by rw [hck];exact ⟨hw,he⟩)
         have hcall:=HO.out.2.2.2.2.2.1 k (by rw [<-HC.out.2.1];exact hkn) (by rw [hck];exact hw) (by rw [<-hqr];exact hqv)
         rw [<-hqr,hck]at hcall
         obtain ⟨v,hv⟩: ∃v,vs.getD q 0=v:=⟨_,rfl⟩
         rw [hv]at hcall
         have hv24:v<=24:=by rw [<-hv];exact HO.out.2.2.2.2.1 q hqv
         have hlv:la<=v:=by rw [<-hv];exact hlq hqv
         have hnx:q+1<nV->v<=vs.getD (q+1) 0:=fun z=>by rw [<-hv];exact HO.out.2.2.2.1 q z
         obtain ⟨Z,hZ⟩: ∃Z,q*N=Z:=⟨_,rfl⟩
         have uZ:(q:Int)*(N:Int)=(Z:Int):=by rw [<-hZ,Int.natCast_mul]
         have hZM:Z+N=M:=by rw [<-hM,<-hZ,Nat.succ_mul]
         have hat: ∀i,i<N->O.getD (Z+i) 0=(v:Int):=fun i hi=>by rw [<-hZ,<-hv];exact HO.out.2.2.1 q i hqv hi
         have hnO0:0<nO:=by omega
         obtain ⟨ob,oo,rfl,hol,hoc⟩:=HSO.out.1 (by omega)
         have hcell: ∀(W2:World),Below Wo.heap.size Wo W2-> ∀i,i<nO->W2.cell? ⟨ob,oo+i,none⟩=some (.int .u32 (O.getD i 0)):=fun W2 hb2 i hi=>by
          have h1:=keepAt hb2 hol (hoc i (by omega))
          have h2:(O.map (Value.int .u32)).getD i undef= .int .u32 (O.getD i 0):=by
           have hi2:i<O.length:=by rw [HO.out.2.2.2.2.2.2.1];exact hi
           simp [List.getD_eq_getElem?_getD,List.getElem?_eq_getElem hi2]
          exact h1.trans (congrArg some h2)
         have y0:=hcell Wi hBi Z (by omega)
         have y1:=hat 0 (by omega)
         rw [Nat.add_zero]at y1
         rw [y1]at y0
         have hZn:(Z:Int)<(nO:Int):=by omega
         have HCC:=Lib.hid (And.intro hcell (And.intro hat (And.intro hZM (And.intro hnx (And.intro hcall (And.intro hNq2 (And.intro hck hBi)))))))
         clear hNq hlq hBi hWcI hcl k0 k1 k2 k3 k4 hck hM9 hM hcb0 hqr hNq2 hcall hv hnx hZ hat hol hoc hcell y1
         go_wp2_with fail
         go_loopw [19] (fun v19 wj=> ∃i:Nat,i<=N/\v19= .int .i64 (i:Int)/\Below Wo.heap.size Wo wj) (fun v19 _=>N-(intOf v19).toNat)
         case atStart=>exact ⟨0,Nat.zero_le _,rfl,HCC.out.2.2.2.2.2.2.2⟩
         case round=>
          obtain ⟨i,hi,rfl,hBj⟩:=hrel
          obtain ⟨Wj,rfl⟩: ∃Wj,Wj=wr:=⟨_,rfl⟩
          clear y0 c1 c3
          by_cases hiN:i<N
          case pos=>
           have hiN':(i:Int)<(N:Int):=by omega
           have y2:=HCC.out.1 Wj hBj (Z+i) (by have :=HCC.out.2.2.1;omega)
           rw [HCC.out.2.1 i hiN]at y2
           obtain ⟨Zi,hZi⟩: ∃Zi,Z+i=Zi:=⟨_,rfl⟩
           rw [hZi]at y2
           have uzi:(Z:Int)+(i:Int)=(Zi:Int):=by omega
           have hZin:(Zi:Int)<(nO:Int):=by have :=HCC.out.2.2.1;omega
           have HBJ:=Lib.hid hBj
           clear hBj hZi
           go_wp2_with fail
           go_roundw
           case rel=>exact ⟨i+1,by omega,by go_num,HBJ.out⟩
           case measure=>simp [intOf];omega
          case neg=>
           have hiN': ¬(i:Int)<(N:Int):=by omega
           have HBJ:=Lib.hid hBj
           clear hBj
           go_wp2_with fail
           go_loopw [20,21] (fun v20 v21 wl=> ∃j e:Nat,j<=nC/\e<=j/\v21= .int .i64 (j:Int)/\v20= .int .u32 (e:Int)/\e=endN (C.take j) ck.began/\Below Wo.heap.size Wo wl) (fun _ v21 _=>nC-(intOf v21).toNat)
           case atStart=>exact ⟨0,0,Nat.zero_le _,Nat.le_refl _,rfl,rfl,by rw [List.take_zero];rfl,HBJ.out⟩
           case round=>
            obtain ⟨j,e,hj,hej,rfl,rfl,hee,hBl⟩:=hrel
            obtain ⟨Wl,rfl⟩: ∃Wl,Wl=wr:=⟨_,rfl⟩
            by_cases hjn:j<nC
            case pos=>
             have hjn':(j:Int)<(nC:Int):=by omega
             have hWcL:Below Wc.heap.size Wc Wl:=step_below HSO.out.2 hBl
             obtain ⟨l0,l1,l2,l3,l4⟩:=HCL.out.2.1 j hjn
             obtain ⟨k0,k1,k2,k3,k4⟩:=HCL.out.2.1 k hkn
             have d0:=(hWcL.cell (p:=⟨cb,co+j*6,none⟩) HCL.out.1).trans l0
             have d3:=(hWcL.cell (p:=⟨cb,co+j*6+3,none⟩) HCL.out.1).trans l3
             have d2:=(hWcL.cell (p:=⟨cb,co+k*6+2,none⟩) HCL.out.1).trans k2
             have het:=endN_take ck.began C (k:=j) (by rw [<-HCL.out.2.2];exact hjn)
             rw [HCC.out.2.2.2.2.2.2.1]at d2
             obtain ⟨cj,hcj⟩: ∃cj,C.getD j default=cj:=⟨_,rfl⟩
             rw [hcj]at d0 d3 het
             obtain ⟨sj,wj,bj,ej,rj,ij⟩:=cj
             obtain ⟨sk,wk,bk,ek,rk,ik⟩:=ck
             dsimp only at d0 d2 d3 het hee hw he he' wb⊢
             by_cases hs1:sj=1/\0<=ej/\ej<bk
             case pos=>
              have s1b:(sj==1)=true:=by simp [hs1.1]
              have e0b:decide (0<=ej)=true:=by simp [hs1.2.1]
              have ltb:decide (ej<bk)=true:=by simp [hs1.2.2]
              have HR:=Lib.hid (And.intro (show e+1=endN (C.take (j+1)) bk by rw [het,if_pos hs1,<-hee]) hBl)
              obtain ⟨q1,q2,q3⟩:=hs1
              have uw:IntKind.u32.wrap ((e:Int)+1)=(e:Int)+1:=IntWalk.u32_in _ (by omega)
              clear hee het hBl hWcL l0 l1 l2 l3 l4 k0 k1 k2 k3 k4 hcj
              go_wp2_with fail
              go_quiet (fail)
              go_wp2_with fail
              go_roundw
              case rel=>exact ⟨j+1,e+1,by omega,by omega,by go_num,by go_num,HR.out.1,⟨HR.out.2.os,HR.out.2.tape,HR.out.2.output,HR.out.2.size,HR.out.2.block⟩⟩
              case measure=>simp [intOf];omega
             case neg=>
              have HR:=Lib.hid (And.intro (show e=endN (C.take (j+1)) bk by rw [het,if_neg hs1,<-hee];rfl) hBl)
              clear hee het hBl hWcL l0 l1 l2 l3 l4 k0 k1 k2 k3 k4 hcj
              by_cases q1:sj=1
              case neg=>
               have s1b:(sj==1)=false:=by simp [q1]
               clear hs1
               go_wp2_with fail
               go_quiet (fail)
               go_wp2_with fail
               go_roundw
               case rel=>exact ⟨j+1,e,by omega,by omega,by go_num,rfl,HR.out.1,⟨HR.out.2.os,HR.out.2.tape,HR.out.2.output,HR.out.2.size,HR.out.2.block⟩⟩
               case measure=>simp [intOf];omega
              case pos=>
               have s1b:(sj==1)=true:=by simp [q1]
               by_cases q2:0<=ej
               case neg=>
                have e0b:decide (0<=ej)=false:=by simp;omega
                clear hs1
                go_wp2_with fail
                go_quiet (fail)
                go_wp2_with fail
                go_roundw
                case rel=>exact ⟨j+1,e,by omega,by omega,by go_num,rfl,HR.out.1,⟨HR.out.2.os,HR.out.2.tape,HR.out.2.output,HR.out.2.size,HR.out.2.block⟩⟩
                case measure=>simp [intOf];omega
               case pos=>
                have e0b:decide (0<=ej)=true:=by simp [q2]
                have q3: ¬ej<bk:=fun z=>hs1 ⟨q1,q2,z⟩
                have ltb:decide (ej<bk)=false:=by simp;omega
                clear hs1
                go_wp2_with fail
                go_quiet (fail)
                go_wp2_with fail
                go_roundw
                case rel=>exact ⟨j+1,e,by omega,by omega,by go_num,rfl,HR.out.1,⟨HR.out.2.os,HR.out.2.tape,HR.out.2.output,HR.out.2.size,HR.out.2.block⟩⟩
                case measure=>simp [intOf];omega
            case neg=>
             have hjn': ¬(j:Int)<(nC:Int):=by omega
             have hev:e<=v:=by
              have h1:=HCC.out.2.2.2.2.1
              rw [hee,List.take_of_length_le (by rw [<-HCL.out.2.2];omega)];exact h1
             have hve: ¬(v:Int)<(e:Int):=by omega
             have hvl: ¬(v:Int)<(la:Int):=by omega
             have HBL:=Lib.hid hBl
             clear hee hBl
             go_wp2_with fail
             go_roundw
             case rel=>exact ⟨k+1,q+1,v,by omega,by go_num,by go_num,rfl,HCC.out.2.2.2.2.2.1,hqv,hv24,HCC.out.2.2.2.1,HBL.out⟩
             case measure=>simp [intOf];omega
     case neg=>
      have hkn': ¬(k:Int)<(nC:Int):=by omega
      have HBI:=Lib.hid hBi
      clear hBi hNq hlq
      go_wp2_with fail
      go_roundw
      case rel=>exact ⟨t+1,by omega,by omega,by go_num,step_below HSO.out.2 HBI.out⟩
      case measure=>simp [intOf];omega
   case neg=>
    have htn': ¬(t:Int)<(th:Int):=by omega
    have HBT:=Lib.hid hB
    clear hB hPr
    go_wp2_with fail
    go_loopw [22] (fun v22 wi=> ∃i:Nat,i<=nC/\v22= .int .i64 (i:Int)/\Below Wc.heap.size Wc wi) (fun v22 _=>nC-(intOf v22).toNat)
    case atStart=>exact ⟨0,Nat.zero_le _,rfl,HBT.out⟩
    case round=>
     obtain ⟨i,hi,rfl,hBi⟩:=hrel
     by_cases hin:i<nC
     case pos=>
      have hin':(i:Int)<(nC:Int):=by omega
      obtain ⟨cb,co,rfl,hcb,hcl⟩:=HC.out.1 (by omega)
      obtain ⟨k0,k1,k2,k3,k4⟩:=hcl i hin
      have c3:=(hBi.cell (p:=⟨cb,co+i*6+3,none⟩) hcb).trans k3
      have c4:=(hBi.cell (p:=⟨cb,co+i*6+4,none⟩) hcb).trans k4
      have hmem:C.getD i default∈C:=getD_mem (by rw [<-HC.out.2.1];exact hin)
      have h0:=HWV.out.1 (C.getD i default) (by rw [HC.out.2.2];exact hmem)
      obtain ⟨ci,hci⟩: ∃ci,C.getD i default=ci:=⟨_,rfl⟩
      rw [hci]at c3 c4 h0
      obtain ⟨si,wi,bi,ei,ri,inn⟩:=ci
      dsimp only at c3 c4 h0
      have HBR:=Lib.hid hBi
      clear hBi hmem hci k0 k1 k2 k3 k4 hcl
      by_cases e0:0<=ei
      ·have r0b:(ri !=0)=false:=by simp [h0 e0]
       clear h0
       go_wp2
       go_roundw
       case rel=>exact ⟨i+1,by omega,by go_num,HBR.out⟩
       case measure=>simp [intOf];omega
      ·clear h0
       go_wp2
       go_roundw
       case rel=>exact ⟨i+1,by omega,by go_num,HBR.out⟩
       case measure=>simp [intOf];omega
     case neg=>
      have hin': ¬(i:Int)<(nC:Int):=by omega
      have HBR:=Lib.hid hBi
      clear hBi
      go_wp2
      go_ret
      exact ⟨rfl,by have K:=step_below HBc.out.1 HBR.out;first|exact K|(rw [hxb]at K;exact K)⟩
end Go.Proofs.YtmhfpjnkjlhbpaaGreatDoor
