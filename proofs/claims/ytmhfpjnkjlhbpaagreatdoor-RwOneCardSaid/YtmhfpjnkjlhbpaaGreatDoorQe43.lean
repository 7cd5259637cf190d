/- RwOne: the law. -/
import Derived.Test.YtmhfpjnkjlhbpaaGreatDoorQe40
import Derived.Test.YtmhfpjnkjlhbpaaGreatDoorQe41
import Derived.Test.YtmhfpjnkjlhbpaaGreatDoorQe42
import Derived.Test.YtmhfpjnkjlhbpaaGreatDoorQe30
import Derived.Test.YtmhfpjnkjlhbpaaGreatDoorQe31
import Derived.BigQuiet
import Derived.Deep.DeepMust
namespace Go.Proofs.YtmhfpjnkjlhbpaaGreatDoor
open Go.ChangeShapes Go.WideShapes Go.ChangeAt Go.RowKit Go.Deep
set_option linter.unusedVariables false
set_option maxRecDepth 100000
set_option linter.unusedSimpArgs false
theorem rwS_none (l:List Evt):l.foldl rwS none=none:=by
 induction l with
 |nil=>rfl
 |cons x l ih=>rw [List.foldl_cons];exact ih
theorem rwScan_take {l:List Evt} (h:rwScan l≠none) (k:Nat):rwScan (l.take k)≠none:=fun e=>h (by
 unfold rwScan at e⊢
 rw [<-List.take_append_drop k l,List.foldl_append,e,rwS_none])
theorem evt_infoR:(Tryz.prog.info? 65).map (·.size)=some 8:=by kernel_rfl
theorem use_info:(Tryz.prog.info? 61).map (·.size)=some 2:=by kernel_rfl
set_option maxHeartbeats 40000000 in
theorem rwOne_true (wA:Option Addr) (wn wc:Nat) (rA:Nat->Option Addr) (rl rc:Nat->Nat) (kd:Nat->Nat->Bool) (e:Nat) (he:e<=255) (hwc:wn<=wc/\wc<=maxLen) (hrc: ∀t,t<wn->rl t<=rc t/\rc t<=maxLen) (sA:Option Addr) (sn scap:Nat) (Y:Nat->Int) (hsn:sn<=scap) (hsm:scap<=maxLen) (hy: ∀i,i<sn->0<=Y i/\Y i<=255)
 (w:World) (hT:Tab w) (hO:ONam w) (hw:Sl w wA wn (fun t=> .slice (rA t) (rl t) (rc t))) (hr: ∀t,t<wn->Sl w (rA t) (rl t) (fun i=> .bool (kd t i))) (hss:Sl w sA sn (fun i=> .int .u8 (Y i))):
 Calls Tryz.prog 5 #[.agg #[.slice wA wn wc,.int .u8 (e:Int)],.slice sA sn scap] w fun ed w'=>ed= .returned (.bool true)/\Below w.heap.size w w':=by
 have hal:=(Below.refl w.heap.size w).alloc (Nat.le_refl _) (.cells #[.slice wA wn wc,.int .u8 (e:Int)] 61)
 have cA:=awake22_any _ (hT.step hal) (hO.step hal)
 have hX:=Blk.new w 61 #[.slice wA wn wc,.int .u8 (e:Int)]
 have HI:=Lib.hid (And.intro hT (And.intro hss (And.intro hy (And.intro hsn (And.intro hsm he)))))
 have HU:=Lib.hid (And.intro hO (And.intro hw (And.intro hr (And.intro hwc hrc))))
 have HW:=Lib.hid (And.intro hX (And.intro hal (And.intro (hss.step hal) (And.intro (hT.step hal) (hO.step hal)))))
 clear hX hal hT hss hy hsn hsm hO hw hr hwc hrc
 obtain ⟨xb,hxb⟩: ∃xb,w.heap.size=xb:=⟨_,rfl⟩
 have HX0:=Lib.hid hxb.symm
 generalize hW1:w.alloc (.cells #[.slice wA wn wc,.int .u8 (e:Int)] 61)=W1 at cA HW
 rw [hxb]at HW
 go_enter Tryz.func5,Tryz.ntmps5
 go_wp2_with fail
 try rw [hW1]
 try rw [hxb]
 by_cases h3000:sn<=3000
 case neg=>
  have h3:((3000:Int)<(sn:Int)):=by omega
  with_reducible refine cA.mono ?_
  rintro ed Wa ⟨rfl,hB⟩
  have cA2:=awake22_any Wa (HW.out.2.2.2.1.step hB) (HW.out.2.2.2.2.step hB)
  have HB:=Lib.hid hB
  clear cA hB
  go_wp2_with fail
  with_reducible refine cA2.mono ?_
  rintro ed Wb ⟨rfl,hB2⟩
  clear cA2
  go_wp2
  go_ret
  rw [hxb]
  exact ⟨rfl,(HW.out.2.1.trans (HB.out.mono (by have :=HW.out.2.1.size;omega))).trans (hB2.mono (by have :=HW.out.2.1.size;have :=HB.out.size;omega))⟩
 case pos=>
  have h3: ¬((3000:Int)<(sn:Int)):=by omega
  with_reducible refine cA.mono ?_
  rintro ed Wa ⟨rfl,hB⟩
  clear cA hW1
  have hX:=HW.out.1.below hB HW.out.1.lt
  have hBa:Below xb w Wa:=HW.out.2.1.trans (hB.mono (by have :=HW.out.2.1.size;omega))
  have hBw:Below w.heap.size w Wa:=HX0.out▸hBa
  have cM:=ruMk_any wA wn wc rA rl rc kd e he HU.out.2.2.2.1 HU.out.2.2.2.2 Wa (HW.out.2.2.2.1.step hB) (HW.out.2.2.2.2.step hB) (HU.out.2.1.step hBw) (fun t ht=>(HU.out.2.2.1 t ht).step hBw)
  obtain ⟨th,hth⟩: ∃N,ruTh wn=N:=⟨_,rfl⟩
  obtain ⟨rm,hrm⟩: ∃N,1+e % 4=N:=⟨_,rfl⟩
  obtain ⟨rd,hrd⟩: ∃N,ruRd wn rl=N:=⟨_,rfl⟩
  rw [hth,hrm,hrd]at cM
  have bth:1<=th/\th<=4:=by rw [<-hth];unfold ruTh;omega
  have brm:1<=rm/\rm<=4:=by omega
  have brd: ∀t,rd t<=4:=fun t=>by rw [<-hrd];unfold ruRd;split<;>omega
  clear hth hrm hrd
  have hxl:=hX.lt
  have HXa:=Lib.hid (And.intro hX hBa)
  clear hX hBa hB hBw
  go_wp2_with (refine wpList_load_row rfl 61 (.tmp 2) rfl xb rfl 61 #[.slice wA wn wc,.int .u8 (e:Int)] _ _ HXa.out.1 Tryz.underlying61 rfl use_info ?_)
  with_reducible refine cM.mono ?_
  rintro ed Wb ⟨v,mb,base,rfl,hBb,hCk,hSl⟩
  clear cM
  obtain ⟨wrN,hwrN⟩: ∃x,(sumT th fun t=>wrs (kd t) (rd t))=x:=⟨_,rfl⟩
  have bwr:wrN<=16:=by have :=sumT_le (W:=th) (f:=fun t=>wrs (kd t) (rd t)) (k:=4) (fun t _=>by have :=wrs_le (kd t) (rd t);have :=brd t;omega);omega
  obtain ⟨vA,vc,hve⟩:=hCk.cap
  rw [List.length_map,List.length_range]at hve
  subst hve
  obtain ⟨m,hm⟩: ∃m,17+th=m:=⟨_,rfl⟩
  rw [hm]at hSl
  try rw [hm]
  try rw [hwrN]
  have HWR:=Lib.hid hwrN
  clear hwrN
  have bm:m<=21:=by omega
  have halb:=(Below.refl Wb.heap.size Wb).alloc (Nat.le_refl _) (.cells #[.slice vA th vc,.slice (some ⟨mb,0,none⟩) m m,.int .i64 (rm:Int)] 29)
  have hPb:=Blk.new Wb 29 #[.slice vA th vc,.slice (some ⟨mb,0,none⟩) m m,.int .i64 (rm:Int)]
  have hCp:=hCk.below halb
  have hSp:=hSl.step halb
  have hXp:=(HXa.out.1.below hBb HXa.out.1.lt).below halb (by have :=(HXa.out.1.below hBb HXa.out.1.lt).lt;exact this)
  have hBp:Below xb w (Wb.alloc (.cells #[.slice vA th vc,.slice (some ⟨mb,0,none⟩) m m,.int .i64 (rm:Int)] 29)):=(HXa.out.2.trans (hBb.mono (by have :=HXa.out.2.size;have :=HX0.out;omega))).trans (halb.mono (by have :=HXa.out.2.size;have :=HX0.out;have :=hBb.size;omega))
  obtain ⟨pb,hpb⟩: ∃pb,Wb.heap.size=pb:=⟨_,rfl⟩
  rw [hpb]at hPb
  have hpx:pb≠xb:=by have :=(HXa.out.1.below hBb HXa.out.1.lt).lt;omega
  clear hCk hSl halb hBb
  generalize hWp:Wb.alloc (.cells #[.slice vA th vc,.slice (some ⟨mb,0,none⟩) m m,.int .i64 (rm:Int)] 29)=Wp at hPb hCp hSp hXp hBp
  have hL: ∀l∈(List.range th).map (fun t=>rwT t (kd t) (rd t)),∃t,t<th/\l=rwT t (kd t) (rd t):=fun l hl=>by
   obtain ⟨t,h1,h2⟩:=List.mem_map.1 hl
   exact ⟨t,List.mem_range.1 h1,h2.symm⟩
  have hgd:=fun t (ht:t<th)=>rwT_good t (kd t) (rd t) (by omega) (brd t)
  obtain ⟨vA',vc',cds,hv',pO,pC,pA,pcd⟩:=hCp.prog (fun l hl x hx=>by obtain ⟨t,h1,rfl⟩:=hL l hl;exact (hgd t h1).1 x hx) (fun l hl x hx=>by obtain ⟨t,h1,rfl⟩:=hL l hl;exact (hgd t h1).2.1 x hx)
   (fun l hl=>by obtain ⟨t,h1,rfl⟩:=hL l hl;have h5:=rwT_small t (kd t) (brd t);omega) (by rw [List.length_map,List.length_range];omega) (room:=(rm:Int)) (by omega) (mA:=some ⟨mb,0,none⟩) (m:=m) (mcap:=m) (by omega) ⟨Nat.le_refl _,by unfold maxLen;omega⟩ hSp
  rw [List.length_map,List.length_range]at hv' pO pC pA pcd
  injection hv' with e1 _ e2
  subst e1 e2
  obtain ⟨pg,hpg⟩: ∃pg,lPg vA th vc cds (some ⟨mb,0,none⟩) m m (rm:Int)=pg:=⟨_,rfl⟩
  have cN:=tsoNew_ok pg (hpg▸pO) 0 0 (hpg▸pC) Wp (HI.out.1.step (HX0.out▸hBp)) (hpg▸pA)
  have hpv:pg.val= .agg #[.slice vA th vc,.slice (some ⟨mb,0,none⟩) m m,.int .i64 (rm:Int)]:=by rw [<-hpg];rfl
  rw [hpv]at cN
  have pcd': ∀t,t<th->(pg.cd t).len=(rwT t (kd t) (rd t)).length/\(pg.cd t).F=fun i=>(rwT t (kd t) (rd t)).getD i default:=fun t ht=>by
   have h:=pcd t ht
   have e:((List.range th).map fun t=>rwT t (kd t) (rd t)).getD t []=rwT t (kd t) (rd t):=by simp [List.getD_eq_getElem?_getD,List.getElem?_map,List.getElem?_range ht]
   rw [e]at h
   rw [<-hpg]
   exact h
  have hnth:pg.n=th:=by rw [<-hpg];rfl
  have HPG:=Lib.hid (And.intro (hpg▸pO) (And.intro (show 1<=pg.room/\pg.room<=16 by rw [<-hpg];show 1<=(rm:Int)/\(rm:Int)<=16;omega) (And.intro (show pg.m=17+pg.n by rw [<-hpg];exact hm.symm) (And.intro (show∀i,pg.Z i=0 by rw [<-hpg];exact fun _=>rfl) (And.intro (show 1<=pg.n/\pg.n<=4 by rw [hnth];exact bth) (fun t (ht:t<pg.n)=>pcd' t (by rw [<-hpg]at ht;exact ht)))))))
  have HP:=Lib.hid (And.intro hPb (And.intro hXp (And.intro hBp (And.intro hpx (And.intro hnth hm)))))
  clear hL hgd pO pC pA pcd pcd' hpv hpg hPb hCp hSp hXp hBp hpx hm hnth
  have p0:=(HP.out.1.cell 0).trans rfl
  have p1:=(HP.out.1.cell 1).trans rfl
  have p2:=(HP.out.1.cell 2).trans rfl
  go_wp2_with fail
  try rw [hWp]
  try rw [hpb]
  with_reducible refine cN.mono ?_
  rintro ed W6 ⟨B,rfl,hNew,hroom,hI,hB6⟩
  clear cN hWp hpb p0 p1 p2
  have hBok:=newM_ok hNew (by have :=HPG.out.2.2.2.2.1;omega) (by have :=HPG.out.2.2.2.2.1;have :=HPG.out.2.2.1;omega)
  have hOk0:=t0_ok HPG.out.1 hNew
  have hb6:Below w.heap.size w W6:=step_below (HX0.out▸HP.out.2.2.1) hB6
  have hss6:=HI.out.2.1.step hb6
  have hP6:=HP.out.1.below hB6 HP.out.1.lt
  have hX6:=HP.out.2.1.below hB6 HP.out.2.1.lt
  have cR:=pickRead_any sA sn scap Y W6 (by omega) hss6 HI.out.2.2.1
  have HM:=Lib.hid (And.intro hNew (And.intro hroom (And.intro hI (And.intro hb6 (And.intro hBok (And.intro hOk0 (And.intro hB6 (And.intro hX6 hP6))))))))
  clear hNew hroom hI hB6 hBok hOk0 hb6 hss6 hP6 hX6
  go_wp2_with fail
  with_reducible refine cR.mono ?_
  rintro ed W7 ⟨cs7,rfl,hb7,hs7,hc7,hB7⟩
  clear cR
  obtain ⟨F,hF⟩: ∃F:Nat->Int×Int,(fun i=>(Y i/8 % 3,Y i % 8))=F:=⟨_,rfl⟩
  have hsl:SlE W7 (some ⟨W6.heap.size,0,none⟩) sn 2 (fun i=>pkc (F i)):=fun _=>⟨_,0,rfl,hb7.lt,fun i hi j u hu=>by
   rw [<-hF]at hu
   have hq:=hc7 i hi
   have hj:j=0∨j=1:=by
    have :=(List.getElem?_eq_some_iff.1 hu).1
    have h2:j<2:=this
    omega
   rcases hj with rfl|rfl
   ·rw [Nat.zero_add,Nat.add_zero,hb7.cell,hq.1];exact hu
   ·rw [Nat.zero_add,hb7.cell,hq.2];exact hu⟩
  obtain ⟨hNew,hroom,hI6,hb6,hBok,hOk0,hB6,hX6,hP6⟩:=HM.out
  have hI7:=hI6.below hB7
  have cQ:=trun2_any B hBok (t0 pg) (by rw [hroom];exact HPG.out.2.1.2) hOk0 (some ⟨W6.heap.size,0,none⟩) sn sn F (by
   unfold EvC
   show 0+tot (List.replicate pg.n [])+_<=_
   rw [tot_nil];omega) _ W7 hI7 (HI.out.1.step (step_below hb6 hB7)) hsl (fun _ b o e q=>by injection e with e;injection e with e1 _ _;have :=q.2;omega) (by omega)
  have HS:=rw_ends HPG.out.1 hNew hroom HPG.out.2.1 HPG.out.2.2.1 HPG.out.2.2.2.1 HPG.out.2.2.2.2.1.1 HPG.out.2.2.2.2.1.2 kd rd (fun t _=>brd t) HPG.out.2.2.2.2.2 ((List.range sn).map F) (by simp;omega)
  obtain ⟨S,hS⟩: ∃S,tRun B (t0 pg) ((List.range sn).map F)=S:=⟨_,rfl⟩
  have hOkS:=tRun_ok hBok ((List.range sn).map F) (t0 pg) hOk0
  rw [hS]at cQ HS hOkS
  dsimp only at HS
  have hmS:S.mem.length=m:=by
   rw [<-hS,tRun_mem]
   show ((List.range pg.m).map pg.Z).length=_
   rw [List.length_map,List.length_range,HPG.out.2.2.1,HP.out.2.2.2.2.1,HP.out.2.2.2.2.2]
  have HSS:=Lib.hid (And.intro HS (And.intro hOkS hmS))
  have hX7:=hP6.below hB7 hP6.lt
  have hpw:pb<Wp.heap.size:=HP.out.1.lt
  have HB7:=Lib.hid (And.intro hb6 (And.intro (step_below hb6 hB7) (And.intro (show w.heap.size<=W6.heap.size from hb6.size) (And.intro hX7 (And.intro hBok (And.intro hNew hpw))))))
  clear hb7 hs7 hc7 hsl hNew hroom hI6 hb6 hBok hOk0 hI7 HS hS hF hB7 hOkS hmS hX6 hX7 hB6 hP6 hpw
  obtain ⟨g6,hg6⟩: ∃g6,W6.heap.size=g6:=⟨_,rfl⟩
  rw [hg6]at cQ HB7
  try rw [hg6]
  clear hg6
  go_wp2_with fail
  with_reducible refine cQ.mono ?_
  rintro ed W8 ⟨⟨u,rfl⟩,hM8⟩
  clear cQ
  obtain ⟨own8,hI8,ho8,hk8⟩:=hM8
  have hb8:Below w.heap.size w W8:=HB7.out.2.1.trans ⟨hk8.os,hk8.tape,hk8.output,by have h1:=HB7.out.2.1.size;have h2:=hk8.size;exact h2,fun i hi=>hk8.block i (Nat.lt_of_lt_of_le hi HB7.out.2.1.size) (fun ho=>by have h1:=ho.1;have h2:=HP.out.2.2.1.size;have h3:=HX0.out;omega)⟩
  have hP8:Blk W8 pb 29 #[.slice vA th vc,.slice (some ⟨mb,0,none⟩) m m,.int .i64 (rm:Int)]:=(hk8.block pb HB7.out.2.2.2.1.lt (fun ho=>by have h1:=ho.1;have h2:=HB7.out.2.2.2.2.2.2;omega)).trans HB7.out.2.2.2.1
  have cV:=tevents_any B S own8 W8 hI8 (by have :=HSS.out.1.2.1;omega)
  have HB8:=Lib.hid (And.intro hb8 (And.intro hI8 hP8))
  clear hI8 ho8 hk8 hb8 hP8
  go_wp2_with fail
  with_reducible refine cV.mono ?_
  rintro ed W9 ⟨ve,rfl,hr9,hB9⟩
  clear cV
  obtain ⟨AE,cE,rfl,_,hslE⟩:=own_sle Evt.cells (fun _=>rfl) ev0 S.evs hr9
  obtain ⟨n,hn⟩: ∃n,S.evs.length=n:=⟨_,rfl⟩
  have hn9:n<=999999000:=by rw [<-hn];exact HSS.out.1.2.1
  rw [hn]at hslE
  try rw [hn]
  have hsc:rwScan S.evs≠none:=by
   obtain ⟨q,z,e⟩:=HSS.out.1.2.2.2.1
   rw [e];simp
  have HE:=Lib.hid (And.intro hslE (And.intro hn hsc))
  have HB9:=Lib.hid (And.intro (step_below HB8.out.1 hB9) (And.intro (HB8.out.2.1.below hB9) (HB8.out.2.2.below hB9 HB8.out.2.2.lt)))
  clear hr9 hslE hB9 hn hsc
  go_wp2_with fail
  go_loopw [11,12,13] (fun v11 v12 v13 wr=> ∃(k:Nat) (c r:Int),k<=n/\v13= .int .i64 (k:Int)/\v11= .int .i64 c/\v12= .int .i64 r/\rwScan (S.evs.take k)=some (c,r)/\ -(k:Int)<=r/\r<=(k:Int)/\Below W9.heap.size W9 wr) (fun _ _ v13 _=>n-(intOf v13).toNat)
  case atStart=>exact ⟨0,-1,0,Nat.zero_le _,rfl,rfl,rfl,rfl,by omega,by omega,Below.refl _ _⟩
  case round=>
   obtain ⟨k,c,r,hk,rfl,rfl,rfl,hc,hr1,hr2,hB⟩:=hrel
   by_cases hkn:k<n
   case pos=>
    have hk0:(0:Int)<=(k:Int):=by omega
    have hk1:(k:Int)<(n:Int):=by omega
    obtain ⟨b,off,rfl,hlt,hcc⟩:=HE.out.1 (by omega)
    obtain ⟨x,hx⟩: ∃x,S.evs.getD k ev0=x:=⟨_,rfl⟩
    have hra:wr.rangeAt b (off+k*8) x.cells:=fun j v hv=>by rw [<-hx]at hv;exact keepAt hB hlt (hcc k hkn j v hv)
    have q0:=hra 0 _ rfl
    rw [Nat.add_zero]at q0
    have hs:=rwScan_take HE.out.2.2 (k+1)
    have hsn:rwScan (S.evs.take (k+1))=rwS (some (c,r)) x:=by rw [take_snoc S.evs k ev0 (by rw [HE.out.2.1];exact hkn),rwScan_snoc,hc,hx]
    rw [hsn]at hs
    obtain ⟨kd',wh,pc,ad,vl,ol,kk,ok⟩:=x
    dsimp only at q0
    have hal:=(Below.refl wr.heap.size wr).alloc (Nat.le_refl _) (.cells #[.int .i64 0,.int .i64 0,.int .i64 0,.int .i64 0,.int .u32 0,.int .u32 0,.int .u32 0,.bool false] 65)
    have HR:=Lib.hid (And.intro hsn (And.intro hB hal))
    unfold rwS at hs hsn
    dsimp only at hs hsn
    clear hB hal hc hcc hx
    by_cases h7:kd'=7
    case neg=>
     have k7:(kd' !=7)=true:=by simpa using h7
     rw [if_pos h7]at hsn
     have E1:=Lib.hid hsn
     clear hsn hs
     go_wp2_with (first
      |(refine wpList_load_mid rfl 65 (.tmp 61) rfl b (off+k*8) rfl [.int .i64 kd',.int .i64 wh,.int .i64 pc,.int .i64 ad,.int .u32 vl,.int .u32 ol,.int .u32 kk,.bool ok] _ hra Tryz.underlying65 rfl evt_infoR ?_)
      |(refine wpList_store_row rfl 65 (.tmp 14) (.tmp 62) rfl _ rfl #[.int .i64 kd',.int .i64 wh,.int .i64 pc,.int .i64 ad,.int .u32 vl,.int .u32 ol,.int .u32 kk,.bool ok] rfl 65 _ (Blk.new _ _ _) rfl evt_infoR (by simp [Value.oneCell']) ?_;intro w1 hb1 hg1;have x0:=(hb1.cell 0).trans rfl;have x1:=(hb1.cell 1).trans rfl;have x4:=(hb1.cell 4).trans rfl;have x6:=(hb1.cell 6).trans rfl;have HW:=Lib.hid (below_row HR.out.2.2 hg1 HR.out.2.2.size (Nat.le_refl _));clear hb1 hg1))
     go_roundw
     case rel=>
      exact ⟨k+1,c,r,by omega,by go_num,rfl,rfl,E1.out,by omega,by omega,step_below HR.out.2.1 HW.out⟩
     case measure=>simp [intOf];omega
    case pos=>
     subst h7
     rw [if_neg (by decide)]at hs hsn
     by_cases h1:kk=1
     case pos=>
      subst h1
      rw [if_pos rfl]at hs hsn
      have hg: ¬(vl≠0∨0<=c∨0<r):=fun q=>hs (if_pos q)
      rw [if_neg hg]at hsn
      have hv:vl=0:=Classical.byContradiction fun q=>hg (.inl q)
      have hc0: ¬(0:Int)<=c:=fun q=>hg (.inr (.inl q))
      have hr0: ¬(0:Int)<r:=fun q=>hg (.inr (.inr q))
      subst hv
      have E1:=Lib.hid hsn
      clear hsn hs hg
      go_wp2_with (first
       |(refine wpList_load_mid rfl 65 (.tmp 61) rfl b (off+k*8) rfl [.int .i64 7,.int .i64 wh,.int .i64 pc,.int .i64 ad,.int .u32 0,.int .u32 ol,.int .u32 1,.bool ok] _ hra Tryz.underlying65 rfl evt_infoR ?_)
       |(refine wpList_store_row rfl 65 (.tmp 14) (.tmp 62) rfl _ rfl #[.int .i64 7,.int .i64 wh,.int .i64 pc,.int .i64 ad,.int .u32 0,.int .u32 ol,.int .u32 1,.bool ok] rfl 65 _ (Blk.new _ _ _) rfl evt_infoR (by simp [Value.oneCell']) ?_;intro w1 hb1 hg1;have x0:=(hb1.cell 0).trans rfl;have x1:=(hb1.cell 1).trans rfl;have x4:=(hb1.cell 4).trans rfl;have x6:=(hb1.cell 6).trans rfl;have HW:=Lib.hid (below_row HR.out.2.2 hg1 HR.out.2.2.size (Nat.le_refl _));clear hb1 hg1))
      go_roundw
      case rel=>
       exact ⟨k+1,wh,r,by omega,by go_num,rfl,rfl,E1.out,by omega,by omega,step_below HR.out.2.1 HW.out⟩
      case measure=>simp [intOf];omega
     case neg=>
      rw [if_neg h1]at hs hsn
      have k1:(kk==1)=false:=by simpa using h1
      by_cases h5:kk=5
      case pos=>
       subst h5
       rw [if_pos rfl]at hs hsn
       have hg: ¬(vl≠0∨0<=c):=fun q=>hs (if_pos q)
       rw [if_neg hg]at hsn
       have hv:vl=0:=Classical.byContradiction fun q=>hg (.inl q)
       have hc0: ¬(0:Int)<=c:=fun q=>hg (.inr q)
       subst hv
       have ur:IntKind.i64.wrap (r+1)=r+1:=IntWalk.i64_in _ (by omega)
       have E1:=Lib.hid hsn
       clear hsn hs hg h1 k1
       go_wp2_with (first
        |(refine wpList_load_mid rfl 65 (.tmp 61) rfl b (off+k*8) rfl [.int .i64 7,.int .i64 wh,.int .i64 pc,.int .i64 ad,.int .u32 0,.int .u32 ol,.int .u32 5,.bool ok] _ hra Tryz.underlying65 rfl evt_infoR ?_)
        |(refine wpList_store_row rfl 65 (.tmp 14) (.tmp 62) rfl _ rfl #[.int .i64 7,.int .i64 wh,.int .i64 pc,.int .i64 ad,.int .u32 0,.int .u32 ol,.int .u32 5,.bool ok] rfl 65 _ (Blk.new _ _ _) rfl evt_infoR (by simp [Value.oneCell']) ?_;intro w1 hb1 hg1;have x0:=(hb1.cell 0).trans rfl;have x1:=(hb1.cell 1).trans rfl;have x4:=(hb1.cell 4).trans rfl;have x6:=(hb1.cell 6).trans rfl;have HW:=Lib.hid (below_row HR.out.2.2 hg1 HR.out.2.2.size (Nat.le_refl _));clear hb1 hg1))
       go_roundw
       case rel=>
        exact ⟨k+1,c,r+1,by omega,by go_num,rfl,rfl,E1.out,by omega,by omega,step_below HR.out.2.1 HW.out⟩
       case measure=>simp [intOf];omega
      case neg=>
       rw [if_neg h5]at hs hsn
       have k5:(kk==5)=false:=by simpa using h5
       by_cases h2:kk=2
       case pos=>
        subst h2
        rw [if_pos rfl]at hs hsn
        clear h1 k1 h5 k5 hs
        by_cases hcw:c=wh
        case pos=>
         subst hcw
         rw [if_pos rfl]at hsn
         have E1:=Lib.hid hsn
         clear hsn
         go_wp2_with (first
          |(refine wpList_load_mid rfl 65 (.tmp 61) rfl b (off+k*8) rfl [.int .i64 7,.int .i64 c,.int .i64 pc,.int .i64 ad,.int .u32 vl,.int .u32 ol,.int .u32 2,.bool ok] _ hra Tryz.underlying65 rfl evt_infoR ?_)
          |(refine wpList_store_row rfl 65 (.tmp 14) (.tmp 62) rfl _ rfl #[.int .i64 7,.int .i64 c,.int .i64 pc,.int .i64 ad,.int .u32 vl,.int .u32 ol,.int .u32 2,.bool ok] rfl 65 _ (Blk.new _ _ _) rfl evt_infoR (by simp [Value.oneCell']) ?_;intro w1 hb1 hg1;have x0:=(hb1.cell 0).trans rfl;have x1:=(hb1.cell 1).trans rfl;have x4:=(hb1.cell 4).trans rfl;have x6:=(hb1.cell 6).trans rfl;have HW:=Lib.hid (below_row HR.out.2.2 hg1 HR.out.2.2.size (Nat.le_refl _));clear hb1 hg1))
         go_roundw
         case rel=>
          exact ⟨k+1,-1,r,by omega,by go_num,rfl,rfl,E1.out,by omega,by omega,step_below HR.out.2.1 HW.out⟩
         case measure=>simp [intOf];omega
        case neg=>
         rw [if_neg hcw]at hsn
         have kcw:(c==wh)=false:=by simpa using hcw
         have ur:IntKind.i64.wrap (r-1)=r-1:=IntWalk.i64_in _ (by omega)
         have E1:=Lib.hid hsn
         clear hsn
         go_wp2_with (first
          |(refine wpList_load_mid rfl 65 (.tmp 61) rfl b (off+k*8) rfl [.int .i64 7,.int .i64 wh,.int .i64 pc,.int .i64 ad,.int .u32 vl,.int .u32 ol,.int .u32 2,.bool ok] _ hra Tryz.underlying65 rfl evt_infoR ?_)
          |(refine wpList_store_row rfl 65 (.tmp 14) (.tmp 62) rfl _ rfl #[.int .i64 7,.int .i64 wh,.int .i64 pc,.int .i64 ad,.int .u32 vl,.int .u32 ol,.int .u32 2,.bool ok] rfl 65 _ (Blk.new _ _ _) rfl evt_infoR (by simp [Value.oneCell']) ?_;intro w1 hb1 hg1;have x0:=(hb1.cell 0).trans rfl;have x1:=(hb1.cell 1).trans rfl;have x4:=(hb1.cell 4).trans rfl;have x6:=(hb1.cell 6).trans rfl;have HW:=Lib.hid (below_row HR.out.2.2 hg1 HR.out.2.2.size (Nat.le_refl _));clear hb1 hg1))
         go_roundw
         case rel=>
          exact ⟨k+1,c,r-1,by omega,by go_num,rfl,rfl,E1.out,by omega,by omega,step_below HR.out.2.1 HW.out⟩
         case measure=>simp [intOf];omega
       case neg=>
        rw [if_neg h2]at hs hsn
        have k2:(kk==2)=false:=by simpa using h2
        by_cases h3:kk=3
        case pos=>
         subst h3
         rw [if_pos rfl]at hs hsn
         have hg: ¬(vl≠0):=fun q=>hs (if_pos q)
         rw [if_neg hg]at hsn
         have hv:vl=0:=Classical.byContradiction fun q=>hg q
         subst hv
         have E1:=Lib.hid hsn
         clear hsn hs hg h1 k1 h5 k5 h2 k2
         go_wp2_with (first
          |(refine wpList_load_mid rfl 65 (.tmp 61) rfl b (off+k*8) rfl [.int .i64 7,.int .i64 wh,.int .i64 pc,.int .i64 ad,.int .u32 0,.int .u32 ol,.int .u32 3,.bool ok] _ hra Tryz.underlying65 rfl evt_infoR ?_)
          |(refine wpList_store_row rfl 65 (.tmp 14) (.tmp 62) rfl _ rfl #[.int .i64 7,.int .i64 wh,.int .i64 pc,.int .i64 ad,.int .u32 0,.int .u32 ol,.int .u32 3,.bool ok] rfl 65 _ (Blk.new _ _ _) rfl evt_infoR (by simp [Value.oneCell']) ?_;intro w1 hb1 hg1;have x0:=(hb1.cell 0).trans rfl;have x1:=(hb1.cell 1).trans rfl;have x4:=(hb1.cell 4).trans rfl;have x6:=(hb1.cell 6).trans rfl;have HW:=Lib.hid (below_row HR.out.2.2 hg1 HR.out.2.2.size (Nat.le_refl _));clear hb1 hg1))
         go_roundw
         case rel=>
          exact ⟨k+1,c,r,by omega,by go_num,rfl,rfl,E1.out,by omega,by omega,step_below HR.out.2.1 HW.out⟩
         case measure=>simp [intOf];omega
        case neg=>
         rw [if_neg h3]at hsn
         have k3:(kk==3)=false:=by simpa using h3
         have E1:=Lib.hid hsn
         clear hsn hs h1 h5 h2 h3
         go_wp2_with (first
          |(refine wpList_load_mid rfl 65 (.tmp 61) rfl b (off+k*8) rfl [.int .i64 7,.int .i64 wh,.int .i64 pc,.int .i64 ad,.int .u32 vl,.int .u32 ol,.int .u32 kk,.bool ok] _ hra Tryz.underlying65 rfl evt_infoR ?_)
          |(refine wpList_store_row rfl 65 (.tmp 14) (.tmp 62) rfl _ rfl #[.int .i64 7,.int .i64 wh,.int .i64 pc,.int .i64 ad,.int .u32 vl,.int .u32 ol,.int .u32 kk,.bool ok] rfl 65 _ (Blk.new _ _ _) rfl evt_infoR (by simp [Value.oneCell']) ?_;intro w1 hb1 hg1;have x0:=(hb1.cell 0).trans rfl;have x1:=(hb1.cell 1).trans rfl;have x4:=(hb1.cell 4).trans rfl;have x6:=(hb1.cell 6).trans rfl;have HW:=Lib.hid (below_row HR.out.2.2 hg1 HR.out.2.2.size (Nat.le_refl _));clear hb1 hg1))
         go_roundw
         case rel=>
          exact ⟨k+1,c,r,by omega,by go_num,rfl,rfl,E1.out,by omega,by omega,step_below HR.out.2.1 HW.out⟩
         case measure=>simp [intOf];omega
   case neg=>
    have hkn': ¬(k:Int)<(n:Int):=by omega
    obtain ⟨q,z,hqz⟩:=HSS.out.1.2.2.2.1
    rw [List.take_of_length_le (by rw [HE.out.2.1];omega),hqz]at hc
    have hrz:r=(z:Int):=(Prod.mk.inj (Option.some.inj hc)).2.symm
    have hz9:(z:Int)<=999999000:=by omega
    have hz0:(0:Int)<=(z:Int):=by omega
    subst hrz
    have HBk:=Lib.hid hB
    clear hc hB hqz
    go_wp2_with fail
    go_loopw [15] (fun v15 wr=> ∃t:Nat,t<=th/\v15= .int .i64 (t:Int)/\Below W9.heap.size W9 wr) (fun v15 _=>th-(intOf v15).toNat)
    case atStart=>exact ⟨0,Nat.zero_le _,rfl,HBk.out⟩
    case round=>
     obtain ⟨t,ht,rfl,hB⟩:=hrel
     obtain ⟨Wr,rfl⟩: ∃Wr,Wr=wr:=⟨_,rfl⟩
     have hPr:=HB9.out.2.2.below hB HB9.out.2.2.lt
     have p0:=(hPr.cell 0).trans rfl
     by_cases htn:t<th
     case pos=>
      have htn':(t:Int)<(th:Int):=by omega
      have cO:=outs_any AE n cE (fun i=>toEv (S.evs.getD i ev0)) (t:Int) (by omega) Wr (HE.out.1.below (Nat.le_refl _) hB)
      obtain ⟨Dn,hDn⟩:=HSS.out.1.2.2.2.2.1
      have hok:=hDn t (by have :=HP.out.2.2.2.2.1;omega)
      have eo:oL (evs (fun i=>toEv (S.evs.getD i ev0)) (t:Int) n)=outE t S.evs:=by
       rw [<-HE.out.2.1,oL_evs]
       unfold outE
       congr 1
       exact List.filter_congr (fun x _=>Bool.and_comm _ _)
      rw [eo]at cO
      obtain ⟨O,hO⟩: ∃O,outE t S.evs=O:=⟨_,rfl⟩
      rw [hO]at cO hok
      have hOl:O.length<=n:=by
       rw [<-hO,<-HE.out.2.1]
       unfold outE
       rw [List.length_map]
       exact List.length_filter_le _ _
      have HO:=Lib.hid (And.intro hok hB)
      clear hDn hok eo hO hB hPr
      go_wp2_with fail
      with_reducible refine cO.mono ?_
      rintro ed Wo ⟨vo,rfl,hro,hBo⟩
      clear cO p0
      obtain ⟨Ao,co,rfl,_,hso⟩:=own_sl hro
      obtain ⟨nO,hnO⟩: ∃nO,O.length=nO:=⟨_,rfl⟩
      rw [hnO]at hso hOl
      try rw [hnO]
      have HSO:=Lib.hid (And.intro hso (And.intro hnO (step_below HO.out.2 hBo)))
      clear hso hro hBo hnO
      go_wp2_with fail
      go_loopw [17] (fun v17 wi=> ∃j:Nat,(j<nO∨j=0)/\v17= .int .i64 ((j:Int)+1)/\Below Wo.heap.size Wo wi) (fun v17 _=>nO-(intOf v17).toNat)
      case atStart=>exact ⟨0,.inr rfl,rfl,Below.refl _ _⟩
      case round=>
       obtain ⟨j,hj,rfl,hBi⟩:=hrel
       obtain ⟨Wi,rfl⟩: ∃Wi,Wi=wr:=⟨_,rfl⟩
       by_cases hjn:j+1<nO
       case pos=>
        have hjn':(j:Int)+1<(nO:Int):=by omega
        have hjn2:(j:Int)<(nO:Int):=by omega
        have hj0:(0:Int)<=(j:Int):=by omega
        have hj1:(0:Int)<=(j:Int)+1:=by omega
        have ej:(j:Int)+1-1=(j:Int):=by omega
        have ej2:((j:Int)+1).toNat=j+1:=by omega
        have uj:IntKind.i64.wrap ((j:Int)+1-1)=(j:Int):=by rw [ej];exact IntWalk.i64_in _ (by omega)
        obtain ⟨ob,oo,rfl,hol,hoc⟩:=HSO.out.1 (by omega)
        have hcell: ∀i,i<nO->Wi.cell? ⟨ob,oo+i,none⟩=some (.int .u32 (O.getD i 0)):=fun i hi=>by
         have h1:=keepAt hBi hol (hoc i (by omega))
         have h2:(O.map (Value.int .u32)).getD i undef= .int .u32 (O.getD i 0):=by
          have hi2:i<O.length:=by rw [HSO.out.2.1];exact hi
          simp [List.getD_eq_getElem?_getD,List.getElem?_eq_getElem hi2]
         exact h1.trans (congrArg some h2)
        have y0:=hcell j (by omega)
        have y1:=hcell (j+1) hjn
        have hoj:=HO.out.1.1 (j+1) (by omega) (by rw [HSO.out.2.1];exact hjn)
        rw [Nat.add_sub_cancel]at hoj
        obtain ⟨o0,ho0⟩: ∃o0,O.getD j 0=o0:=⟨_,rfl⟩
        obtain ⟨o1,ho1⟩: ∃o1,O.getD (j+1) 0=o1:=⟨_,rfl⟩
        rw [ho0]at y0 hoj
        rw [ho1]at y1 hoj
        have hd:decide (o1<o0)=false:=decide_eq_false (by omega)
        have HBI:=Lib.hid hBi
        clear hcell hoc hol ho0 ho1 hBi
        by_cases hpar:(j+1)% 2=1
        case pos=>
         have he:=hoj.2 hpar
         subst he
         have hm2:Int.tmod ((j:Int)+1) 2=1:=by rw [Int.tmod_eq_emod_of_nonneg (by omega)];omega
         clear hoj
         go_wp2_with fail
         go_quiet (fail)
         go_wp2
         go_roundw
         case rel=>exact ⟨j+1,.inl hjn,by go_num,⟨HBI.out.os,HBI.out.tape,HBI.out.output,HBI.out.size,HBI.out.block⟩⟩
         case measure=>simp [intOf];omega
        case neg=>
         have hm2:Int.tmod ((j:Int)+1) 2=0:=by rw [Int.tmod_eq_emod_of_nonneg (by omega)];omega
         clear hoj
         go_wp2_with fail
         go_quiet (fail)
         go_wp2
         go_roundw
         case rel=>exact ⟨j+1,.inl hjn,by go_num,⟨HBI.out.os,HBI.out.tape,HBI.out.output,HBI.out.size,HBI.out.block⟩⟩
         case measure=>simp [intOf];omega
       case neg=>
        have hjn': ¬(j:Int)+1<(nO:Int):=by omega
        have HBI:=Lib.hid hBi
        clear hBi
        go_wp2_with fail
        go_roundw
        case rel=>exact ⟨t+1,by omega,by go_num,step_below HSO.out.2.2 HBI.out⟩
        case measure=>simp [intOf];omega
     case neg=>
      have htn': ¬(t:Int)<(th:Int):=by omega
      have hIa:=HB9.out.2.1.below hB
      have hths:S.ths.length=th:=by have h1:=HSS.out.2.1.ok.nt;have h2:=HB7.out.2.2.2.2.2.1.n;have h4:=HP.out.2.2.2.2.1;omega
      have hbl:S.bufs.length=S.ths.length:=by rw [HSS.out.2.1.bl,HSS.out.2.1.ok.nt]
      have cD:=tdone_any B S own8 Wr hIa (by omega) (by omega) hbl
      have HBa:=Lib.hid (And.intro (step_below HB9.out.1 hB) (And.intro hIa (And.intro hths hbl)))
      clear hIa hths hbl hB hPr
      go_wp2_with fail
      with_reducible refine cD.mono ?_
      rintro ed Wd ⟨rfl,hBd⟩
      clear cD
      cases hdn:doneM S with
      |false=>
       have HBd:=Lib.hid (step_below HBa.out.1 hBd)
       clear hBd
       go_wp2
       go_ret
       exact ⟨rfl,by have K:=HBd.out;first|exact K|(rw [hxb]at K;exact K)⟩
      |true=>
       have hall: ∀t,t<pg.n->(thM S t).st=2/\bufM S t=[]:=fun t ht=>by
        have ht':t<S.ths.length:=by have h1:=HBa.out.2.2.1;have h2:=HP.out.2.2.2.2.1;omega
        have h1:doneT S t=true:=doneM_at hdn ht'
        obtain ⟨g,H⟩:=HSS.out.1.2.2.1
        exact doneT_two h1 (by obtain ⟨n,o,_,q|q⟩:=H.loc t ht;exact q.2.1.elim .inl (fun z=> .inr (.inl z));exact q.2.2.1.elim .inl (fun z=> .inr (.inr z)))
       obtain ⟨m0,m16⟩:=HSS.out.1.2.2.2.2.2 hall
       rw [HP.out.2.2.2.2.1,HWR.out]at m0
       have hml:S.mem.length=m:=HSS.out.2.2
       have hmp:17<=m:=by have :=HP.out.2.2.2.2.2;omega
       have hm0':(0:Int)<(m:Int):=by omega
       have hm16:(16:Int)<(m:Int):=by omega
       have HID:=Lib.hid (HBa.out.2.1.below hBd)
       have HBd:=Lib.hid (step_below HBa.out.1 hBd)
       have HMM:=Lib.hid (And.intro m0 (And.intro m16 hml))
       have cM1:=tmem_any B S own8 Wd HID.out (by rw [hml];omega)
       clear m0 m16 hml hall hBd hdn
       go_wp2_with fail
       with_reducible refine cM1.mono ?_
       rintro ed Wm1 ⟨v1,rfl,hr1,hB1⟩
       obtain ⟨b1,o1,c1,rfl,hl1,hx1⟩:=mem_cells hr1 HMM.out.2.2 (by omega)
       have y1:=hx1 0 (by omega)
       rw [HMM.out.1,Nat.add_zero]at y1
       have HB1:=Lib.hid (step_below HBd.out hB1)
       have cM2:=tmem_any B S own8 Wm1 (HID.out.below hB1) (by rw [HMM.out.2.2];omega)
       clear cM1 hr1 hx1 hB1 hl1
       go_wp2_with fail
       with_reducible refine cM2.mono ?_
       rintro ed Wm2 ⟨v2,rfl,hr2,hB2⟩
       obtain ⟨b2,o2,c2,rfl,hl2,hx2⟩:=mem_cells hr2 HMM.out.2.2 (by omega)
       have y2:=hx2 16 (by omega)
       rw [HMM.out.2.1]at y2
       have HB2:=Lib.hid (step_below HB1.out hB2)
       clear cM2 hr2 hx2 hB2 hl2 y1
       go_wp2
       go_ret
       exact ⟨rfl,by have K:=HB2.out;first|exact K|(rw [hxb]at K;exact K)⟩
end Go.Proofs.YtmhfpjnkjlhbpaaGreatDoor
