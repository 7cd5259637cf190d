/- GateGoes: the law. -/
import Derived.Test.YtmhfpjnkjlhbpaaGreatDoorQi43
import Derived.Test.YtmhfpjnkjlhbpaaGreatDoorQi35
import Derived.Test.YtmhfpjnkjlhbpaaGreatDoorQi46
import Derived.Test.YtmhfpjnkjlhbpaaGreatDoorQi38
import Derived.Deep.DeepMust
namespace Go.Proofs.YtmhfpjnkjlhbpaaGreatDoor
open Go.ChangeShapes Go.WideShapes Go.ChangeAt Go.RowKit Go.Deep
set_option linter.unusedVariables false
set_option maxRecDepth 100000
set_option linter.unusedSimpArgs false
open List renaming getElem_toArray->zA,getElem_cons_zero->zB,getElem_cons_succ->zC,setIfInBounds_toArray->zD,set_cons_zero->zE,set_cons_succ->zF
theorem meet_info:(Tryz.prog.info? 91).map (·.size)=some 4:=by kernel_rfl
set_option maxHeartbeats 40000000 in
theorem gateGoes_true (a b c d:Nat) (h255:a<=255/\b<=255/\c<=255/\d<=255) (sA:Option Addr) (sn scap:Nat) (Y:Nat->Int) (mo:Nat) (hmo:mo<=255) (hsn:sn<=scap) (hsm:scap<=maxLen) (hy: ∀i,i<sn->0<=Y i/\Y i<=255)
 (w:World) (hT:Tab w) (hO:ONam w) (hss:Sl w sA sn (fun i=> .int .u8 (Y i))):
 Calls Tryz.prog 13 #[.agg #[.int .u8 (a:Int),.int .u8 (b:Int),.int .u8 (c:Int),.int .u8 (d:Int)],.slice sA sn scap,.int .u8 (mo:Int)] w fun ed w'=>ed= .returned (.bool true)/\Below w.heap.size w w':=by
 have hal:=(Below.refl w.heap.size w).alloc (Nat.le_refl _) (.cells #[.int .u8 (a:Int),.int .u8 (b:Int),.int .u8 (c:Int),.int .u8 (d:Int)] 91)
 have cA:=awake21_any _ (hT.step hal) (hO.step hal)
 have hX:=Blk.new w 91 #[.int .u8 (a:Int),.int .u8 (b:Int),.int .u8 (c:Int),.int .u8 (d:Int)]
 have HI:=Lib.hid (And.intro hT (And.intro hO (And.intro hss (And.intro hy (And.intro hsn (And.intro hsm h255))))))
 have HW:=Lib.hid (And.intro hX (And.intro hal (And.intro (hT.step hal) (hO.step hal))))
 clear hX hal hT hO hss hy hsn hsm h255
 obtain ⟨xb,hxb⟩: ∃xb,w.heap.size=xb:=⟨_,rfl⟩
 have HX0:=Lib.hid hxb.symm
 generalize hW1:w.alloc (.cells #[.int .u8 (a:Int),.int .u8 (b:Int),.int .u8 (c:Int),.int .u8 (d:Int)] 91)=W1 at cA HW
 rw [hxb]at HW
 go_enter Tryz.func13,Tryz.ntmps13
 go_wp2_with fail
 try rw [hW1]
 try rw [hxb]
 by_cases h3000:sn<=3000
 case neg=>
  have h3:((3000:Int)<(sn:Int)):=by omega
  with_reducible refine cA.mono ?_
  rintro ed Wa ⟨rfl,hB⟩
  have cA2:=awake21_any Wa (HW.out.2.2.1.step hB) (HW.out.2.2.2.step hB)
  have HB:=Lib.hid hB
  clear cA hB
  go_wp2_with fail
  with_reducible refine cA2.mono ?_
  rintro ed Wb ⟨rfl,hB2⟩
  clear cA2
  go_wp2
  go_ret
  rw [hxb]
  exact ⟨rfl,(HW.out.2.1.trans (HB.out.mono (by have :=HW.out.2.1.size;omega))).trans (hB2.mono (by have :=HW.out.2.1.size;have :=HB.out.size;omega))⟩
 case pos=>
  have h3: ¬((3000:Int)<(sn:Int)):=by omega
  with_reducible refine cA.mono ?_
  rintro ed Wa ⟨rfl,hB⟩
  clear cA hW1
  have hX:=HW.out.1.below hB HW.out.1.lt
  have hBa:Below xb w Wa:=HW.out.2.1.trans (hB.mono (by have :=HW.out.2.1.size;omega))
  have cM:=meetMk_any a b c d HI.out.2.2.2.2.2.2 Wa (HW.out.2.2.1.step hB) (HW.out.2.2.2.step hB)
  obtain ⟨th,hth⟩: ∃x,1+a % 4=x:=⟨_,rfl⟩
  rw [hth]at cM
  obtain ⟨N,hN⟩: ∃x,1+b % th=x:=⟨_,rfl⟩
  obtain ⟨rd,hrd⟩: ∃x,1+c % 4=x:=⟨_,rfl⟩
  obtain ⟨rm,hrm⟩: ∃x,1+d % 4=x:=⟨_,rfl⟩
  rw [hN,hrd,hrm]at cM
  have bth:1<=th/\th<=4:=by omega
  have bN:1<=N/\N<=th:=by have :=Nat.mod_lt b (show 0<th by omega);omega
  have brd:1<=rd/\rd<=4:=by omega
  have brm:1<=rm/\rm<=4:=by omega
  clear hth hN hrd hrm
  have hxl:=hX.lt
  have HXa:=Lib.hid (And.intro hX hBa)
  clear hX hBa hB
  go_wp2_with (refine wpList_load_row rfl 91 (.tmp 3) rfl xb rfl 91 #[.int .u8 (a:Int),.int .u8 (b:Int),.int .u8 (c:Int),.int .u8 (d:Int)] _ _ HXa.out.1 Tryz.underlying91 rfl meet_info ?_)
  with_reducible refine cM.mono ?_
  rintro ed Wb ⟨v,mA,mc,base,rfl,hm1,hm2,hBb,hCk,hSl⟩
  clear cM
  obtain ⟨vA,vc,hve⟩:=hCk.cap
  rw [List.length_map,List.length_range]at hve
  subst hve
  have halb:=(Below.refl Wb.heap.size Wb).alloc (Nat.le_refl _) (.cells #[.slice vA th vc,.slice mA 18 mc,.int .i64 (rm:Int)] 29)
  have hPb:=Blk.new Wb 29 #[.slice vA th vc,.slice mA 18 mc,.int .i64 (rm:Int)]
  have hCp:=hCk.below halb
  have hSp:=hSl.step halb
  have hXp:=(HXa.out.1.below hBb HXa.out.1.lt).below halb (by have :=(HXa.out.1.below hBb HXa.out.1.lt).lt;exact this)
  have hBp:Below xb w (Wb.alloc (.cells #[.slice vA th vc,.slice mA 18 mc,.int .i64 (rm:Int)] 29)):=(HXa.out.2.trans (hBb.mono (by have :=HXa.out.2.size;have :=HX0.out;omega))).trans (halb.mono (by have :=HXa.out.2.size;have :=HX0.out;have :=hBb.size;omega))
  obtain ⟨pb,hpb⟩: ∃pb,Wb.heap.size=pb:=⟨_,rfl⟩
  rw [hpb]at hPb
  have hpx:pb≠xb:=by have :=(HXa.out.1.below hBb HXa.out.1.lt).lt;omega
  clear hCk hSl halb hBb
  generalize hWp:Wb.alloc (.cells #[.slice vA th vc,.slice mA 18 mc,.int .i64 (rm:Int)] 29)=Wp at hPb hCp hSp hXp hBp
  have hL: ∀l∈(List.range th).map (fun t=>meetC N rd t),∃t,t<th/\l=meetC N rd t:=fun l hl=>by
   obtain ⟨t,h1,h2⟩:=List.mem_map.1 hl
   exact ⟨t,List.mem_range.1 h1,h2.symm⟩
  have hgd:=fun t=>meetC_good N rd t (by omega) brd.2
  obtain ⟨vA',vc',cds,hv',pO,pC,pA,pcd⟩:=hCp.prog (fun l hl x hx=>by obtain ⟨t,h1,rfl⟩:=hL l hl;exact (hgd t).1 x hx) (fun l hl x hx=>by obtain ⟨t,h1,rfl⟩:=hL l hl;exact (hgd t).2.1 x hx)
   (fun l hl=>by obtain ⟨t,h1,rfl⟩:=hL l hl;exact (hgd t).2.2) (by rw [List.length_map,List.length_range];omega) (room:=(rm:Int)) (by omega) (mA:=mA) (m:=18) (mcap:=mc) (by decide) ⟨hm1,hm2⟩ hSp
  rw [List.length_map,List.length_range]at hv' pO pC pA pcd
  injection hv' with e1 _ e2
  subst e1 e2
  obtain ⟨pg,hpg⟩: ∃pg,lPg vA th vc cds mA 18 mc (rm:Int)=pg:=⟨_,rfl⟩
  have cN:=tsoNew_ok pg (hpg▸pO) 0 0 (hpg▸pC) Wp (HI.out.1.step (HX0.out▸hBp)) (hpg▸pA)
  have hpv:pg.val= .agg #[.slice vA th vc,.slice mA 18 mc,.int .i64 (rm:Int)]:=by rw [<-hpg];rfl
  rw [hpv]at cN
  have pcd': ∀t,t<th->(pg.cd t).len=(meetC N rd t).length/\(pg.cd t).F=fun i=>(meetC N rd t).getD i default:=fun t ht=>by
   have h:=pcd t ht
   have e:((List.range th).map fun t=>meetC N rd t).getD t []=meetC N rd t:=by simp [List.getD_eq_getElem?_getD,List.getElem?_map,List.getElem?_range ht]
   rw [e]at h
   rw [<-hpg]
   exact h
  have HPG:=Lib.hid (And.intro (hpg▸pO) (And.intro (show 1<=pg.room/\pg.room<=16 by rw [<-hpg];show 1<=(rm:Int)/\(rm:Int)<=16;omega) (And.intro (show pg.m=18 by rw [<-hpg];rfl) (And.intro (show∀i,pg.Z i=0 by rw [<-hpg];exact fun _=>rfl) (And.intro (show pg.n=th by rw [<-hpg];rfl) (fun t (ht:t<pg.n)=>pcd' t (by rw [<-hpg]at ht;exact ht)))))))
  have HP:=Lib.hid (And.intro hPb (And.intro hXp (And.intro hBp hpx)))
  clear hL hgd pO pC pA pcd pcd' hpv hpg hPb hCp hSp hXp hBp hpx hm1 hm2
  have p0:=(HP.out.1.cell 0).trans rfl
  have p1:=(HP.out.1.cell 1).trans rfl
  have p2:=(HP.out.1.cell 2).trans rfl
  go_wp2_with fail
  try rw [hWp]
  try rw [hpb]
  with_reducible refine cN.mono ?_
  rintro ed W6 ⟨B,rfl,hNew,hroom,hI,hB6⟩
  clear cN hWp hpb p0 p1 p2
  have hBok:=newM_ok hNew (by rw [HPG.out.2.2.2.2.1];omega) (by rw [HPG.out.2.2.1];omega)
  have hOk0:=t0_ok HPG.out.1 hNew
  have hb6:Below w.heap.size w W6:=step_below (HX0.out▸HP.out.2.2.1) hB6
  have hss6:=HI.out.2.2.1.step hb6
  have hP6:=HP.out.1.below hB6 HP.out.1.lt
  have HM:=Lib.hid (And.intro hNew (And.intro hroom (And.intro hI (And.intro hb6 (And.intro hBok (And.intro hOk0 (And.intro hB6 hP6)))))))
  clear hNew hroom hI hB6 hBok hOk0 hb6 hP6
  obtain ⟨g5,hg5⟩: ∃g5,W6.heap.size=g5:=⟨_,rfl⟩
  have HG5:=Lib.hid hg5
  go_wp2_with (at_builtin;refine wpList_bytes_new rfl (.tmp 49) (.tmp 50) rfl g5 hg5 (by first|rfl|(rw [<-hg5];rfl)) sA sn scap (fun i=> .int .u8 (Y i)) rfl hss6 (fun _ _=>rfl) (by omega) ?_;intro A5 c5 W5' hbk hc5 hc5m hB5;have HB5:=Lib.hid (And.intro hbk hB5);clear hbk hB5 hss6 hg5)
  go_loopw [14] (fun v13 wr=> ∃i:Nat,i<=sn/\v13= .int .i64 (i:Int)/\Below g5 W6 wr/\(sn=0∨ ∃g' cs,A5=some ⟨g',0,none⟩/\Blk wr g' 5 cs/\g5<=g'/\ ∀j,j<sn->cs[j]?=some (.int .u8 (if j<i then Y j % 16 else Y j)))) (fun v13 _=>sn-(intOf v13).toNat)
  case atStart=>exact ⟨0,Nat.zero_le _,rfl,HB5.out.2,HB5.out.1.imp id (fun ⟨g',cs,h1,h2,h3,h4⟩=>⟨g',cs,h1,h2,h3,fun j hj=>by rw [if_neg (by omega)];exact h4 j hj⟩)⟩
  case round=>
   obtain ⟨i,hi,rfl,hBr,hbr⟩:=hrel
   obtain ⟨W9,rfl⟩: ∃W9,W9=wr:=⟨_,rfl⟩
   by_cases hil:i<sn
   case pos=>
    have hil':(i:Int)<(sn:Int):=by omega
    obtain ⟨g',cs,rfl,hblk,hgg,hcs⟩:=hbr.resolve_left (by omega)
    have hyi:=HI.out.2.2.2.1 i hil
    have y1:W9.cell? ⟨g',i,none⟩=some (.int .u8 (Y i)):=by rw [hblk.cell,hcs i hil,if_neg (by omega)]
    have y2:=hblk.frozen i
    have tm:Int.tmod (Y i) 16=Y i % 16:=Int.tmod_eq_emod_of_nonneg hyi.1
    have tw:IntKind.u8.wrap (Y i % 16)=Y i % 16:=IntWalk.u8_in _ (by omega)
    have hi0:(0:Int)<=(i:Int):=by omega
    have HBK:=Lib.hid (And.intro hBr (And.intro hblk (And.intro hgg hcs)))
    clear hBr hblk hcs hbr
    go_wp2_with fail
    go_roundw
    case rel=>
     obtain ⟨hBr,hblk,hgg,hcs⟩:=HBK.out
     refine ⟨i+1,by omega,by go_num,hBr.setCell (p:=⟨g',i,none⟩) hgg _,.inr ⟨g',_,rfl,hblk.set_ i _,hgg,fun j hj=>?_⟩⟩
     rw [Array.getElem?_setIfInBounds]
     split
     ·rename_i e
      subst e
      rw [if_pos (by have :=(Array.getElem?_eq_some_iff.1 (hcs i hil)).1;exact this),if_pos (by omega)]
     ·rw [hcs j hj]
      by_cases hji:j<i
      ·rw [if_pos hji,if_pos (by omega)]
      ·rw [if_neg hji,if_neg (by omega)]
    case measure=>simp [intOf];omega
   case neg=>
    have hie:i=sn:=by omega
    have hil': ¬(i:Int)<(sn:Int):=by omega
    subst hie
    obtain ⟨Y2,hY2⟩: ∃Y2:Nat->Int,(fun j=>Y j % 16)=Y2:=⟨_,rfl⟩
    have hs9:Sl W9 A5 i (fun j=> .int .u8 (Y2 j)):=fun hp=>by
     obtain ⟨g',cs,e,hblk,hgg,hcs⟩:=hbr.resolve_left (by omega)
     refine ⟨g',0,e,hblk.lt,fun j hj=>?_⟩
     rw [Nat.zero_add,hblk.cell,hcs j hj,if_pos hj,<-hY2]
    have hy2: ∀j,j<i->0<=Y2 j/\Y2 j<=15:=fun j hj=>by rw [<-hY2];dsimp only;omega
    have hsz9:W6.heap.size<=W9.heap.size:=by have :=hBr.size;have :=HG5.out;omega
    have hBr6:Below W6.heap.size W6 W9:=by rw [HG5.out];exact hBr
    have HY:=Lib.hid hy2
    have hB0:Below W6.heap.size W6 W9.drew:=step_below hBr6 (below_drewB W9)
    have hs0:=hs9.step (below_drewB W9)
    have hP0:=HM.out.2.2.2.2.2.2.2.below hB0 HM.out.2.2.2.2.2.2.2.lt
    have hsz0:W6.heap.size<=W9.drew.heap.size:=hsz9
    obtain ⟨wN,hwN⟩: ∃wN,4*th+mo=wN:=⟨_,rfl⟩
    obtain ⟨nN,hnN⟩: ∃nN,20*wN=nN:=⟨_,rfl⟩
    have uw:4*(th:Int)+(mo:Int)=(wN:Int):=by omega
    have un:20*(wN:Int)=(nN:Int):=by omega
    have un3:IntKind.i64.wrap (nN:Int)=(nN:Int):=IntWalk.i64_in _ (by omega)
    have un2:IntKind.i64.wrap (20*(wN:Int))=(nN:Int):=by rw [un];exact IntWalk.i64_in _ (by omega)
    have bw:4*th<=wN/\wN<=271:=by omega
    have bn:nN<=5420:=by omega
    have HNN:=Lib.hid hnN
    have hP9:=HM.out.2.2.2.2.2.2.2.below hBr6 HM.out.2.2.2.2.2.2.2.lt
    have p0:=(hP9.cell 0).trans rfl
    clear hbr hBr hY2 hBr6 hwN hnN hs9
    go_upto_region 13 with fail
    refine startG (fun W'=>Below W9.drew.heap.size W9.drew W') 13 (by kernel_rfl) ?_
    clear p0 hP9
    have hH:Below W9.drew.heap.size W9.drew W9.drew:=Below.refl _ _
    generalize W9.drew=W0 at hB0 hs0 hP0 hsz0 hH⊢
    have HX:=Lib.hid hP0
    have cR:=pickRead_any A5 i c5 Y2 W0 (by omega) hs0 (fun j hj=>by have :=hy2 j hj;omega)
    have HB9:=Lib.hid (And.intro hB0 hsz0)
    clear hy2 hs0 hP0 hB0 hsz0 hsz9
    refine takeA (i:=0) (v:= .slice A5 i c5) rfl hH ?_
    simp only [Act.put,zA,zB,zC,zD,zE,zF]
    refine takeA (i:=2) (v:= .pointer (some ⟨pb,0,none⟩)) rfl hH ?_
    simp only [Act.put,zA,zB,zC,zD,zE,zF]
    refine takeB (i:=3) (v:= .slice vA th vc) rfl (Or.inl ⟨by rfl,fun W hW=>by have q0:=((HX.out.below hW HX.out.lt).cell 0).trans rfl;go_simp⟩) hH ?_
    simp only [Act.put,zA,zB,zC,zD,zE,zF]
    refine takeA (i:=4) (v:= .int .i64 (th:Int)) rfl hH ?_
    simp only [Act.put,zA,zB,zC,zD,zE,zF]
    refine takeA (i:=5) (v:= .int .i64 (wN:Int)) rfl hH ?_
    simp only [Act.put,zA,zB,zC,zD,zE,zF]
    refine takeA (i:=6) (v:= .int .i64 (wN:Int)) rfl hH ?_
    simp only [Act.put,zA,zB,zC,zD,zE,zF]
    refine takeA (i:=7) (v:= .int .i64 (nN:Int)) rfl hH ?_
    simp only [Act.put,zA,zB,zC,zD,zE,zF]
    refine onlyG (i:=1) (by kernel_rfl) rfl (fun K hK=>?_)
    go_simp
    with_reducible refine cR.mono ?_
    rintro ed W7 ⟨cs7,rfl,hb7,hs7,hc7,hB7⟩
    refine hK.out _ _ hB7 (fun _=>?_)
    clear hK K cR
    try simp only [Act.put,zA,zB,zC,zD,zE,zF]
    have hpk:=read_picks hb7 hc7
    have cE:=even_yes (some ⟨W0.heap.size,0,none⟩) i i (fun i=>(Y2 i/8 % 3,Y2 i % 8)) th wN nN (by omega) (by omega) (by omega) bw.1 (by omega) (by omega) W7 hpk
    obtain ⟨g6,hg6⟩: ∃g6,W0.heap.size=g6:=⟨_,rfl⟩
    have HB7:=Lib.hid (And.intro hB7 hg6)
    clear hb7 hs7 hc7 hpk
    rw [hg6]at cE
    rw [hg6]at hB7
    try rw [hg6]
    refine onlyG (i:=8) (by kernel_rfl) rfl (fun K hK=>?_)
    go_simp
    with_reducible refine cE.mono ?_
    rintro ed W8 ⟨vL,L,D,kk,rfl,hLn,hown,hpl,hB8⟩
    refine hK.out _ _ (hB7.trans (hB8.mono (by have :=hB7.size;omega))) (fun _=>?_)
    clear hK K cE
    try simp only [Act.put,zA,zB,zC,zD,zE,zF]
    have hH:Below g6 W0 W8:=hB7.trans (hB8.mono (by have :=hB7.size;omega))
    refine takeA (i:=9) (v:= .tuple #[vL,.int .i64 0]) rfl hH ?_
    simp only [Act.put,zA,zB,zC,zD,zE,zF]
    refine takeA (i:=10) (v:=vL) rfl hH ?_
    simp only [Act.put,zA,zB,zC,zD,zE,zF]
    refine takeA (i:=11) (v:= .int .i64 0) rfl hH ?_
    simp only [Act.put,zA,zB,zC,zD,zE,zF]
    refine takeA (i:=12) (v:=vL) rfl hH ?_
    simp only [Act.put,zA,zB,zC,zD,zE,zF]
    refine lastG (by kernel_rfl) rfl (by kernel_rfl) (fun K hK=>?_)
    go_simp
    refine hK.out _ _ ?_
    clear hK K hB7 hH
    try simp only [Act.put,zA,zB,zC,zD,zE,zF]
    clear hg6
    rw [hLn]at hown
    obtain ⟨AL,cL,rfl,_,hslL⟩:=own_picks hown hLn
    obtain ⟨hNew,hroom,hI6,hb6,hBok,hOk0,hB6,hP6⟩:=HM.out
    have hfair:=hpl.fair (by omega) (by omega) bw.1 (by omega) (by omega)
    have hB9:Below W6.heap.size W6 W8:=step_below HB9.out.1 (step_below HB7.out.1 hB8)
    have hI8:=hI6.below hB9
    have hb8:=step_below hb6 hB9
    obtain ⟨hnc,hCd,mu0,hl0,hmu0,hR0⟩:=meetm_begin HPG.out.1 hNew hroom HPG.out.2.1 HPG.out.2.2.1 HPG.out.2.2.2.1 (N:=N) (rd:=rd) bN.1 brd.2 (by rw [HPG.out.2.2.2.2.1];exact bN.2) (by rw [HPG.out.2.2.2.2.1];omega) HPG.out.2.2.2.2.2
    have hok: ∀x∈L,x.1≠2:=hpl.all (P:=fun x=>x.1≠2) (fun kind who hk _=>by show ((kind:Nat):Int)≠2;omega) (fun q hq=>by have :=HY.out q hq;show Y2 q/8 % 3≠2;omega)
    have hEv0:EvC 999999000 (2*(1000*nN)) (t0 pg):=by
     unfold EvC
     show 0+tot (List.replicate pg.n [])+_<=_
     rw [tot_nil];omega
    have hths: ∀s,TOk B s->s.ths.length=th/\s.bufs.length=s.ths.length:=fun s hs=>⟨by have h1:=hs.ok.nt;have h2:=hNew.n;have h4:=HPG.out.2.2.2.2.1;omega,by rw [hs.bl,hs.ok.nt]⟩
    obtain ⟨g9,hg9⟩: ∃g9,W8.heap.size=g9:=⟨_,rfl⟩
    have hLb:0<nN-> ∀bb o,AL=some ⟨bb,o,none⟩->g6<=bb/\bb<g9:=fun hp bb o e=>by
     have h1:=own_in hown bb (by rw [e];rfl)
     have h2:=HB7.out.1.size
     have h3:=HB7.out.2
     exact ⟨by omega,by rw [<-hg9];exact h1.2⟩
    have hsz8:g6<=g9:=by have h1:=HB7.out.1.size;have h2:=HB7.out.2;have h3:=hB8.size;omega
    have hown0: ∀i,(fun i=>Wp.heap.size<=i/\i<W6.heap.size) i->Wp.heap.size<=i/\(i<g6∨g9<=i):=fun i q=>⟨q.1,.inl (by have h1:=q.2;have h2:=HB9.out.2;have h3:=HB7.out.2;omega)⟩
    have hwp:w.heap.size<=Wp.heap.size:=by have h1:=HP.out.2.2.1.size;have h2:=HX0.out;omega
    have hTab:=HI.out.1
    have hfull:20*wN<=L.length:=by rw [hLn,HNN.out];exact Nat.le_refl _
    have hBm:B.m=18:=by have h1:=hNew.m;have h2:=HPG.out.2.2.1;omega
    have HA0:=Lib.hid (And.intro hR0 (And.intro hmu0 (And.intro hOk0 (And.intro hEv0 (And.intro hI8 (And.intro hown0 (And.intro hb8 hslL)))))))
    have HA:=Lib.hid (And.intro (And.intro hnc (And.intro hCd hok)) (And.intro hBok (And.intro hths (And.intro hLb (And.intro hfair.2.2 (And.intro hroom (And.intro hsz8 (And.intro hwp (And.intro hfull (And.intro hLn (And.intro HPG.out.2.2.2.2.1 hBm)))))))))))
    have HG9:=Lib.hid hg9
    have HWP:=Lib.hid (show Wp.heap.size<=g9 by have h1:=HB7.out.1.size;have h2:=HB7.out.2;have h3:=hB8.size;have h4:=hB6.size;have h5:=HB9.out.2;omega)
    clear hnc hCd hok hBok hths hLb hfair hroom hsz8 hwp hfull hLn hNew hI6 hI8 hb6 hb8 hOk0 hB6 hpl hown hslL hB8 hR0 hmu0 hEv0 hg9 hown0 hTab hBm hB9 hP6
    go_wp2_with fail
    go_loopw [18] (fun vi wr=> ∃(k:Nat) (s:Mst) (own:Nat->Prop) (mu:Nat) (h:Int×Int),k<=1000/\vi= .int .i64 (k:Int)/\MeetR N rd B s mu h/\mu<=20000-20*k/\TOk B s/\EvC 999999000 (2*((1000-k)*nN)) s/\MInv tsoL B s own wr/\(∀i,own i->Wp.heap.size<=i/\(i<g6∨g9<=i))/\g9<=wr.heap.size/\Below w.heap.size w wr/\SlE wr AL nN 2 (fun i=>pkE (L.getD i (0,0)))) (fun vi _=>1000-(intOf vi).toNat)
    case atStart=>exact ⟨0,t0 pg,_,mu0,hl0,Nat.zero_le _,rfl,HA0.out.1,by have :=HA0.out.2.1;omega,HA0.out.2.2.1,HA0.out.2.2.2.1,HA0.out.2.2.2.2.1,HA0.out.2.2.2.2.2.1,by rw [HG9.out];exact Nat.le_refl _,HA0.out.2.2.2.2.2.2.1,HA0.out.2.2.2.2.2.2.2⟩
    case round=>
     obtain ⟨k,s,own,mu,h,hk,rfl,hR,hmu,hOk,hEv,hI9,hown9,hg,hBw,hsl⟩:=hrel
     obtain ⟨hth1,hth2⟩:=HA.out.2.2.1 s hOk
     by_cases hk3:k<1000
     case neg=>
      have hke: ¬(k:Int)<1000:=by omega
      have hmu0:mu=0:=by omega
      rw [hmu0]at hR
      have hdn:=hR.done
      have hD:doneM s=true:=doneM_of (fun t ht=>hdn t (by rw [HA.out.1.1,HA.out.2.2.2.2.2.2.2.2.2.2.1];rw [hth1]at ht;exact ht))
      have cD:=tdone_any B s own wr hI9 (by omega) (by omega) hth2
      rw [hD]at cD
      have HBW:=Lib.hid hBw
      have HST:=Lib.hid (And.intro hOk (And.intro hD (And.intro hI9 (And.intro hEv hR))))
      clear hR hmu hOk hEv hI9 hown9 hg hBw hsl hdn hD hth1 hth2 hmu0
      go_wp2_with fail
      with_reducible refine cD.mono ?_
      rintro ed Wz ⟨rfl,hBz⟩
      clear cD
      have hIz:=HST.out.2.2.1.below hBz
      obtain ⟨f16,f17,fC,fm,fk⟩:=HST.out.2.2.2.2.fin HST.out.2.1
      have hml:s.mem.length=18:=by rw [fm];exact HA.out.2.2.2.2.2.2.2.2.2.2.2
      have hel:s.evs.length<=999999000:=by have :=HST.out.2.2.2.1;unfold EvC at this;omega
      have HFF:=Lib.hid (And.intro f16 (And.intro f17 (And.intro fC (And.intro hml (And.intro fk hel)))))
      have cM1:=tmem_any B s own Wz hIz (by rw [hml];omega)
      have HIz:=Lib.hid hIz
      have HBz:=Lib.hid (step_below HBW.out hBz)
      clear f16 f17 fC fm fk hml hel hIz hBz
      go_wp2_with fail
      with_reducible refine cM1.mono ?_
      rintro ed Wm1 ⟨v1,rfl,hr1,hB1⟩
      obtain ⟨b1,o1,c1,rfl,hl1,hx1⟩:=mem_cells hr1 HFF.out.2.2.2.1 (by omega)
      have HB1:=Lib.hid (step_below HBz.out hB1)
      have HI1:=Lib.hid (HIz.out.below hB1)
      have cM2:=tmem_any B s own Wm1 HI1.out (by rw [HFF.out.2.2.2.1];omega)
      clear cM1 hr1 hx1 hB1 hl1
      go_wp2_with fail
      with_reducible refine cM2.mono ?_
      rintro ed Wm2 ⟨v2,rfl,hr2,hB2⟩
      obtain ⟨b2,o2,c2,rfl,hl2,hx2⟩:=mem_cells hr2 HFF.out.2.2.2.1 (by omega)
      have y2:=hx2 16 (by omega)
      rw [HFF.out.1]at y2
      have HB2:=Lib.hid (step_below HB1.out hB2)
      have HI2:=Lib.hid (HI1.out.below hB2)
      have cM3:=tmem_any B s own Wm2 HI2.out (by rw [HFF.out.2.2.2.1];omega)
      clear cM2 hr2 hx2 hB2 hl2
      go_wp2_with fail
      with_reducible refine cM3.mono ?_
      rintro ed Wm3 ⟨v3,rfl,hr3,hB3⟩
      obtain ⟨b3,o3,c3,rfl,hl3,hx3⟩:=mem_cells hr3 HFF.out.2.2.2.1 (by omega)
      have y3:=hx3 17 (by omega)
      rw [HFF.out.2.1]at y3
      have HB3:=Lib.hid (step_below HB2.out hB3)
      have HI3:=Lib.hid (HI2.out.below hB3)
      have cV:=tevents_any B s own Wm3 HI3.out (by have :=HFF.out.2.2.2.2.2;omega)
      have urd:IntKind.u32.wrap (rd:Int)=(rd:Int):=IntWalk.u32_in _ (by omega)
      clear cM3 hr3 hx3 hB3 hl3 y2
      go_wp2_with fail
      with_reducible refine cV.mono ?_
      rintro ed We2 ⟨ve,rfl,hr9,hBe2⟩
      obtain ⟨AE,cE,rfl,_,hslE⟩:=own_sle Evt.cells (fun _=>rfl) ev0 s.evs hr9
      obtain ⟨ne,hne⟩: ∃ne,s.evs.length=ne:=⟨_,rfl⟩
      have hsE:=evF_sle HFF.out.2.2.2.2.1 hslE
      rw [hne]at hsE
      have hnb:ne<=999999000:=by rw [<-hne];exact HFF.out.2.2.2.2.2
      try rw [hne]
      have cC:=tcalls_any AE ne cE (evF s.evs) (by omega) We2 hsE
      have HBe:=Lib.hid (step_below HB3.out hBe2)
      have HNE:=Lib.hid hne
      clear cV hr9 hslE hsE hBe2 y3 hne
      go_wp2_with fail
      with_reducible refine cC.mono ?_
      rintro ed Wf2 ⟨vC,RV,rfl,hRV,hPT,_,hBf⟩
      obtain ⟨AC,cC2,rfl,_,_,_⟩:=hPT
      have hlen:RV.length=N*rd:=by
       have h1:=HFF.out.2.2.1
       rw [HNE.out]at h1
       rw [<-h1,<-hRV,List.length_map]
      rw [hlen]
      obtain ⟨q,hq⟩: ∃q,N*rd=q:=⟨_,rfl⟩
      have hq16:q<=16:=by rw [<-hq];exact Nat.mul_le_mul (show N<=4 by omega) brd.2
      have uq:(N:Int)*(rd:Int)=(q:Int):=by rw [<-hq];exact (Int.natCast_mul _ _).symm
      rw [hq]
      have HBF:=Lib.hid (step_below HBe.out hBf)
      clear cC hRV hlen hBf hq
      go_wp2
      go_ret
      exact ⟨rfl,by have K:=HBF.out;first|exact K|(rw [hxb]at K;exact K)⟩
     case pos=>
      have hke:(k:Int)<1000:=by omega
      have cD:=tdone_any B s own wr hI9 (by omega) (by omega) hth2
      obtain ⟨dn,hdn⟩: ∃dn,doneM s=dn:=⟨_,rfl⟩
      rw [hdn]at cD
      have HRR:=Lib.hid (And.intro hR (And.intro hmu (And.intro hOk (And.intro hEv (And.intro hI9 (And.intro hown9 (And.intro hg (And.intro hBw (And.intro hsl (And.intro hdn (And.intro hth1 hth2)))))))))))
      clear hR hmu hOk hEv hI9 hown9 hg hBw hsl hdn hth1 hth2
      go_wp2_with fail
      with_reducible refine cD.mono ?_
      rintro ed Wd ⟨rfl,hBd⟩
      clear cD
      obtain ⟨hR,hmu,hOk,hEv,hI9,hown9,hg,hBw,hsl,hdn,hth1,hth2⟩:=HRR.out
      have hId:=hI9.below hBd
      cases dn with
      |true=>
       have cD2:=tdone_any B s own Wd hId (by omega) (by omega) hth2
       rw [hdn]at cD2
       have HBW:=Lib.hid (step_below hBw hBd)
       have HST:=Lib.hid (And.intro hOk (And.intro hdn (And.intro hId (And.intro hEv hR))))
       clear hR hmu hOk hEv hI9 hown9 hg hBw hsl hdn hth1 hth2 hBd hId
       go_wp2_with fail
       with_reducible refine cD2.mono ?_
       rintro ed Wz ⟨rfl,hBz⟩
       clear cD2
       have hIz:=HST.out.2.2.1.below hBz
       obtain ⟨f16,f17,fC,fm,fk⟩:=HST.out.2.2.2.2.fin HST.out.2.1
       have hml:s.mem.length=18:=by rw [fm];exact HA.out.2.2.2.2.2.2.2.2.2.2.2
       have hel:s.evs.length<=999999000:=by have :=HST.out.2.2.2.1;unfold EvC at this;omega
       have HFF:=Lib.hid (And.intro f16 (And.intro f17 (And.intro fC (And.intro hml (And.intro fk hel)))))
       have cM1:=tmem_any B s own Wz hIz (by rw [hml];omega)
       have HIz:=Lib.hid hIz
       have HBz:=Lib.hid (step_below HBW.out hBz)
       clear f16 f17 fC fm fk hml hel hIz hBz
       go_wp2_with fail
       with_reducible refine cM1.mono ?_
       rintro ed Wm1 ⟨v1,rfl,hr1,hB1⟩
       obtain ⟨b1,o1,c1,rfl,hl1,hx1⟩:=mem_cells hr1 HFF.out.2.2.2.1 (by omega)
       have HB1:=Lib.hid (step_below HBz.out hB1)
       have HI1:=Lib.hid (HIz.out.below hB1)
       have cM2:=tmem_any B s own Wm1 HI1.out (by rw [HFF.out.2.2.2.1];omega)
       clear cM1 hr1 hx1 hB1 hl1
       go_wp2_with fail
       with_reducible refine cM2.mono ?_
       rintro ed Wm2 ⟨v2,rfl,hr2,hB2⟩
       obtain ⟨b2,o2,c2,rfl,hl2,hx2⟩:=mem_cells hr2 HFF.out.2.2.2.1 (by omega)
       have y2:=hx2 16 (by omega)
       rw [HFF.out.1]at y2
       have HB2:=Lib.hid (step_below HB1.out hB2)
       have HI2:=Lib.hid (HI1.out.below hB2)
       have cM3:=tmem_any B s own Wm2 HI2.out (by rw [HFF.out.2.2.2.1];omega)
       clear cM2 hr2 hx2 hB2 hl2
       go_wp2_with fail
       with_reducible refine cM3.mono ?_
       rintro ed Wm3 ⟨v3,rfl,hr3,hB3⟩
       obtain ⟨b3,o3,c3,rfl,hl3,hx3⟩:=mem_cells hr3 HFF.out.2.2.2.1 (by omega)
       have y3:=hx3 17 (by omega)
       rw [HFF.out.2.1]at y3
       have HB3:=Lib.hid (step_below HB2.out hB3)
       have HI3:=Lib.hid (HI2.out.below hB3)
       have cV:=tevents_any B s own Wm3 HI3.out (by have :=HFF.out.2.2.2.2.2;omega)
       have urd:IntKind.u32.wrap (rd:Int)=(rd:Int):=IntWalk.u32_in _ (by omega)
       clear cM3 hr3 hx3 hB3 hl3 y2
       go_wp2_with fail
       with_reducible refine cV.mono ?_
       rintro ed We2 ⟨ve,rfl,hr9,hBe2⟩
       obtain ⟨AE,cE,rfl,_,hslE⟩:=own_sle Evt.cells (fun _=>rfl) ev0 s.evs hr9
       obtain ⟨ne,hne⟩: ∃ne,s.evs.length=ne:=⟨_,rfl⟩
       have hsE:=evF_sle HFF.out.2.2.2.2.1 hslE
       rw [hne]at hsE
       have hnb:ne<=999999000:=by rw [<-hne];exact HFF.out.2.2.2.2.2
       try rw [hne]
       have cC:=tcalls_any AE ne cE (evF s.evs) (by omega) We2 hsE
       have HBe:=Lib.hid (step_below HB3.out hBe2)
       have HNE:=Lib.hid hne
       clear cV hr9 hslE hsE hBe2 y3 hne
       go_wp2_with fail
       with_reducible refine cC.mono ?_
       rintro ed Wf2 ⟨vC,RV,rfl,hRV,hPT,_,hBf⟩
       obtain ⟨AC,cC2,rfl,_,_,_⟩:=hPT
       have hlen:RV.length=N*rd:=by
        have h1:=HFF.out.2.2.1
        rw [HNE.out]at h1
        rw [<-h1,<-hRV,List.length_map]
       rw [hlen]
       obtain ⟨q,hq⟩: ∃q,N*rd=q:=⟨_,rfl⟩
       have hq16:q<=16:=by rw [<-hq];exact Nat.mul_le_mul (show N<=4 by omega) brd.2
       have uq:(N:Int)*(rd:Int)=(q:Int):=by rw [<-hq];exact (Int.natCast_mul _ _).symm
       rw [hq]
       have HBF:=Lib.hid (step_below HBe.out hBf)
       clear cC hRV hlen hBf hq
       go_wp2
       go_ret
       exact ⟨rfl,by have K:=HBF.out;first|exact K|(rw [hxb]at K;exact K)⟩
      |false=>
       have hF:=range_getD_pk L HA.out.2.2.2.2.2.2.2.2.2.1
       have hlo2: ∀i,own i->2<=i:=fun i q=>by have h1:=(hown9 i q).1;have h2:=HA.out.2.2.2.2.2.2.2.1;have h3:=HI.out.1.1;omega
       have cQ:=trun2_any B HA.out.2.1 s (by rw [HA.out.2.2.2.2.2.1];exact HPG.out.2.1.2) hOk AL nN cL (fun i=>L.getD i (0,0)) (hEv.mono (by
        have h1:nN<=(1000-k)*nN:=Nat.le_mul_of_pos_left nN (by omega)
        omega)) own Wd hId (HI.out.1.step (step_below hBw hBd)) (hsl.below (Nat.le_refl _) hBd) (fun hp bb o e q=>by
        have h1:=HA.out.2.2.2.1 hp bb o e
        have h2:=(hown9 bb q).2
        omega) (by omega)
       rw [hF]at cQ
       obtain ⟨mu',hl',hR',hmu'⟩:=(meet_lives HA.out.2.1 (by rw [HA.out.1.1,HA.out.2.2.2.2.2.2.2.2.2.2.1];omega) HA.out.1.2.1).windows 20 L (nt:=B.codes.length) (w:=wN) (by rw [HA.out.1.1,HA.out.2.2.2.2.2.2.2.2.2.2.1];exact HA.out.2.2.2.2.1) HA.out.1.2.2 HA.out.2.2.2.2.2.2.2.2.1 hR
       have hOk':=tRun_ok HA.out.2.1 L s hOk
       have hEv':EvC 999999000 (2*((1000-(k+1))*nN)) (tRun B s L):=by
        refine tRun_evc L (hEv.mono ?_)
        have e1:(1000-k)*nN=(1000-(k+1))*nN+nN:=by rw [show 1000-k=1000-(k+1)+1 by omega,Nat.succ_mul]
        have e2:=HA.out.2.2.2.2.2.2.2.2.2.1
        omega
       obtain ⟨S',hS'⟩: ∃S',tRun B s L=S':=⟨_,rfl⟩
       rw [hS']at cQ hR' hOk' hEv'
       have HN1:=Lib.hid (And.intro hR' (And.intro hmu' (And.intro hOk' (And.intro hEv' (And.intro hmu (And.intro hown9 (And.intro hg (And.intro (step_below hBw hBd) (And.intro (hsl.below (Nat.le_refl _) hBd) hBd.size)))))))))
       clear hR hmu hOk hEv hI9 hown9 hg hBw hsl hdn hth1 hth2 hBd hId hF hlo2 hR' hmu' hOk' hEv' hS'
       go_wp2_with fail
       with_reducible refine cQ.mono ?_
       rintro ed We ⟨⟨u,rfl⟩,hMv⟩
       clear cQ
       have HMV:=Lib.hid hMv
       clear hMv
       go_wp2_with fail
       go_roundw
       case rel=>
        obtain ⟨own',hI',ho',hk'⟩:=HMV.out
        obtain ⟨hR',hmu',hOk',hEv',hmu,hown9,hg,hBw,hsl,hsz⟩:=HN1.out
        refine ⟨k+1,S',own',mu',hl',by omega,by go_num,hR',by omega,hOk',hEv',hI',fun i q=>?_,Nat.le_trans hg (Nat.le_trans hsz hk'.size),hk'.belowM hBw hBw.size (fun i q=>Nat.le_trans HA.out.2.2.2.2.2.2.2.1 (hown9 i q).1),hk'.sle hsl (fun hp bb o e q=>?_)⟩
        ·rcases ho' i q with z|z
         ·exact hown9 i z
         ·have h9:g9<=i:=Nat.le_trans hg (Nat.le_trans hsz z)
          have h8:=HA.out.2.2.2.2.2.2.2.1
          have hp:=HWP.out
          exact ⟨by omega,.inr h9⟩
        ·have h1:=HA.out.2.2.2.1 hp bb o e
         have h2:=(hown9 bb q).2
         omega
       case measure=>simp [intOf];omega
end Go.Proofs.YtmhfpjnkjlhbpaaGreatDoor
