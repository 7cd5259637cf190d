/- GateWakes: the law: who sleep at a condition are all woken. -/
import Derived.Test.YtmhfpjnkjlhbpaaGreatDoorQj34
import Derived.Test.YtmhfpjnkjlhbpaaGreatDoorQj28
import Derived.Test.YtmhfpjnkjlhbpaaGreatDoorQj35
import Derived.Test.YtmhfpjnkjlhbpaaGreatDoorQj38
import Derived.Test.YtmhfpjnkjlhbpaaGreatDoorQj42
import Derived.Deep.DeepMust
namespace Go.Proofs.YtmhfpjnkjlhbpaaGreatDoor
open Go.ChangeShapes Go.WideShapes Go.ChangeAt Go.RowKit Go.Deep
set_option linter.unusedVariables false
set_option maxRecDepth 100000
set_option linter.unusedSimpArgs false
theorem alloc_sz (W:World) (o:Obj):(W.alloc o).heap.size=W.heap.size+1:=by unfold World.alloc;exact Array.size_push _
theorem obj_info5:(Tryz.prog.info? 46).map (·.size)=some 4:=by kernel_rfl
theorem tpick_low (B:MB) (hB:MBok B) (hr16:B.room<=16) (s:Mst) (hs:TOk B s) {k:Nat} (hc:EvC 999999000 k s) (own:Nat->Prop) (W:World) (hI:MInv tsoL B s own W) (hT:Tab W) {lo:Nat} (ho: ∀i,own i->lo<=i) (hlo:lo<=W.heap.size) (x:Int×Int):
 Calls Tryz.prog 36 #[.pointer (some ⟨B.mb,0,none⟩),.agg #[.int .i64 x.1,.int .i64 x.2]] W fun e W'=>(∃u,e= .returned u)/\ ∃own',MInv tsoL B (tPick B s x) own' W'/\(∀i,own' i->lo<=i)/\Below lo W W'/\(∀i,own' i->own i∨W.heap.size<=i)/\KeepOut own W W':=by
 refine (tpick_any B hB hr16 s hs (can_of hs hB (hc.mono (Nat.zero_le _))) own W hI hT x).mono ?_
 rintro e W' ⟨he,own',h1,h2,h3⟩
 exact ⟨he,own',h1,fun i hi=>(h2 i hi).elim (ho i) (fun q=>by omega),⟨h3.os,h3.tape,h3.output,by have :=h3.size;omega,fun i hi=>h3.block i (by omega) (fun q=>by have :=ho i q;omega)⟩,h2,h3⟩
set_option maxHeartbeats 40000000 in
theorem gateWakes_true (a b mo:Nat) (h255:a<=255/\b<=255/\mo<=255) (sA:Option Addr) (sn scap:Nat) (Y:Nat->Int) (hsn:sn<=scap) (hsm:scap<=maxLen) (hy: ∀i,i<sn->0<=Y i/\Y i<=255)
 (w:World) (hT:Tab w) (hO:ONam w) (hss:Sl w sA sn (fun i=> .int .u8 (Y i))):
 Calls Tryz.prog 12 #[.int .u8 (a:Int),.int .u8 (b:Int),.slice sA sn scap,.int .u8 (mo:Int)] w fun ed w'=>ed= .returned (.bool true)/\Below w.heap.size w w':=by
 have cA:=awake21_any w hT hO
 have HI:=Lib.hid (And.intro hT (And.intro hO (And.intro hss (And.intro hy (And.intro hsn (And.intro hsm h255))))))
 clear hT hO hss hy hsn hsm h255
 go_enter Tryz.func12,Tryz.ntmps12
 go_wp2_with fail
 by_cases h3000:sn<=3000
 case neg=>
  have h3:((3000:Int)<(sn:Int)):=by omega
  with_reducible refine cA.mono ?_
  rintro ed Wa ⟨rfl,hB⟩
  have cA2:=awake21_any Wa (HI.out.1.step hB) (HI.out.2.1.step hB)
  have HB:=Lib.hid hB
  clear cA hB
  go_wp2_with fail
  with_reducible refine cA2.mono ?_
  rintro ed Wb ⟨rfl,hB2⟩
  clear cA2
  go_wp2
  go_ret
  exact ⟨rfl,step_below HB.out hB2⟩
 case pos=>
  have h3: ¬((3000:Int)<(sn:Int)):=by omega
  with_reducible refine cA.mono ?_
  rintro ed Wa ⟨rfl,hBa⟩
  clear cA
  obtain ⟨n,hn⟩: ∃x,1+a % 3=x:=⟨_,rfl⟩
  obtain ⟨nT,hnT⟩: ∃x,n+1=x:=⟨_,rfl⟩
  obtain ⟨rm,hrm⟩: ∃x,1+b % 4=x:=⟨_,rfl⟩
  obtain ⟨m,hm⟩: ∃x,18+n=x:=⟨_,rfl⟩
  have bn:1<=n/\n<=3:=by omega
  have brm:1<=rm/\rm<=4:=by omega
  have b255:=HI.out.2.2.2.2.2.2
  have ra:IntKind.i64.wrap (a:Int)=(a:Int):=IntWalk.i64_in _ (by omega)
  have rb:IntKind.i64.wrap (b:Int)=(b:Int):=IntWalk.i64_in _ (by omega)
  have rmo:IntKind.i64.wrap (mo:Int)=(mo:Int):=IntWalk.i64_in _ (by omega)
  have ta:Int.tmod (a:Int) 3=(nT:Int)-2:=by
   rw [Int.tmod_eq_emod_of_nonneg (by omega)]
   omega
  have tb:Int.tmod (b:Int) 4=(rm:Int)-1:=by
   rw [Int.tmod_eq_emod_of_nonneg (by omega)]
   omega
  have sa:IntKind.i64.wrap ((nT:Int)-2)=(nT:Int)-2:=IntWalk.i64_in _ (by omega)
  have sb:IntKind.i64.wrap ((rm:Int)-1)=(rm:Int)-1:=IntWalk.i64_in _ (by omega)
  have ua:IntKind.i64.wrap (2+((nT:Int)-2))=(nT:Int):=by rw [show 2+((nT:Int)-2)=(nT:Int) by omega];exact IntWalk.i64_in _ (by omega)
  have ub:IntKind.i64.wrap (1+((rm:Int)-1))=(rm:Int):=by rw [show 1+((rm:Int)-1)=(rm:Int) by omega];exact IntWalk.i64_in _ (by omega)
  have un:IntKind.i64.wrap ((nT:Int)-1)=(n:Int):=by rw [show (nT:Int)-1=(n:Int) by omega];exact IntWalk.i64_in _ (by omega)
  clear hn hrm b255
  have hq:=Blk.new Wa 46 #[.int .i64 12,.int .i64 0,.int .i64 0,.int .i64 0]
  have hBq:=(Below.refl Wa.heap.size Wa).alloc (Nat.le_refl _) (.cells #[.int .i64 12,.int .i64 0,.int .i64 0,.int .i64 0] 46)
  obtain ⟨qb,hqb⟩: ∃qb,Wa.heap.size=qb:=⟨_,rfl⟩
  go_upto_region 5 with fail
  try rw [hqb]
  rw [hqb]at hq
  generalize hW3:Wa.alloc (.cells #[.int .i64 12,.int .i64 0,.int .i64 0,.int .i64 0] 46)=W3 at hq hBq
  try rw [hW3]
  have HQ:=Lib.hid (And.intro hq (And.intro (step_below hBa hBq) hq.lt))
  clear hW3 hqb hq hBq hBa
  go_wp2_with fail
  go_loopw [11,12] (fun v11 v12 wr=> ∃(k cv:Nat) (A:Option Addr),k<=n/\v12= .int .i64 ((k:Int)+1)/\v11= .slice A k cv/\LOwn wr W3.heap.size (.slice A k cv) ((List.range k).map (conR n))/\Below W3.heap.size W3 wr) (fun v11 v12 _=>nT-(intOf v12).toNat)
  case atStart=>exact ⟨0,0,none,Nat.zero_le _,rfl,rfl,LOwn.nil _ _,Below.refl _ _⟩
  case round=>
   obtain ⟨k,cv,A,hk,rfl,rfl,hL,hB⟩:=hrel
   obtain ⟨wo,rfl⟩: ∃wo:World,wo=wr:=⟨_,rfl⟩
   by_cases hlt:k<n
   case pos=>
    have hlt':(k:Int)+1<(nT:Int):=by omega
    have hal:=(Below.refl wo.heap.size wo).alloc (Nat.le_refl _) (.cells #[.int .i64 5,.int .i64 6] 3)
    have hLq:=hL.step hal
    have hR3:=own_lit2 wo 5 6 (base:=W3.heap.size) hB.size
    have hb3:W3.heap.size<=(wo.alloc (.cells #[.int .i64 5,.int .i64 6] 3)).heap.size:=Nat.le_trans hB.size hal.size
    have hkl:k<=100:=by omega
    have hsz:(wo.alloc (.cells #[.int .i64 5,.int .i64 6] 3)).heap.size=wo.heap.size+1:=alloc_sz _ _
    have HB:=Lib.hid (hB.trans (hal.mono hB.size))
    clear hL hB hal
    go_wp2_with (at_builtin;(refine LOwn.app hLq (by simp) hR3 rfl hb3 rfl (.tmp 44) (.tmp 46) rfl rfl (by rw [hsz];rfl) hkl ?_);intro A' c' w' hL' hB';have HL':=Lib.hid (And.intro hL' hB');clear hL' hB' hLq hR3)
    go_roundw
    case rel=>exact ⟨k+1,c',A',by omega,by go_num,rfl,by rw [List.range_succ,List.map_append,List.map_singleton,conR_lo hlt];exact HL'.out.1,HB.out.trans HL'.out.2⟩
    case measure=>simp [intOf];omega
   case neg=>
    obtain rfl:n=k:=by omega
    have hlt': ¬(n:Int)+1<(nT:Int):=by omega
    have hal:=(Below.refl wo.heap.size wo).alloc (Nat.le_refl _) (.cells #[.int .i64 8] 3)
    have hLq:=hL.step hal
    have hR3:=own_lit1 wo 8 (base:=W3.heap.size) hB.size
    have hb3:W3.heap.size<=(wo.alloc (.cells #[.int .i64 8] 3)).heap.size:=Nat.le_trans hB.size hal.size
    have hkl:n<=100:=by omega
    have hsz:(wo.alloc (.cells #[.int .i64 8] 3)).heap.size=wo.heap.size+1:=alloc_sz _ _
    have HB:=Lib.hid (hB.trans (hal.mono hB.size))
    clear hL hB hal
    go_wp2_with (first|(at_builtin;refine LOwn.app hLq (by simp) hR3 rfl hb3 rfl (.tmp 48) (.tmp 50) rfl rfl (by rw [hsz];rfl) hkl ?_;intro A' c' w' hL' hB';have hB9:=HB.out.trans hB';have hQ5:=HQ.out.1.below hB9 HQ.out.2.2;have HL':=Lib.hid (And.intro hL' hB9);clear hL' hB' hLq hR3 hB9)|(refine wpList_load_row rfl 46 (.tmp 10) rfl qb rfl 46 #[.int .i64 12,.int .i64 0,.int .i64 0,.int .i64 0] _ _ hQ5 Tryz.underlying46 rfl obj_info5 ?_))
    have hLL:((List.range n).map (conR n))++[[8]]=(List.range nT).map (conR n):=by rw [<-hnT,List.range_succ,List.map_append,List.map_singleton,conR_hi]
    obtain ⟨hL',hB9⟩:=HL'.out
    rw [hLL,hnT]at hL'
    obtain ⟨A2,c2,e',hc1,hc2,hrows⟩:=hL'.rows
    rw [List.length_map,List.length_range]at e' hc1
    injection e' with e1 _ e2
    subst e1 e2
    have hBw:Below w.heap.size w w':=HQ.out.2.1.trans (hB9.mono (by have :=HQ.out.2.1.size;omega))
    have hlenT: ∀t,t<nT->((List.range nT).map (conR n)).getD t []=conR n t:=fun t ht=>by simp [List.getD_eq_getElem?_getD,List.getElem?_map,List.getElem?_range ht]
    have hrl: ∀t,(conR n t).length<=4/\ ∀j,j<(conR n t).length->0<=(conR n t).getD j 0/\(conR n t).getD j 0<=1000:=fun t=>by
     unfold conR
     split
     ·refine ⟨by show 2<=4;omega,fun j hj=>?_⟩
      match j,hj with
      |0,_=>exact ⟨by decide,by decide⟩
      |1,_=>exact ⟨by decide,by decide⟩
     ·refine ⟨by show 1<=4;omega,fun j hj=>?_⟩
      match j,hj with
      |0,_=>exact ⟨by decide,by decide⟩
    have hok: ∀t i,t<nT->i<(conR n t).length-> ∀x∈conO n t i,x.Ok:=fun t i ht hi x hx=>by
     unfold conO at hx
     split at hx
     ·split at hx
      ·rw [conO_tick]at hx
       simp only [List.mem_cons,List.not_mem_nil,or_false]at hx
       rcases hx with rfl|rfl|rfl<;>exact insOk (by omega)
      ·rw [conO_slp]at hx
       simp only [List.mem_cons,List.not_mem_nil,or_false]at hx
       rcases hx with rfl|rfl|rfl<;>exact insOk (by omega)
     ·rw [conO_bro]at hx
      simp only [List.mem_cons,List.not_mem_nil,or_false]at hx
      rcases hx with rfl|rfl|rfl|rfl|rfl<;>exact insOk (by omega)
    have cM:=lawAsks_any 12 0 0 (rm:Int) ((List.range nT).map (conR n)) nT c' (1+nT) m A' (conO n) (by rw [List.length_map,List.length_range]) (by omega) ⟨hc1,hc2⟩ (by omega) (by omega)
     (fun t ht=>by rw [hlenT t ht];exact hrl t) (fun t i=>by unfold conO;split;split;rw [conO_tick];show 3<=40;omega;rw [conO_slp];show 3<=40;omega;rw [conO_bro];show 5<=40;omega)
     (fun t i ht hi x hx=>by rw [hlenT t ht]at hi;exact hok t i ht hi x hx)
     (fun t i ht hi W hTW hOW=>by
       rw [hlenT t ht]at hi⊢
       unfold conO
       unfold conR at hi⊢
       by_cases c:t<n
       ·simp only [if_pos c]at hi⊢
        match i,hi with
        |0,_=>exact code_tick (nT:Int) 16 (t:Int) 0 (by omega) (by omega) (by decide) (by decide) W hTW hOW
        |1,_=>exact code_gslp (nT:Int) 16 (t:Int) 0 (by omega) (by omega) (by decide) (by decide) W hTW hOW
       ·simp only [if_neg c]at hi⊢
        match i,hi with
        |0,_=>exact code_gbro (nT:Int) 16 (t:Int) 0 (by omega) (by omega) (by decide) (by decide) W hTW hOW)
     (fun W hOW=>first12 (nT:Int) (1+nT) (by omega) (by omega) W hOW) w' (HI.out.1.step hBw) (HI.out.2.1.step hBw) hrows
    have ecodes:((List.range nT).map fun t=>askL (conO n t) (fun i=>(((List.range nT).map (conR n)).getD t []).getD i 0) (((List.range nT).map (conR n)).getD t []).length)=(List.range nT).map fun t=>conT n t:=by
     refine List.map_congr_left (fun t ht=>?_)
     rw [hlenT t (List.mem_range.1 ht)]
     exact con_ask n t
    rw [ecodes]at cM
    have HW:=Lib.hid hBw
    clear hL' hB9 hLL hrows hlenT hrl hok ecodes hBw hc1 hc2 hQ5
    try rw [hnT]
    with_reducible refine cM.mono ?_
    rintro ed Wb ⟨v,mA,mc,base,rfl,hm1,hm2,hBb,hCk,hSl,_⟩
    clear cM
    obtain ⟨vA,vc,hve⟩:=hCk.cap
    rw [List.length_map,List.length_range]at hve
    subst hve
    have halb:=(Below.refl Wb.heap.size Wb).alloc (Nat.le_refl _) (.cells #[.slice vA nT vc,.slice mA m mc,.int .i64 (rm:Int)] 29)
    have hPb:=Blk.new Wb 29 #[.slice vA nT vc,.slice mA m mc,.int .i64 (rm:Int)]
    have hCp:=hCk.below halb
    have hSp:=hSl.step halb
    have hBp:Below w.heap.size w (Wb.alloc (.cells #[.slice vA nT vc,.slice mA m mc,.int .i64 (rm:Int)] 29)):=step_below (step_below HW.out hBb) halb
    obtain ⟨pb,hpb⟩: ∃pb,Wb.heap.size=pb:=⟨_,rfl⟩
    rw [hpb]at hPb
    clear hCk hSl halb hBb
    generalize hWp:Wb.alloc (.cells #[.slice vA nT vc,.slice mA m mc,.int .i64 (rm:Int)] 29)=Wp at hPb hCp hSp hBp
    have hL: ∀l∈(List.range nT).map (fun t=>conT n t),∃t,t<nT/\l=conT n t:=fun l hl=>by
     obtain ⟨t,h1,h2⟩:=List.mem_map.1 hl
     exact ⟨t,List.mem_range.1 h1,h2.symm⟩
    have hgd:=fun t=>conT_good n t (by omega)
    obtain ⟨vA',vc',cds,hv',pO,pC,pA,pcd⟩:=hCp.prog (fun l hl x hx=>by obtain ⟨t,h1,rfl⟩:=hL l hl;exact (hgd t).1 x hx) (fun l hl x hx=>by obtain ⟨t,h1,rfl⟩:=hL l hl;exact (hgd t).2.1 x hx)
     (fun l hl=>by obtain ⟨t,h1,rfl⟩:=hL l hl;exact (hgd t).2.2) (by rw [List.length_map,List.length_range];omega) (room:=(rm:Int)) (by omega) (mA:=mA) (m:=m) (mcap:=mc) (by omega) ⟨hm1,hm2⟩ hSp
    rw [List.length_map,List.length_range]at hv' pO pC pA pcd
    injection hv' with e1 _ e2
    subst e1 e2
    obtain ⟨pg,hpg⟩: ∃pg,lPg vA nT vc cds mA m mc (rm:Int)=pg:=⟨_,rfl⟩
    have cN:=tsoNew_ok pg (hpg▸pO) 0 0 (hpg▸pC) Wp (HI.out.1.step hBp) (hpg▸pA)
    have hpv:pg.val= .agg #[.slice vA nT vc,.slice mA m mc,.int .i64 (rm:Int)]:=by rw [<-hpg];rfl
    rw [hpv]at cN
    have pcd': ∀t,t<nT->(pg.cd t).len=(conT n t).length/\(pg.cd t).F=fun i=>(conT n t).getD i default:=fun t ht=>by
     have h:=pcd t ht
     have e:((List.range nT).map fun t=>conT n t).getD t []=conT n t:=by simp [List.getD_eq_getElem?_getD,List.getElem?_map,List.getElem?_range ht]
     rw [e]at h
     rw [<-hpg]
     exact h
    have HPG:=Lib.hid (And.intro (hpg▸pO) (And.intro (show 1<=pg.room/\pg.room<=16 by rw [<-hpg];show 1<=(rm:Int)/\(rm:Int)<=16;omega) (And.intro (show pg.m=18+n by rw [<-hpg];exact hm.symm) (And.intro (show∀i,pg.Z i=0 by rw [<-hpg];exact fun _=>rfl) (And.intro (show pg.n=n+1 by rw [<-hpg];exact hnT.symm) (fun t (ht:t<pg.n)=>pcd' t (by rw [<-hpg]at ht;exact ht)))))))
    have HP:=Lib.hid (And.intro hPb hBp)
    clear hL hgd pO pC pA pcd pcd' hpv hpg hPb hCp hSp hBp hm1 hm2
    have p0:=(HP.out.1.cell 0).trans rfl
    have p1:=(HP.out.1.cell 1).trans rfl
    have p2:=(HP.out.1.cell 2).trans rfl
    go_wp2_with fail
    try rw [hWp]
    try rw [hpb]
    with_reducible refine cN.mono ?_
    rintro ed W6 ⟨B,rfl,hNew,hroom,hI,hB6⟩
    clear cN hWp hpb p0 p1 p2
    have hBok:=newM_ok hNew (by rw [HPG.out.2.2.2.2.1];omega) (by rw [HPG.out.2.2.1];omega)
    obtain ⟨hCB,hWf,hCI,hz0⟩:=con_begin HPG.out.1 hNew hroom HPG.out.2.1 (n:=n) (by omega) HPG.out.2.2.2.2.1 HPG.out.2.2.1 HPG.out.2.2.2.1 HPG.out.2.2.2.2.2
    have hb6:Below w.heap.size w W6:=step_below HP.out.2 hB6
    have hEv0:EvC 999999000 100000 (t0 pg):=by
     unfold EvC
     show 0+tot (List.replicate pg.n [])+_<=_
     rw [tot_nil];omega
    have HM:=Lib.hid (And.intro hBok (And.intro hCB (And.intro (show B.room<=16 by rw [hroom];exact HPG.out.2.1.2) (show pg.n=n+1 from HPG.out.2.2.2.2.1))))
    have HS0:=Lib.hid (And.intro (show ConPh n 0 B (t0 pg) from ⟨hWf,hCI,fun x hx=>(by cases hx),fun t ht=>absurd ht (by omega),fun t _ _=>hz0 t⟩) (And.intro (fun t (_:0<=t) (_:t<=n)=>hz0 t) (And.intro hEv0 (And.intro hI (And.intro (fun i (q:Wp.heap.size<=i/\i<W6.heap.size)=>(Nat.le_trans HP.out.2.size q.1:w.heap.size<=i)) hb6)))))
    clear hNew hroom hI hB6 hBok hCB hWf hCI hz0 hb6 hEv0 HPG HP HL' HQ HB HW
    go_wp2_with fail
    go_loopw [17] (fun v17 wr=> ∃(u:Nat) (s:Mst) (own:Nat->Prop),u<=n/\v17= .int .i64 (u:Int)/\ConPh n u B s/\(∀t,u<=t->t<=n->((vw s).th t).pc=0)/\EvC 999999000 (100000-200*u) s/\MInv tsoL B s own wr/\(∀i,own i->w.heap.size<=i)/\Below w.heap.size w wr) (fun v17 _=>n-(intOf v17).toNat)
    case atStart=>exact ⟨0,t0 pg,_,Nat.zero_le _,rfl,HS0.out.1,HS0.out.2.1,HS0.out.2.2.1,HS0.out.2.2.2.1,HS0.out.2.2.2.2.1,HS0.out.2.2.2.2.2⟩
    case round=>
     obtain ⟨u,s,own,hu,rfl,hPh,hz,hEv,hI,hown,hB⟩:=hrel
     obtain ⟨wo,rfl⟩: ∃wo:World,wo=wr:=⟨_,rfl⟩
     clear HS0
     by_cases hun:u<n
     case pos=>
      have hun':(u:Int)<(n:Int):=by omega
      have u2:IntKind.i64.wrap (2*(u:Int))=2*(u:Int):=IntWalk.i64_in _ (by omega)
      have HO0:=Lib.hid (And.intro hPh (And.intro (hPh.start hun (hz u (Nat.le_refl _) (by omega))) (And.intro hEv (And.intro hI (And.intro hown hB)))))
      clear hPh hz hEv hI hown hB
      go_wp2_with fail
      go_loopw [18] (fun v18 wr=> ∃(i:Nat) (s:Mst) (own:Nat->Prop),i<=40/\v18= .int .i64 (i:Int)/\ConPh n u B s/\(wkC n (vw s) u<=12-i∨5<=((vw s).th u).pc)/\EvC 999999000 (100000-200*u-2*i) s/\MInv tsoL B s own wr/\(∀i,own i->w.heap.size<=i)/\Below w.heap.size w wr) (fun v18 _=>40-(intOf v18).toNat)
      case atStart=>exact ⟨0,s,own,Nat.zero_le _,rfl,HO0.out.1,.inl HO0.out.2.1,HO0.out.2.2.1,HO0.out.2.2.2.1,HO0.out.2.2.2.2.1,HO0.out.2.2.2.2.2⟩
      case round=>
       clear HO0
       obtain ⟨i,s,own,hi,rfl,hPh,hwk,hEv,hI,hown,hB⟩:=hrel
       obtain ⟨wx,rfl⟩: ∃wx:World,wx=wr:=⟨_,rfl⟩
       by_cases hi40:i<40
       case pos=>
        have hi40':(i:Int)<40:=by omega
        have cV:=tevents_any B s own wx hI (by have :=hEv;unfold EvC at this;omega)
        have HR0:=Lib.hid (And.intro hPh (And.intro hwk (And.intro hEv (And.intro hI (And.intro hown hB)))))
        clear hPh hwk hEv hI hown hB
        go_wp2_with fail
        with_reducible refine cV.mono ?_
        rintro ed We ⟨ve,rfl,hr9,hBe⟩
        clear cV
        obtain ⟨AE,cE,rfl,_,hslE⟩:=own_sle Evt.cells (fun _=>rfl) ev0 s.evs hr9
        obtain ⟨ne,hne⟩: ∃ne,s.evs.length=ne:=⟨_,rfl⟩
        have hsE:=evF_sle HR0.out.1.E hslE
        rw [hne]at hsE
        have hnb:ne<=999999000:=by have :=HR0.out.2.2.1;unfold EvC at this;omega
        try rw [hne]
        have cC:=tcalls_any AE ne cE (evF s.evs) (by omega) We hsE
        have HBe:=Lib.hid (And.intro hBe hne)
        clear hr9 hslE hsE hBe hne
        go_wp2_with fail
        with_reducible refine cC.mono ?_
        rintro ed Wf ⟨vC,RV,rfl,hRV,hPT,_,hBf⟩
        clear cC
        have hBx:Below wx.heap.size wx Wf:=step_below HBe.out.1 hBf
        have hlen:RV.length=(allC (evF s.evs) s.evs.length).length:=by rw [HBe.out.2,<-hRV,List.length_map]
        obtain ⟨AC,cC2,rfl,_,_,hcells⟩:=hPT
        obtain ⟨nC,hnC⟩: ∃nC,RV.length=nC:=⟨_,rfl⟩
        rw [hnC]at hcells hlen
        rw [hnC]
        have hC16:=(HR0.out.1.calls hun).2.2
        rw [<-hlen]at hC16
        have HR:=Lib.hid (And.intro HR0.out.1 (And.intro HR0.out.2.1 (And.intro HR0.out.2.2.1 (And.intro (HR0.out.2.2.2.1.below hBx) (And.intro HR0.out.2.2.2.2.1 (And.intro (step_below HR0.out.2.2.2.2.2 hBx) (And.intro hlen hcells)))))))
        have HRV:=Lib.hid (And.intro hRV (And.intro hnC HBe.out.2))
        clear HR0 HBe hRV hBx hBf hlen hcells hnC
        by_cases hle:nC<=2*u
        case pos=>
         have hle':(nC:Int)<=2*(u:Int):=by omega
         have hbw:=HR.out.2.1
         have cP:=tpick_low B HM.out.1 HM.out.2.2.1 s HR.out.1.w.ok HR.out.2.2.1 own Wf HR.out.2.2.2.1 (HI.out.1.step HR.out.2.2.2.2.2.1) HR.out.2.2.2.2.1 HR.out.2.2.2.2.2.1.size (0,(u:Int))
         dsimp only at cP
         go_wp2_with fail
         with_reducible refine cP.mono ?_
         rintro ed Wg ⟨⟨uu,rfl⟩,own',hI',hown',hB',_,_⟩
         clear cP
         go_wp2
         go_roundw
         case rel=>
          obtain ⟨q1,q2,q3⟩:=HR.out.1.pick (k:=12-(i+1)) HM.out.1 HM.out.2.1 hun (hbw.imp (fun q=>by omega) id)
          exact ⟨i+1,_,own',by omega,by go_num,q1,q2,tPick_evc (HR.out.2.2.1.mono (by omega)) _,hI',hown',HR.out.2.2.2.2.2.1.trans hB'⟩
         case measure=>simp [intOf];omega
        case neg=>
         have hle': ¬(nC:Int)<=2*(u:Int):=by omega
         have h1:=HR.out.1.began hun (by rw [<-HR.out.2.2.2.2.2.2.1];omega)
         have HX:=Lib.hid (And.intro HR.out.1 (And.intro h1 (And.intro (show EvC 999999000 (100000-200*u-80) s from HR.out.2.2.1.mono (by omega)) (And.intro HR.out.2.2.2.1 (And.intro HR.out.2.2.2.2.1 HR.out.2.2.2.2.2.1)))))
         clear HR HRV h1
         go_wp2_with fail
         go_loopw [19] (fun v19 wr=> ∃(i:Nat) (s:Mst) (own:Nat->Prop),i<=10/\v19= .int .i64 (i:Int)/\ConPh n u B s/\((wkC n (vw s) u<=11-i∨5<=((vw s).th u).pc)/\1<=((vw s).th u).pc)/\EvC 999999000 (100000-200*u-80-2*i) s/\MInv tsoL B s own wr/\(∀i,own i->w.heap.size<=i)/\Below w.heap.size w wr) (fun v19 _=>10-(intOf v19).toNat)
         case atStart=>exact ⟨0,s,own,Nat.zero_le _,rfl,HX.out.1,⟨.inl (HX.out.1.one hun HX.out.2.1),HX.out.2.1⟩,HX.out.2.2.1,HX.out.2.2.2.1,HX.out.2.2.2.2.1,HX.out.2.2.2.2.2⟩
         case round=>
          clear HX
          obtain ⟨i,s,own,hi,rfl,hPh,hwk,hEv,hI,hown,hB⟩:=hrel
          obtain ⟨wx,rfl⟩: ∃wx:World,wx=wr:=⟨_,rfl⟩
          by_cases hi10:i<10
          case pos=>
           have hi10':(i:Int)<10:=by omega
           have cV:=tevents_any B s own wx hI (by have :=hEv;unfold EvC at this;omega)
           have HR0:=Lib.hid (And.intro hPh (And.intro hwk (And.intro hEv (And.intro hI (And.intro hown hB)))))
           clear hPh hwk hEv hI hown hB
           go_wp2_with fail
           with_reducible refine cV.mono ?_
           rintro ed We ⟨ve,rfl,hr9,hBe⟩
           clear cV
           obtain ⟨AE,cE,rfl,_,hslE⟩:=own_sle Evt.cells (fun _=>rfl) ev0 s.evs hr9
           obtain ⟨ne,hne⟩: ∃ne,s.evs.length=ne:=⟨_,rfl⟩
           have hsE:=evF_sle HR0.out.1.E hslE
           rw [hne]at hsE
           have hnb:ne<=999999000:=by have :=HR0.out.2.2.1;unfold EvC at this;omega
           try rw [hne]
           have cC:=tcalls_any AE ne cE (evF s.evs) (by omega) We hsE
           have HBe:=Lib.hid (And.intro hBe hne)
           clear hr9 hslE hsE hBe hne
           go_wp2_with fail
           with_reducible refine cC.mono ?_
           rintro ed Wf ⟨vC,RV,rfl,hRV,hPT,_,hBf⟩
           clear cC
           have hBx:Below wx.heap.size wx Wf:=step_below HBe.out.1 hBf
           have hlen:RV.length=(allC (evF s.evs) s.evs.length).length:=by rw [HBe.out.2,<-hRV,List.length_map]
           obtain ⟨AC,cC2,rfl,_,_,hcells⟩:=hPT
           obtain ⟨nC,hnC⟩: ∃nC,RV.length=nC:=⟨_,rfl⟩
           rw [hnC]at hcells hlen
           rw [hnC]
           have hC16:=(HR0.out.1.calls hun).2.2
           rw [<-hlen]at hC16
           have HR:=Lib.hid (And.intro HR0.out.1 (And.intro HR0.out.2.1 (And.intro HR0.out.2.2.1 (And.intro (HR0.out.2.2.2.1.below hBx) (And.intro HR0.out.2.2.2.2.1 (And.intro (step_below HR0.out.2.2.2.2.2 hBx) (And.intro hlen hcells)))))))
           have HRV:=Lib.hid (And.intro hRV (And.intro hnC HBe.out.2))
           clear HR0 HBe hRV hBx hBf hlen hcells hnC
           have hnC1:1<=nC:=by rw [HR.out.2.2.2.2.2.2.1];exact HR.out.1.has hun HR.out.2.1.2
           obtain ⟨nm,hnm⟩: ∃nm,nm+1=nC:=⟨nC-1,by omega⟩
           have um:IntKind.i64.wrap ((nC:Int)-1)=(nm:Int):=by rw [show (nC:Int)-1=(nm:Int) by omega];exact IntWalk.i64_in _ (by omega)
           have um1:(nm:Int)<(nC:Int):=by omega
           have um0:(0:Int)<=(nm:Int):=by omega
           obtain ⟨cb,co,rfl,_,hcb,hcl⟩:=HR.out.2.2.2.2.2.2.2 (by omega)
           obtain ⟨C,hC⟩: ∃C,allC (evF s.evs) s.evs.length=C:=⟨_,rfl⟩
           have hCl:C.length=nC:=by rw [<-hC];exact HR.out.2.2.2.2.2.2.1.symm
           obtain ⟨c,hc⟩: ∃c,(RV.getD nm cv0).1=c:=⟨_,rfl⟩
           have hcm:c∈allC (evF s.evs) s.evs.length:=by
            rw [HRV.out.2.2,<-HRV.out.1,<-hc]
            refine List.mem_map.2 ⟨_,?_,rfl⟩
            have hi':nm<RV.length:=by rw [HRV.out.2.1];omega
            rw [List.getD_eq_getElem?_getD,List.getElem?_eq_getElem hi']
            exact List.getElem_mem hi'
           have k1:Wf.cell? ⟨cb,co+nm*6+1,none⟩=some (.int .i64 c.who):=by rw [<-hc];exact hcl nm (by omega) 1 _ rfl
           have k3:Wf.cell? ⟨cb,co+nm*6+3,none⟩=some (.int .i64 c.ended):=by rw [<-hc];exact hcl nm (by omega) 3 _ rfl
           obtain ⟨cw,hcw⟩: ∃cw,c.who=cw:=⟨_,rfl⟩
           obtain ⟨ce,hce⟩: ∃ce,c.ended=ce:=⟨_,rfl⟩
           rw [hcw]at k1
           rw [hce]at k3
           have hend:cw=(u:Int)->0<=ce->5<=((vw s).th u).pc:=fun h1 h2=>con_ended HR.out.1.E HR.out.1.I hcm hun (hcw.trans h1) (by rw [hce];exact h2)
           clear hcl hC hCl hc hcm hcw hce
           by_cases hwh:cw=(u:Int)
           case pos=>
            subst hwh
            have hbq:((u:Int)==(u:Int))=true:=by simp
            by_cases he:0<=ce
            case pos=>
             have h5:=hend rfl he
             have hge:ce≥0:=he
             clear hend
             go_wp2_with fail
             go_roundw
             case rel=>exact ⟨u+1,s,own,by omega,by go_num,HR.out.1.next h5,fun t h1 h2=>HR.out.1.hi t (by omega) h2,HR.out.2.2.1.mono (by omega),HR.out.2.2.2.1,HR.out.2.2.2.2.1,HR.out.2.2.2.2.2.1⟩
             case measure=>simp [intOf];omega
            case neg=>
             have hge: ¬ce≥0:=he
             have hbw:=HR.out.2.1.1
             clear hend
             have cP:=tpick_low B HM.out.1 HM.out.2.2.1 s HR.out.1.w.ok HR.out.2.2.1 own Wf HR.out.2.2.2.1 (HI.out.1.step HR.out.2.2.2.2.2.1) HR.out.2.2.2.2.1 HR.out.2.2.2.2.2.1.size (0,(u:Int))
             dsimp only at cP
             go_wp2_with fail
             with_reducible refine cP.mono ?_
             rintro ed Wg ⟨⟨uu,rfl⟩,own',hI',hown',hB',_,_⟩
             clear cP
             go_wp2
             go_roundw
             case rel=>
              obtain ⟨q1,q2,q3⟩:=HR.out.1.pick (k:=11-(i+1)) HM.out.1 HM.out.2.1 hun (by rw [show 11-(i+1)+1=11-i by omega];exact hbw)
              exact ⟨i+1,_,own',by omega,by go_num,q1,⟨q2,Int.le_trans HR.out.2.1.2 q3⟩,tPick_evc (HR.out.2.2.1.mono (by omega)) _,hI',hown',HR.out.2.2.2.2.2.1.trans hB'⟩
             case measure=>simp [intOf];omega
           case neg=>
            have hbq:(cw==(u:Int))=false:=by simpa using hwh
            have hbw:=HR.out.2.1.1
            clear hend
            have cP:=tpick_low B HM.out.1 HM.out.2.2.1 s HR.out.1.w.ok HR.out.2.2.1 own Wf HR.out.2.2.2.1 (HI.out.1.step HR.out.2.2.2.2.2.1) HR.out.2.2.2.2.1 HR.out.2.2.2.2.2.1.size (0,(u:Int))
            dsimp only at cP
            go_wp2_with fail
            with_reducible refine cP.mono ?_
            rintro ed Wg ⟨⟨uu,rfl⟩,own',hI',hown',hB',_,_⟩
            clear cP
            go_wp2
            go_roundw
            case rel=>
             obtain ⟨q1,q2,q3⟩:=HR.out.1.pick (k:=11-(i+1)) HM.out.1 HM.out.2.1 hun (by rw [show 11-(i+1)+1=11-i by omega];exact hbw)
             exact ⟨i+1,_,own',by omega,by go_num,q1,⟨q2,Int.le_trans HR.out.2.1.2 q3⟩,tPick_evc (HR.out.2.2.1.mono (by omega)) _,hI',hown',HR.out.2.2.2.2.2.1.trans hB'⟩
            case measure=>simp [intOf];omega
          case neg=>
           have hi10': ¬(i:Int)<10:=by omega
           have h5:=hPh.few hun (hwk.1.imp (fun q=>by omega) id)
           go_wp2_with fail
           go_roundw
           case rel=>exact ⟨u+1,s,own,by omega,by go_num,hPh.next h5,fun t h1 h2=>hPh.hi t (by omega) h2,hEv.mono (by omega),hI,hown,hB⟩
           case measure=>simp [intOf];omega
       case neg=>
        have hi40': ¬(i:Int)<40:=by omega
        have h5:=hPh.few hun (hwk.imp (fun q=>by omega) id)
        have HX:=Lib.hid (And.intro hPh (And.intro (show 1<=((vw s).th u).pc by omega) (And.intro (show EvC 999999000 (100000-200*u-80) s from hEv.mono (by omega)) (And.intro hI (And.intro hown hB)))))
        clear hPh hwk hEv hI hown hB h5
        go_wp2_with fail
        go_loopw [19] (fun v19 wr=> ∃(i:Nat) (s:Mst) (own:Nat->Prop),i<=10/\v19= .int .i64 (i:Int)/\ConPh n u B s/\((wkC n (vw s) u<=11-i∨5<=((vw s).th u).pc)/\1<=((vw s).th u).pc)/\EvC 999999000 (100000-200*u-80-2*i) s/\MInv tsoL B s own wr/\(∀i,own i->w.heap.size<=i)/\Below w.heap.size w wr) (fun v19 _=>10-(intOf v19).toNat)
        case atStart=>exact ⟨0,s,own,Nat.zero_le _,rfl,HX.out.1,⟨.inl (HX.out.1.one hun HX.out.2.1),HX.out.2.1⟩,HX.out.2.2.1,HX.out.2.2.2.1,HX.out.2.2.2.2.1,HX.out.2.2.2.2.2⟩
        case round=>
         clear HX
         obtain ⟨i,s,own,hi,rfl,hPh,hwk,hEv,hI,hown,hB⟩:=hrel
         obtain ⟨wx,rfl⟩: ∃wx:World,wx=wr:=⟨_,rfl⟩
         by_cases hi10:i<10
         case pos=>
          have hi10':(i:Int)<10:=by omega
          have cV:=tevents_any B s own wx hI (by have :=hEv;unfold EvC at this;omega)
          have HR0:=Lib.hid (And.intro hPh (And.intro hwk (And.intro hEv (And.intro hI (And.intro hown hB)))))
          clear hPh hwk hEv hI hown hB
          go_wp2_with fail
          with_reducible refine cV.mono ?_
          rintro ed We ⟨ve,rfl,hr9,hBe⟩
          clear cV
          obtain ⟨AE,cE,rfl,_,hslE⟩:=own_sle Evt.cells (fun _=>rfl) ev0 s.evs hr9
          obtain ⟨ne,hne⟩: ∃ne,s.evs.length=ne:=⟨_,rfl⟩
          have hsE:=evF_sle HR0.out.1.E hslE
          rw [hne]at hsE
          have hnb:ne<=999999000:=by have :=HR0.out.2.2.1;unfold EvC at this;omega
          try rw [hne]
          have cC:=tcalls_any AE ne cE (evF s.evs) (by omega) We hsE
          have HBe:=Lib.hid (And.intro hBe hne)
          clear hr9 hslE hsE hBe hne
          go_wp2_with fail
          with_reducible refine cC.mono ?_
          rintro ed Wf ⟨vC,RV,rfl,hRV,hPT,_,hBf⟩
          clear cC
          have hBx:Below wx.heap.size wx Wf:=step_below HBe.out.1 hBf
          have hlen:RV.length=(allC (evF s.evs) s.evs.length).length:=by rw [HBe.out.2,<-hRV,List.length_map]
          obtain ⟨AC,cC2,rfl,_,_,hcells⟩:=hPT
          obtain ⟨nC,hnC⟩: ∃nC,RV.length=nC:=⟨_,rfl⟩
          rw [hnC]at hcells hlen
          rw [hnC]
          have hC16:=(HR0.out.1.calls hun).2.2
          rw [<-hlen]at hC16
          have HR:=Lib.hid (And.intro HR0.out.1 (And.intro HR0.out.2.1 (And.intro HR0.out.2.2.1 (And.intro (HR0.out.2.2.2.1.below hBx) (And.intro HR0.out.2.2.2.2.1 (And.intro (step_below HR0.out.2.2.2.2.2 hBx) (And.intro hlen hcells)))))))
          have HRV:=Lib.hid (And.intro hRV (And.intro hnC HBe.out.2))
          clear HR0 HBe hRV hBx hBf hlen hcells hnC
          have hnC1:1<=nC:=by rw [HR.out.2.2.2.2.2.2.1];exact HR.out.1.has hun HR.out.2.1.2
          obtain ⟨nm,hnm⟩: ∃nm,nm+1=nC:=⟨nC-1,by omega⟩
          have um:IntKind.i64.wrap ((nC:Int)-1)=(nm:Int):=by rw [show (nC:Int)-1=(nm:Int) by omega];exact IntWalk.i64_in _ (by omega)
          have um1:(nm:Int)<(nC:Int):=by omega
          have um0:(0:Int)<=(nm:Int):=by omega
          obtain ⟨cb,co,rfl,_,hcb,hcl⟩:=HR.out.2.2.2.2.2.2.2 (by omega)
          obtain ⟨C,hC⟩: ∃C,allC (evF s.evs) s.evs.length=C:=⟨_,rfl⟩
          have hCl:C.length=nC:=by rw [<-hC];exact HR.out.2.2.2.2.2.2.1.symm
          obtain ⟨c,hc⟩: ∃c,(RV.getD nm cv0).1=c:=⟨_,rfl⟩
          have hcm:c∈allC (evF s.evs) s.evs.length:=by
           rw [HRV.out.2.2,<-HRV.out.1,<-hc]
           refine List.mem_map.2 ⟨_,?_,rfl⟩
           have hi':nm<RV.length:=by rw [HRV.out.2.1];omega
           rw [List.getD_eq_getElem?_getD,List.getElem?_eq_getElem hi']
           exact List.getElem_mem hi'
          have k1:Wf.cell? ⟨cb,co+nm*6+1,none⟩=some (.int .i64 c.who):=by rw [<-hc];exact hcl nm (by omega) 1 _ rfl
          have k3:Wf.cell? ⟨cb,co+nm*6+3,none⟩=some (.int .i64 c.ended):=by rw [<-hc];exact hcl nm (by omega) 3 _ rfl
          obtain ⟨cw,hcw⟩: ∃cw,c.who=cw:=⟨_,rfl⟩
          obtain ⟨ce,hce⟩: ∃ce,c.ended=ce:=⟨_,rfl⟩
          rw [hcw]at k1
          rw [hce]at k3
          have hend:cw=(u:Int)->0<=ce->5<=((vw s).th u).pc:=fun h1 h2=>con_ended HR.out.1.E HR.out.1.I hcm hun (hcw.trans h1) (by rw [hce];exact h2)
          clear hcl hC hCl hc hcm hcw hce
          by_cases hwh:cw=(u:Int)
          case pos=>
           subst hwh
           have hbq:((u:Int)==(u:Int))=true:=by simp
           by_cases he:0<=ce
           case pos=>
            have h5:=hend rfl he
            have hge:ce≥0:=he
            clear hend
            go_wp2_with fail
            go_roundw
            case rel=>exact ⟨u+1,s,own,by omega,by go_num,HR.out.1.next h5,fun t h1 h2=>HR.out.1.hi t (by omega) h2,HR.out.2.2.1.mono (by omega),HR.out.2.2.2.1,HR.out.2.2.2.2.1,HR.out.2.2.2.2.2.1⟩
            case measure=>simp [intOf];omega
           case neg=>
            have hge: ¬ce≥0:=he
            have hbw:=HR.out.2.1.1
            clear hend
            have cP:=tpick_low B HM.out.1 HM.out.2.2.1 s HR.out.1.w.ok HR.out.2.2.1 own Wf HR.out.2.2.2.1 (HI.out.1.step HR.out.2.2.2.2.2.1) HR.out.2.2.2.2.1 HR.out.2.2.2.2.2.1.size (0,(u:Int))
            dsimp only at cP
            go_wp2_with fail
            with_reducible refine cP.mono ?_
            rintro ed Wg ⟨⟨uu,rfl⟩,own',hI',hown',hB',_,_⟩
            clear cP
            go_wp2
            go_roundw
            case rel=>
             obtain ⟨q1,q2,q3⟩:=HR.out.1.pick (k:=11-(i+1)) HM.out.1 HM.out.2.1 hun (by rw [show 11-(i+1)+1=11-i by omega];exact hbw)
             exact ⟨i+1,_,own',by omega,by go_num,q1,⟨q2,Int.le_trans HR.out.2.1.2 q3⟩,tPick_evc (HR.out.2.2.1.mono (by omega)) _,hI',hown',HR.out.2.2.2.2.2.1.trans hB'⟩
            case measure=>simp [intOf];omega
          case neg=>
           have hbq:(cw==(u:Int))=false:=by simpa using hwh
           have hbw:=HR.out.2.1.1
           clear hend
           have cP:=tpick_low B HM.out.1 HM.out.2.2.1 s HR.out.1.w.ok HR.out.2.2.1 own Wf HR.out.2.2.2.1 (HI.out.1.step HR.out.2.2.2.2.2.1) HR.out.2.2.2.2.1 HR.out.2.2.2.2.2.1.size (0,(u:Int))
           dsimp only at cP
           go_wp2_with fail
           with_reducible refine cP.mono ?_
           rintro ed Wg ⟨⟨uu,rfl⟩,own',hI',hown',hB',_,_⟩
           clear cP
           go_wp2
           go_roundw
           case rel=>
            obtain ⟨q1,q2,q3⟩:=HR.out.1.pick (k:=11-(i+1)) HM.out.1 HM.out.2.1 hun (by rw [show 11-(i+1)+1=11-i by omega];exact hbw)
            exact ⟨i+1,_,own',by omega,by go_num,q1,⟨q2,Int.le_trans HR.out.2.1.2 q3⟩,tPick_evc (HR.out.2.2.1.mono (by omega)) _,hI',hown',HR.out.2.2.2.2.2.1.trans hB'⟩
           case measure=>simp [intOf];omega
         case neg=>
          have hi10': ¬(i:Int)<10:=by omega
          have h5:=hPh.few hun (hwk.1.imp (fun q=>by omega) id)
          go_wp2_with fail
          go_roundw
          case rel=>exact ⟨u+1,s,own,by omega,by go_num,hPh.next h5,fun t h1 h2=>hPh.hi t (by omega) h2,hEv.mono (by omega),hI,hown,hB⟩
          case measure=>simp [intOf];omega
     case neg=>
      obtain rfl:n=u:=by omega
      have hun': ¬(n:Int)<(n:Int):=by omega
      have HS1:=Lib.hid (And.intro (show ConQ n B s from ⟨hPh.w,hPh.I,hPh.lo⟩) (And.intro (show EvC 999999000 60000 s from hEv.mono (by omega)) (And.intro hI (And.intro hown hB))))
      have hss2:=HI.out.2.2.1.step hB
      have cR:=pickRead_any sA sn scap Y wo (by omega) hss2 HI.out.2.2.2.1
      clear hPh hz hEv hI hown hB hss2
      go_wp2_with fail
      with_reducible refine cR.mono ?_
      rintro ed W7 ⟨cs7,rfl,hb7,hs7,hc7,hB7⟩
      clear cR
      obtain ⟨F,hF⟩: ∃F:Nat->Int×Int,(fun i=>(Y i/8 % 3,Y i % 8))=F:=⟨_,rfl⟩
      have hpk:=read_picks hb7 hc7
      have hg7:=hb7.lt
      obtain ⟨g7,hg7e⟩: ∃g7,wo.heap.size=g7:=⟨_,rfl⟩
      have hF': ∀i,(Y i/8 % 3,Y i % 8)=F i:=fun i=>by rw [<-hF]
      simp only [hF']at hpk
      have HS2:=Lib.hid (And.intro HS1.out.1 (And.intro HS1.out.2.1 (And.intro (HS1.out.2.2.1.below hB7) (And.intro HS1.out.2.2.2.1 (And.intro (step_below HS1.out.2.2.2.2 hB7) (And.intro (show¬own g7 from fun q=>by have :=HS1.out.2.2.1.lt _ q;omega) (And.intro (show SlE W7 (some ⟨g7,0,none⟩) sn 2 (fun i=>pkE (F i)) from hg7e▸hpk) (show g7<W7.heap.size from hg7e▸hg7))))))))
      try rw [hg7e]
      clear hb7 hs7 hc7 hpk hg7 hF hF' HS1 hB7 hg7e
      go_wp2_with fail
      go_loopw [22] (fun v22 wr=> ∃(i:Nat) (s:Mst) (own:Nat->Prop),i<=sn/\v22= .int .i64 (i:Int)/\ConQ n B s/\EvC 999999000 (60000-2*i) s/\MInv tsoL B s own wr/\(∀i,own i->w.heap.size<=i)/\Below w.heap.size w wr/\ ¬own g7/\SlE wr (some ⟨g7,0,none⟩) sn 2 (fun i=>pkE (F i))/\g7<wr.heap.size) (fun v22 _=>sn-(intOf v22).toNat)
      case atStart=>exact ⟨0,s,own,Nat.zero_le _,rfl,HS2.out.1,HS2.out.2.1,HS2.out.2.2.1,HS2.out.2.2.2.1,HS2.out.2.2.2.2.1,HS2.out.2.2.2.2.2.1,HS2.out.2.2.2.2.2.2.1,HS2.out.2.2.2.2.2.2.2⟩
      case round=>
       clear HS2
       obtain ⟨i,s,own,hi,rfl,hQ,hEv,hI,hown,hB,hng,hsl,hgl⟩:=hrel
       obtain ⟨wx,rfl⟩: ∃wx:World,wx=wr:=⟨_,rfl⟩
       by_cases his:i<sn
       case pos=>
        have his':(i:Int)<(sn:Int):=by omega
        have hi0:(0:Int)<=(i:Int):=by omega
        obtain ⟨b9,o9,e9,_,hcc⟩:=hsl (by omega)
        injection e9 with e9
        injection e9 with e91 e92
        subst e91 e92
        obtain ⟨x,hx⟩: ∃x,F i=x:=⟨_,rfl⟩
        have k0:=hcc i his 0 (.int .i64 (F i).1) rfl
        have k1:=hcc i his 1 (.int .i64 (F i).2) rfl
        rw [hx]at k0 k1
        simp only [Nat.add_zero,Nat.zero_add]at k0 k1
        have HQ1:=Lib.hid (And.intro hQ (And.intro hEv (And.intro hI (And.intro hown (And.intro hB (And.intro hng (And.intro hsl hgl)))))))
        clear hQ hEv hI hown hB hng hsl hgl hcc hx
        by_cases hxn:x.2<(n:Int)
        case pos=>
         have cP:=tpick_low B HM.out.1 HM.out.2.2.1 s HQ1.out.1.w.ok HQ1.out.2.1 own wx HQ1.out.2.2.1 (HI.out.1.step HQ1.out.2.2.2.2.1) HQ1.out.2.2.2.1 HQ1.out.2.2.2.2.1.size x
         go_wp2_with fail
         with_reducible refine cP.mono ?_
         rintro ed Wg ⟨⟨uu,rfl⟩,own',hI',hown',hB',hoo,hko⟩
         clear cP
         go_wp2
         go_roundw
         case rel=>
          obtain ⟨hQ,hEv,hI,hown,hB,hng,hsl,hgl⟩:=HQ1.out
          refine ⟨i+1,_,own',by omega,by go_num,hQ.pick HM.out.1 HM.out.2.1 x,tPick_evc (hEv.mono (by omega)) _,hI',hown',hB.trans hB',fun q=>(hoo _ q).elim hng (fun q=>by omega),hko.sle hsl (fun _ b o e=>by injection e with e;injection e with e1 _ _;exact e1▸hng),Nat.lt_of_lt_of_le hgl hko.size⟩
         case measure=>simp [intOf];omega
        case neg=>
         go_wp2_with fail
         go_roundw
         case rel=>
          obtain ⟨hQ,hEv,hI,hown,hB,hng,hsl,hgl⟩:=HQ1.out
          exact ⟨i+1,s,own,by omega,by go_num,hQ,hEv.mono (by omega),hI,hown,hB,hng,hsl,hgl⟩
         case measure=>simp [intOf];omega
       case neg=>
        obtain rfl:sn=i:=by omega
        have his': ¬(sn:Int)<(sn:Int):=by omega
        obtain ⟨wN,hwN⟩: ∃wN,4*nT+mo=wN:=⟨_,rfl⟩
        obtain ⟨nN,hnN⟩: ∃nN,40*wN=nN:=⟨_,rfl⟩
        have b255:=HI.out.2.2.2.2.2.2.2.2
        have u4:IntKind.i64.wrap (4*(nT:Int))=4*(nT:Int):=IntWalk.i64_in _ (by omega)
        have uw:4*(nT:Int)+(mo:Int)=(wN:Int):=by omega
        have uw3:IntKind.i64.wrap (wN:Int)=(wN:Int):=IntWalk.i64_in _ (by omega)
        have uw2:IntKind.i64.wrap (4*(nT:Int)+(mo:Int))=(wN:Int):=by rw [uw];exact IntWalk.i64_in _ (by omega)
        have ue:40*(wN:Int)=(nN:Int):=by omega
        have ue3:IntKind.i64.wrap (nN:Int)=(nN:Int):=IntWalk.i64_in _ (by omega)
        have ue2:IntKind.i64.wrap (40*(wN:Int))=(nN:Int):=by rw [ue];exact IntWalk.i64_in _ (by omega)
        have bw:4*nT<=wN/\wN<=271:=by omega
        have bnn:nN<=10840:=by omega
        have cE:=even_yes none 0 0 (fun i=>((0:Int),(0:Int))) nT wN nN (by omega) (by omega) (by omega) bw.1 (by omega) (by omega) wx SlE.nil
        have HNN:=Lib.hid hnN
        have HQ1:=Lib.hid (And.intro hQ (And.intro hEv (And.intro hI (And.intro hown hB))))
        clear hQ hEv hI hown hB hng hsl hgl hwN hnN b255
        go_wp2_with fail
        with_reducible refine cE.mono ?_
        rintro ed W8 ⟨vL,L,D,kk,rfl,hLn,hownL,hpl,hB8⟩
        clear cE
        rw [hLn]at hownL
        have hLb:=fun b e=>own_in hownL b e
        obtain ⟨AL,cL,rfl,_,hslL⟩:=own_picks hownL hLn
        have hfair:=hpl.fair (by omega) (by omega) bw.1 (by omega) (by omega)
        have hokL: ∀x∈L,x.1≠2:=hpl.all (P:=fun x=>x.1≠2) (fun kind who hk _=>by show ((kind:Nat):Int)≠2;omega) (fun q hq=>absurd hq (by omega))
        have hI8:=HQ1.out.2.2.1.below hB8
        have hb8:=step_below HQ1.out.2.2.2.2 hB8
        have hngL:0<nN-> ∀b o,AL=some ⟨b,o,none⟩-> ¬own b:=fun _ b o e q=>by
         have h1:=hLb b (by rw [e];rfl)
         have h2:=HQ1.out.2.2.1.lt _ q
         omega
        have cQ:=trun2_any B HM.out.1 s HM.out.2.2.1 HQ1.out.1.w.ok AL nN cL (fun i=>L.getD i (0,0)) (HQ1.out.2.1.mono (by omega)) own W8 hI8 (HI.out.1.step hb8) hslL hngL (by omega)
        have eL:(List.range nN).map (fun i=>L.getD i (0,0))=L:=by
         rw [<-hLn]
         refine List.ext_getElem (by simp) (fun k h1 h2=>?_)
         simp [List.getD_eq_getElem?_getD,List.getElem?_eq_getElem h2]
        rw [eL]at cQ
        have hdn:=HQ1.out.1.ends HM.out.1 HM.out.2.1 bn.2 (L:=L) (w:=wN) (by rw [hnT];exact hfair.2.2) hokL (by rw [hLn,HNN.out];exact Nat.le_refl _)
        have hOkS:=tRun_ok HM.out.1 L s HQ1.out.1.w.ok
        have hSn:(1<=(tRun B s L).ths.length/\(tRun B s L).ths.length<=8)/\(tRun B s L).bufs.length=(tRun B s L).ths.length:=⟨by rw [hOkS.ok.nt,HM.out.2.1.len];omega,by rw [hOkS.bl,hOkS.ok.nt]⟩
        have HZ:=Lib.hid (And.intro HQ1.out.2.2.2.1 (And.intro hb8 (And.intro hdn hSn)))
        have hown:=HQ1.out.2.2.2.1
        clear hI8 hb8 hngL hfair hokL hslL hLb hownL hpl hB8 HQ1 eL hdn hSn hOkS HNN
        go_wp2_with fail
        with_reducible refine cQ.mono ?_
        rintro ed W9 ⟨⟨uu,rfl⟩,own9,hI9,ho9,hk9⟩
        clear cQ
        have cD:=tdone_any B (tRun B s L) own9 W9 hI9 (by have :=HZ.out.2.2.2.1;omega) (by have :=HZ.out.2.2.2.1;omega) HZ.out.2.2.2.2
        rw [HZ.out.2.2.1]at cD
        have hb9:Below w.heap.size w W9:=HZ.out.2.1.trans ⟨hk9.os,hk9.tape,hk9.output,by have h1:=HZ.out.2.1.size;have h2:=hk9.size;omega,fun i hi=>hk9.block i (by have h1:=HZ.out.2.1.size;omega) (fun q=>by have :=hown i q;omega)⟩
        go_wp2_with fail
        with_reducible refine cD.mono ?_
        rintro ed Wz ⟨rfl,hBz⟩
        clear cD
        go_wp2
        go_ret
        exact ⟨rfl,step_below hb9 hBz⟩
end Go.Proofs.YtmhfpjnkjlhbpaaGreatDoor
