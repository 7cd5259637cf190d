/- The contract of pick.Read: the picks of bytes, in new memory. What is learned of an even script's row. RwEnds: the law. -/
import Derived.Test.YtmhfpjnkjlhbpaaGreatDoorQd36
import Derived.Test.YtmhfpjnkjlhbpaaGreatDoorQd01
import Derived.Test.YtmhfpjnkjlhbpaaGreatDoorQd41
import Derived.Test.YtmhfpjnkjlhbpaaGreatDoorQd35
import Derived.Test.YtmhfpjnkjlhbpaaGreatDoorQd39
import Derived.Deep.DeepMust
namespace Go.Proofs.YtmhfpjnkjlhbpaaGreatDoor
open Go.RowKit
set_option linter.unusedVariables false
set_option maxRecDepth 100000
open List renaming getElem_toArray->zA,getElem_cons_zero->zB,getElem_cons_succ->zC,setIfInBounds_toArray->zD,set_cons_zero->zE,set_cons_succ->zF
theorem pick_info:(Tryz.prog.info? 78).map (fun i=>(i.zero,i.size,i.bytes))=some (some (.agg #[.int .i64 0,.int .i64 0]),2,16):=by kernel_rfl
theorem run_make_rowN {P:Program} (t e:TypeId) (i:TypeInfo) (z:Value) (ht:P.underlying t=some (.slice e)) (hi:P.info? e=some i) (hz:i.zero=some z)
 (kl kc:IntKind) (n c:Nat) (hnc:n<=c) (hbytes:i.bytes*c<=281474976710656) (h63:c<=9223372036854775807) (w:World):
 (Instr.makeSlice t (.int kl (n:Int)) (.int kc (c:Int))).run P w= .ok (.slice (some ⟨w.heap.size,0,none⟩) n c) (w.alloc (.cells (madeCells z.cells (c*i.size)) e)):=by
 have hb:(i.bytes:Int)*(c:Int)<=281474976710656:=by
  have h:((i.bytes*c:Nat):Int)<=281474976710656:=by omega
  rwa [Int.natCast_mul]at h
 have hr:=run_make (P:=P) w t e i z ht hi hz kl kc n c (by omega) (by omega) hb (by omega)
 simp only [Int.toNat_natCast]at hr
 exact hr
theorem run_make_picks (n:Nat) (hn:n<=1000000): ∀w:World,(Instr.makeSlice 37 (.int .i64 (n:Int)) (.int .i64 (n:Int))).run Tryz.prog w=
 .ok (.slice (some ⟨w.heap.size,0,none⟩) n n) (w.alloc (.cells (madeCells #[.int .i64 0,.int .i64 0] (n*2)) 78)):=fun w=>by
 obtain ⟨i,hi,hz,hs,hb⟩:=info_parts pick_info
 have :=run_make_rowN (P:=Tryz.prog) 37 78 i _ Tryz.underlying37 hi hz .i64 .i64 n n (Nat.le_refl _) (by rw [hb];omega) (by omega) w
 rw [hs]at this
 exact this
set_option maxHeartbeats 400000 in
theorem pickRead_any (A:Option Addr) (len cap:Nat) (Z:Nat->Int) (w:World) (hl:len<=100000) (hsl:Sl w A len (fun i=> .int .u8 (Z i))) (hz: ∀i,i<len->0<=Z i/\Z i<=255):
 Calls Tryz.prog 18 #[.slice A len cap] w fun e w'=> ∃cs:Array Value,e= .returned (.slice (some ⟨w.heap.size,0,none⟩) len len)/\Blk w' w.heap.size 78 cs/\cs.size=len*2/\
  (∀i,i<len->cs[i*2]?=some (.int .i64 (Z i/8 % 3))/\cs[i*2+1]?=some (.int .i64 (Z i % 8)))/\Below w.heap.size w w':=by
 have hmk:=run_make_picks len (by omega)
 go_enter Tryz.func18,Tryz.ntmps18
 go_wp2
 clear hmk
 go_loopw [11] (fun v wr=> ∃k:Nat,k<=len/\v= .int .i64 k/\ ∃cs:Array Value,Blk wr w.heap.size 78 cs/\cs.size=len*2/\(∀i,i<k->cs[i*2]?=some (.int .i64 (Z i/8 % 3))/\cs[i*2+1]?=some (.int .i64 (Z i % 8)))/\Below w.heap.size w wr)
  (fun v _=>len-(intOf v).toNat)
 case atStart=>
  exact ⟨0,Nat.zero_le _,rfl,_,Blk.new _ _ _,by simp [size_madeCells],fun i hi=>absurd hi (by omega),(Below.refl _ _).alloc (Nat.le_refl _) _⟩
 case round=>
  obtain ⟨k,hk,rfl,cs,hblk,hcs,hdone,hB⟩:=hrel
  by_cases hlt:k<len
  ·obtain ⟨b,off,rfl,hbW,hcW⟩:=(hsl.below (Nat.le_refl _) hB) (by omega)
   have hc0:=hcW k hlt
   have hz0:=hz k hlt
   have hblk1: ∀{w1:World},Below wr.heap.size wr w1->Blk w1 w.heap.size 78 cs:=fun hb=>hblk.below hb hblk.lt
   have hlg:=hblk.lt
   have hx0: ∃v0,cs[k*2]?=some v0:=⟨_,Array.getElem?_eq_getElem (by omega)⟩
   have hx1: ∃v1,cs[k*2+1]?=some v1:=⟨_,Array.getElem?_eq_getElem (by omega)⟩
   obtain ⟨v0,hv0⟩:=hx0
   obtain ⟨v1,hv1⟩:=hx1
   have HS:=Lib.hid hcs
   clear hcs hcW hsl
   go_wp2_with (first|(go_at_call 46;refine (of_any _ hz0.1 hz0.2 _).mono ?_;rintro e w1 ⟨rfl,hb1⟩;have q:=hblk1 hb1;have q0:=(q.cell (k*2)).trans hv0;have q1:=(q.cell (k*2+1)).trans hv1;have f0:=q.frozen (k*2);have f1:=q.frozen (k*2+1)))
   go_roundw
   case rel=>
    refine ⟨k+1,by omega,by go_num,_,(q.set_ (k*2) _).set_ (k*2+1) _,by simp [HS.out],fun i hi=>?_,?_⟩
    ·by_cases hik:i=k
     ·subst hik
      have :=HS.out
      constructor
      ·rw [Array.getElem?_setIfInBounds_ne (by omega),Array.getElem?_setIfInBounds_self_of_lt (by omega)]
      ·rw [Array.getElem?_setIfInBounds_self_of_lt (by simp;omega)]
     ·have :=hdone i (by omega)
      rw [Array.getElem?_setIfInBounds_ne (by omega),Array.getElem?_setIfInBounds_ne (by omega),Array.getElem?_setIfInBounds_ne (by omega),Array.getElem?_setIfInBounds_ne (by omega)]
      exact this
    ·exact ((step_below hB hb1).setCell (Nat.le_refl _) _).setCell (Nat.le_refl _) _
   case measure=>simp [intOf];omega
  ·obtain rfl:k=len:=by omega
   go_wp2
   go_ret
   exact ⟨cs,rfl,hblk,hcs,hdone,hB⟩
end Go.Proofs.YtmhfpjnkjlhbpaaGreatDoor
namespace Go.Proofs.YtmhfpjnkjlhbpaaGreatDoor
open Go.ChangeShapes Go.WideShapes Go.ChangeAt Go.RowKit Go.Deep
set_option linter.unusedVariables false
set_option maxRecDepth 100000
set_option linter.unusedSimpArgs false
open List renaming getElem_toArray->zA,getElem_cons_zero->zB,getElem_cons_succ->zC,setIfInBounds_toArray->zD,set_cons_zero->zE,set_cons_succ->zF
theorem own_picks {w:World} {base n:Nat} {v:Value} {L:List Pk} (h:w.ownsRow base 78 2 v n (L.flatMap pkE)) (hn:L.length=n): ∃A cap,v= .slice A n cap/\n<=cap/\SlE w A n 2 (fun i=>pkE (L.getD i (0,0))):=by
 subst hn
 obtain ⟨A,cap,h1,h2,h3⟩:=own_sle pkE (fun _=>rfl) (0,0) L h
 exact ⟨A,cap,h1,h2,h3⟩
theorem read_picks {w w':World} {len:Nat} {cs:Array Value} {Z:Nat->Int} (h:Blk w' w.heap.size 78 cs) (hc: ∀i,i<len->cs[i*2]?=some (.int .i64 (Z i/8 % 3))/\cs[i*2+1]?=some (.int .i64 (Z i % 8))):
 SlE w' (some ⟨w.heap.size,0,none⟩) len 2 (fun i=>pkE (Z i/8 % 3,Z i % 8)):=fun _=>
 ⟨w.heap.size,0,rfl,h.lt,fun i hi j u hu=>by
  have hj:j<2:=(List.getElem?_eq_some_iff.1 hu).1
  obtain ⟨h0,h1⟩:=hc i hi
  rw [Nat.zero_add,h.cell]
  rcases (by omega:j=0∨j=1)with rfl|rfl
  ·rw [Nat.add_zero,h0];exact hu
  ·rw [h1];exact hu⟩
theorem use_info:(Tryz.prog.info? 61).map (·.size)=some 2:=by kernel_rfl
set_option maxHeartbeats 40000000 in
theorem rwEnds_true (wA:Option Addr) (wn wc:Nat) (rA:Nat->Option Addr) (rl rc:Nat->Nat) (kd:Nat->Nat->Bool) (e:Nat) (he:e<=255) (hwc:wn<=wc/\wc<=maxLen) (hrc: ∀t,t<wn->rl t<=rc t/\rc t<=maxLen) (sA:Option Addr) (sn scap:Nat) (Y:Nat->Int) (mo:Nat) (hmo:mo<=255) (hsn:sn<=scap) (hsm:scap<=maxLen) (hy: ∀i,i<sn->0<=Y i/\Y i<=255)
 (w:World) (hT:Tab w) (hO:ONam w) (hw:Sl w wA wn (fun t=> .slice (rA t) (rl t) (rc t))) (hr: ∀t,t<wn->Sl w (rA t) (rl t) (fun i=> .bool (kd t i))) (hss:Sl w sA sn (fun i=> .int .u8 (Y i))):
 Calls Tryz.prog 10 #[.agg #[.slice wA wn wc,.int .u8 (e:Int)],.slice sA sn scap,.int .u8 (mo:Int)] w fun ed w'=>ed= .returned (.bool true)/\Below w.heap.size w w':=by
 have hal:=(Below.refl w.heap.size w).alloc (Nat.le_refl _) (.cells #[.slice wA wn wc,.int .u8 (e:Int)] 61)
 have cA:=awake22_any _ (hT.step hal) (hO.step hal)
 have hX:=Blk.new w 61 #[.slice wA wn wc,.int .u8 (e:Int)]
 have HI:=Lib.hid (And.intro hT (And.intro hss (And.intro hy (And.intro hsn (And.intro hsm he)))))
 have HU:=Lib.hid (And.intro hO (And.intro hw (And.intro hr (And.intro hwc hrc))))
 have HW:=Lib.hid (And.intro hX (And.intro hal (And.intro (hss.step hal) (And.intro (hT.step hal) (hO.step hal)))))
 clear hX hal hT hss hy hsn hsm hO hw hr hwc hrc
 obtain ⟨xb,hxb⟩: ∃xb,w.heap.size=xb:=⟨_,rfl⟩
 have HX0:=Lib.hid hxb.symm
 generalize hW1:w.alloc (.cells #[.slice wA wn wc,.int .u8 (e:Int)] 61)=W1 at cA HW
 rw [hxb]at HW
 go_enter Tryz.func10,Tryz.ntmps10
 go_wp2_with fail
 try rw [hW1]
 try rw [hxb]
 by_cases h3000:sn<=3000
 case neg=>
  have h3:((3000:Int)<(sn:Int)):=by omega
  with_reducible refine cA.mono ?_
  rintro ed Wa ⟨rfl,hB⟩
  have cA2:=awake22_any Wa (HW.out.2.2.2.1.step hB) (HW.out.2.2.2.2.step hB)
  have HB:=Lib.hid hB
  clear cA hB
  go_wp2_with fail
  with_reducible refine cA2.mono ?_
  rintro ed Wb ⟨rfl,hB2⟩
  clear cA2
  go_wp2
  go_ret
  rw [hxb]
  exact ⟨rfl,(HW.out.2.1.trans (HB.out.mono (by have :=HW.out.2.1.size;omega))).trans (hB2.mono (by have :=HW.out.2.1.size;have :=HB.out.size;omega))⟩
 case pos=>
  have h3: ¬((3000:Int)<(sn:Int)):=by omega
  with_reducible refine cA.mono ?_
  rintro ed Wa ⟨rfl,hB⟩
  clear cA hW1
  have hX:=HW.out.1.below hB HW.out.1.lt
  have hBa:Below xb w Wa:=HW.out.2.1.trans (hB.mono (by have :=HW.out.2.1.size;omega))
  have hBw:Below w.heap.size w Wa:=HX0.out▸hBa
  have cM:=ruMk_any wA wn wc rA rl rc kd e he HU.out.2.2.2.1 HU.out.2.2.2.2 Wa (HW.out.2.2.2.1.step hB) (HW.out.2.2.2.2.step hB) (HU.out.2.1.step hBw) (fun t ht=>(HU.out.2.2.1 t ht).step hBw)
  obtain ⟨th,hth⟩: ∃N,ruTh wn=N:=⟨_,rfl⟩
  obtain ⟨rm,hrm⟩: ∃N,1+e % 4=N:=⟨_,rfl⟩
  obtain ⟨rd,hrd⟩: ∃N,ruRd wn rl=N:=⟨_,rfl⟩
  rw [hth,hrm,hrd]at cM
  have bth:1<=th/\th<=4:=by rw [<-hth];unfold ruTh;omega
  have brm:1<=rm/\rm<=4:=by omega
  have brd: ∀t,rd t<=4:=fun t=>by rw [<-hrd];unfold ruRd;split<;>omega
  clear hth hrm hrd
  have hxl:=hX.lt
  have HXa:=Lib.hid (And.intro hX hBa)
  clear hX hBa hB hBw
  go_wp2_with (refine wpList_load_row rfl 61 (.tmp 3) rfl xb rfl 61 #[.slice wA wn wc,.int .u8 (e:Int)] _ _ HXa.out.1 Tryz.underlying61 rfl use_info ?_)
  with_reducible refine cM.mono ?_
  rintro ed Wb ⟨v,mb,base,rfl,hBb,hCk,hSl⟩
  clear cM
  obtain ⟨wrN,hwrN⟩: ∃x,(sumT th fun t=>wrs (kd t) (rd t))=x:=⟨_,rfl⟩
  have bwr:wrN<=16:=by have :=sumT_le (W:=th) (f:=fun t=>wrs (kd t) (rd t)) (k:=4) (fun t _=>by have :=wrs_le (kd t) (rd t);have :=brd t;omega);omega
  obtain ⟨vA,vc,hve⟩:=hCk.cap
  rw [List.length_map,List.length_range]at hve
  subst hve
  obtain ⟨m,hm⟩: ∃m,17+th=m:=⟨_,rfl⟩
  rw [hm]at hSl
  try rw [hm]
  try rw [hwrN]
  have HWR:=Lib.hid hwrN
  clear hwrN
  have bm:m<=21:=by omega
  have halb:=(Below.refl Wb.heap.size Wb).alloc (Nat.le_refl _) (.cells #[.slice vA th vc,.slice (some ⟨mb,0,none⟩) m m,.int .i64 (rm:Int)] 29)
  have hPb:=Blk.new Wb 29 #[.slice vA th vc,.slice (some ⟨mb,0,none⟩) m m,.int .i64 (rm:Int)]
  have hCp:=hCk.below halb
  have hSp:=hSl.step halb
  have hXp:=(HXa.out.1.below hBb HXa.out.1.lt).below halb (by have :=(HXa.out.1.below hBb HXa.out.1.lt).lt;exact this)
  have hBp:Below xb w (Wb.alloc (.cells #[.slice vA th vc,.slice (some ⟨mb,0,none⟩) m m,.int .i64 (rm:Int)] 29)):=(HXa.out.2.trans (hBb.mono (by have :=HXa.out.2.size;have :=HX0.out;omega))).trans (halb.mono (by have :=HXa.out.2.size;have :=HX0.out;have :=hBb.size;omega))
  obtain ⟨pb,hpb⟩: ∃pb,Wb.heap.size=pb:=⟨_,rfl⟩
  rw [hpb]at hPb
  have hpx:pb≠xb:=by have :=(HXa.out.1.below hBb HXa.out.1.lt).lt;omega
  clear hCk hSl halb hBb
  generalize hWp:Wb.alloc (.cells #[.slice vA th vc,.slice (some ⟨mb,0,none⟩) m m,.int .i64 (rm:Int)] 29)=Wp at hPb hCp hSp hXp hBp
  have hL: ∀l∈(List.range th).map (fun t=>rwT t (kd t) (rd t)),∃t,t<th/\l=rwT t (kd t) (rd t):=fun l hl=>by
   obtain ⟨t,h1,h2⟩:=List.mem_map.1 hl
   exact ⟨t,List.mem_range.1 h1,h2.symm⟩
  have hgd:=fun t (ht:t<th)=>rwT_good t (kd t) (rd t) (by omega) (brd t)
  obtain ⟨vA',vc',cds,hv',pO,pC,pA,pcd⟩:=hCp.prog (fun l hl x hx=>by obtain ⟨t,h1,rfl⟩:=hL l hl;exact (hgd t h1).1 x hx) (fun l hl x hx=>by obtain ⟨t,h1,rfl⟩:=hL l hl;exact (hgd t h1).2.1 x hx)
   (fun l hl=>by obtain ⟨t,h1,rfl⟩:=hL l hl;have h5:=rwT_small t (kd t) (brd t);omega) (by rw [List.length_map,List.length_range];omega) (room:=(rm:Int)) (by omega) (mA:=some ⟨mb,0,none⟩) (m:=m) (mcap:=m) (by omega) ⟨Nat.le_refl _,by unfold maxLen;omega⟩ hSp
  rw [List.length_map,List.length_range]at hv' pO pC pA pcd
  injection hv' with e1 _ e2
  subst e1 e2
  obtain ⟨pg,hpg⟩: ∃pg,lPg vA th vc cds (some ⟨mb,0,none⟩) m m (rm:Int)=pg:=⟨_,rfl⟩
  have cN:=tsoNew_ok pg (hpg▸pO) 0 0 (hpg▸pC) Wp (HI.out.1.step (HX0.out▸hBp)) (hpg▸pA)
  have hpv:pg.val= .agg #[.slice vA th vc,.slice (some ⟨mb,0,none⟩) m m,.int .i64 (rm:Int)]:=by rw [<-hpg];rfl
  rw [hpv]at cN
  have pcd': ∀t,t<th->(pg.cd t).len=(rwT t (kd t) (rd t)).length/\(pg.cd t).F=fun i=>(rwT t (kd t) (rd t)).getD i default:=fun t ht=>by
   have h:=pcd t ht
   have e:((List.range th).map fun t=>rwT t (kd t) (rd t)).getD t []=rwT t (kd t) (rd t):=by simp [List.getD_eq_getElem?_getD,List.getElem?_map,List.getElem?_range ht]
   rw [e]at h
   rw [<-hpg]
   exact h
  have hnth:pg.n=th:=by rw [<-hpg];rfl
  have HPG:=Lib.hid (And.intro (hpg▸pO) (And.intro (show 1<=pg.room/\pg.room<=16 by rw [<-hpg];show 1<=(rm:Int)/\(rm:Int)<=16;omega) (And.intro (show pg.m=17+pg.n by rw [<-hpg];exact hm.symm) (And.intro (show∀i,pg.Z i=0 by rw [<-hpg];exact fun _=>rfl) (And.intro (show 1<=pg.n/\pg.n<=4 by rw [hnth];exact bth) (fun t (ht:t<pg.n)=>pcd' t (by rw [<-hpg]at ht;exact ht)))))))
  have HP:=Lib.hid (And.intro hPb (And.intro hXp (And.intro hBp (And.intro hpx (And.intro hnth hm)))))
  clear hL hgd pO pC pA pcd pcd' hpv hpg hPb hCp hSp hXp hBp hpx hm hnth
  have p0:=(HP.out.1.cell 0).trans rfl
  have p1:=(HP.out.1.cell 1).trans rfl
  have p2:=(HP.out.1.cell 2).trans rfl
  go_wp2_with fail
  try rw [hWp]
  try rw [hpb]
  with_reducible refine cN.mono ?_
  rintro ed W6 ⟨B,rfl,hNew,hroom,hI,hB6⟩
  clear cN hWp hpb p0 p1 p2
  have hBok:=newM_ok hNew (by have :=HPG.out.2.2.2.2.1;omega) (by have :=HPG.out.2.2.2.2.1;have :=HPG.out.2.2.1;omega)
  have hOk0:=t0_ok HPG.out.1 hNew
  have hb6:Below w.heap.size w W6:=step_below (HX0.out▸HP.out.2.2.1) hB6
  have hss6:=HI.out.2.1.step hb6
  have hP6:=HP.out.1.below hB6 HP.out.1.lt
  have hX6:=HP.out.2.1.below hB6 HP.out.2.1.lt
  have HM:=Lib.hid (And.intro hNew (And.intro hroom (And.intro hI (And.intro hb6 (And.intro hBok (And.intro hOk0 (And.intro hB6 hP6)))))))
  clear hNew hroom hI hB6 hBok hOk0 hb6 hX6 hP6
  obtain ⟨g5,hg5⟩: ∃g5,W6.heap.size=g5:=⟨_,rfl⟩
  have HG5:=Lib.hid hg5
  go_wp2_with (at_builtin;refine wpList_bytes_new rfl (.tmp 47) (.tmp 48) rfl g5 hg5 (by first|rfl|(rw [<-hg5];rfl)) sA sn scap (fun i=> .int .u8 (Y i)) rfl hss6 (fun _ _=>rfl) (by omega) ?_;intro A5 c5 W5' hbk hc5 hc5m hB5;have HB5:=Lib.hid (And.intro hbk hB5);clear hbk hB5 hss6 hg5)
  go_loopw [13] (fun v13 wr=> ∃i:Nat,i<=sn/\v13= .int .i64 (i:Int)/\Below g5 W6 wr/\(sn=0∨ ∃g' cs,A5=some ⟨g',0,none⟩/\Blk wr g' 5 cs/\g5<=g'/\ ∀j,j<sn->cs[j]?=some (.int .u8 (if j<i then Y j % 16 else Y j)))) (fun v13 _=>sn-(intOf v13).toNat)
  case atStart=>exact ⟨0,Nat.zero_le _,rfl,HB5.out.2,HB5.out.1.imp id (fun ⟨g',cs,h1,h2,h3,h4⟩=>⟨g',cs,h1,h2,h3,fun j hj=>by rw [if_neg (by omega)];exact h4 j hj⟩)⟩
  case round=>
   obtain ⟨i,hi,rfl,hBr,hbr⟩:=hrel
   obtain ⟨W9,rfl⟩: ∃W9,W9=wr:=⟨_,rfl⟩
   by_cases hil:i<sn
   case pos=>
    have hil':(i:Int)<(sn:Int):=by omega
    obtain ⟨g',cs,rfl,hblk,hgg,hcs⟩:=hbr.resolve_left (by omega)
    have hyi:=HI.out.2.2.1 i hil
    have y1:W9.cell? ⟨g',i,none⟩=some (.int .u8 (Y i)):=by rw [hblk.cell,hcs i hil,if_neg (by omega)]
    have y2:=hblk.frozen i
    have tm:Int.tmod (Y i) 16=Y i % 16:=Int.tmod_eq_emod_of_nonneg hyi.1
    have tw:IntKind.u8.wrap (Y i % 16)=Y i % 16:=IntWalk.u8_in _ (by omega)
    have hi0:(0:Int)<=(i:Int):=by omega
    have HBK:=Lib.hid (And.intro hBr (And.intro hblk (And.intro hgg hcs)))
    clear hBr hblk hcs hbr
    go_wp2_with fail
    go_roundw
    case rel=>
     obtain ⟨hBr,hblk,hgg,hcs⟩:=HBK.out
     refine ⟨i+1,by omega,by go_num,hBr.setCell (p:=⟨g',i,none⟩) hgg _,.inr ⟨g',_,rfl,hblk.set_ i _,hgg,fun j hj=>?_⟩⟩
     rw [Array.getElem?_setIfInBounds]
     split
     ·rename_i e
      subst e
      rw [if_pos (by have :=(Array.getElem?_eq_some_iff.1 (hcs i hil)).1;exact this),if_pos (by omega)]
     ·rw [hcs j hj]
      by_cases hji:j<i
      ·rw [if_pos hji,if_pos (by omega)]
      ·rw [if_neg hji,if_neg (by omega)]
    case measure=>simp [intOf];omega
   case neg=>
    have hie:i=sn:=by omega
    have hil': ¬(i:Int)<(sn:Int):=by omega
    subst hie
    obtain ⟨Y2,hY2⟩: ∃Y2:Nat->Int,(fun j=>Y j % 16)=Y2:=⟨_,rfl⟩
    have hs9:Sl W9 A5 i (fun j=> .int .u8 (Y2 j)):=fun hp=>by
     obtain ⟨g',cs,e,hblk,hgg,hcs⟩:=hbr.resolve_left (by omega)
     refine ⟨g',0,e,hblk.lt,fun j hj=>?_⟩
     rw [Nat.zero_add,hblk.cell,hcs j hj,if_pos hj,<-hY2]
    have hy2: ∀j,j<i->0<=Y2 j/\Y2 j<=15:=fun j hj=>by rw [<-hY2];dsimp only;omega
    have hsz9:W6.heap.size<=W9.heap.size:=by have :=hBr.size;have :=HG5.out;omega
    have hBr6:Below W6.heap.size W6 W9:=by rw [HG5.out];exact hBr
    have HY:=Lib.hid hy2
    have hB0:Below W6.heap.size W6 W9.drew:=step_below hBr6 (below_drewB W9)
    have hs0:=hs9.step (below_drewB W9)
    have hP0:=HM.out.2.2.2.2.2.2.2.below hB0 HM.out.2.2.2.2.2.2.2.lt
    have hsz0:W6.heap.size<=W9.drew.heap.size:=hsz9
    obtain ⟨wN,hwN⟩: ∃wN,4*th+mo=wN:=⟨_,rfl⟩
    obtain ⟨nN,hnN⟩: ∃nN,20*wN=nN:=⟨_,rfl⟩
    have uw:4*(th:Int)+(mo:Int)=(wN:Int):=by omega
    have un:20*(wN:Int)=(nN:Int):=by omega
    have un3:IntKind.i64.wrap (nN:Int)=(nN:Int):=IntWalk.i64_in _ (by omega)
    have un2:IntKind.i64.wrap (20*(wN:Int))=(nN:Int):=by rw [un];exact IntWalk.i64_in _ (by omega)
    have bw:4*th<=wN/\wN<=271:=by omega
    have bn:nN<=5420:=by omega
    have HNN:=Lib.hid hnN
    have hP9:=HM.out.2.2.2.2.2.2.2.below hBr6 HM.out.2.2.2.2.2.2.2.lt
    have p0:=(hP9.cell 0).trans rfl
    clear hbr hBr hY2 hBr6 hwN hnN hs9
    go_upto_region 13 with fail
    refine startG (fun W'=>Below W9.drew.heap.size W9.drew W') 13 (by kernel_rfl) ?_
    clear p0 hP9
    have hH:Below W9.drew.heap.size W9.drew W9.drew:=Below.refl _ _
    generalize W9.drew=W0 at hB0 hs0 hP0 hsz0 hH⊢
    have HX:=Lib.hid hP0
    have cR:=pickRead_any A5 i c5 Y2 W0 (by omega) hs0 (fun j hj=>by have :=hy2 j hj;omega)
    have HB9:=Lib.hid (And.intro hB0 hsz0)
    clear hy2 hs0 hP0 hB0 hsz0 hsz9
    refine takeA (i:=0) (v:= .slice A5 i c5) rfl hH ?_
    simp only [Act.put,zA,zB,zC,zD,zE,zF]
    refine takeA (i:=2) (v:= .pointer (some ⟨pb,0,none⟩)) rfl hH ?_
    simp only [Act.put,zA,zB,zC,zD,zE,zF]
    refine takeB (i:=3) (v:= .slice vA th vc) rfl (Or.inl ⟨by rfl,fun W hW=>by have q0:=((HX.out.below hW HX.out.lt).cell 0).trans rfl;go_simp⟩) hH ?_
    simp only [Act.put,zA,zB,zC,zD,zE,zF]
    refine takeA (i:=4) (v:= .int .i64 (th:Int)) rfl hH ?_
    simp only [Act.put,zA,zB,zC,zD,zE,zF]
    refine takeA (i:=5) (v:= .int .i64 (wN:Int)) rfl hH ?_
    simp only [Act.put,zA,zB,zC,zD,zE,zF]
    refine takeA (i:=6) (v:= .int .i64 (wN:Int)) rfl hH ?_
    simp only [Act.put,zA,zB,zC,zD,zE,zF]
    refine takeA (i:=7) (v:= .int .i64 (nN:Int)) rfl hH ?_
    simp only [Act.put,zA,zB,zC,zD,zE,zF]
    refine onlyG (i:=1) (by kernel_rfl) rfl (fun K hK=>?_)
    go_simp
    with_reducible refine cR.mono ?_
    rintro ed W7 ⟨cs7,rfl,hb7,hs7,hc7,hB7⟩
    refine hK.out _ _ hB7 (fun _=>?_)
    clear hK K cR
    try simp only [Act.put,zA,zB,zC,zD,zE,zF]
    have hpk:=read_picks hb7 hc7
    have cE:=even_yes (some ⟨W0.heap.size,0,none⟩) i i (fun i=>(Y2 i/8 % 3,Y2 i % 8)) th wN nN (by omega) (by omega) (by omega) bw.1 (by omega) (by omega) W7 hpk
    obtain ⟨g6,hg6⟩: ∃g6,W0.heap.size=g6:=⟨_,rfl⟩
    have HB7:=Lib.hid (And.intro hB7 hg6)
    clear hb7 hs7 hc7 hpk
    rw [hg6]at cE
    rw [hg6]at hB7
    try rw [hg6]
    refine onlyG (i:=8) (by kernel_rfl) rfl (fun K hK=>?_)
    go_simp
    with_reducible refine cE.mono ?_
    rintro ed W8 ⟨vL,L,D,kk,rfl,hLn,hown,hpl,hB8⟩
    refine hK.out _ _ (hB7.trans (hB8.mono (by have :=hB7.size;omega))) (fun _=>?_)
    clear hK K cE
    try simp only [Act.put,zA,zB,zC,zD,zE,zF]
    have hH:Below g6 W0 W8:=hB7.trans (hB8.mono (by have :=hB7.size;omega))
    refine takeA (i:=9) (v:= .tuple #[vL,.int .i64 0]) rfl hH ?_
    simp only [Act.put,zA,zB,zC,zD,zE,zF]
    refine takeA (i:=10) (v:=vL) rfl hH ?_
    simp only [Act.put,zA,zB,zC,zD,zE,zF]
    refine takeA (i:=11) (v:= .int .i64 0) rfl hH ?_
    simp only [Act.put,zA,zB,zC,zD,zE,zF]
    refine takeA (i:=12) (v:=vL) rfl hH ?_
    simp only [Act.put,zA,zB,zC,zD,zE,zF]
    refine lastG (by kernel_rfl) rfl (by kernel_rfl) (fun K hK=>?_)
    go_simp
    refine hK.out _ _ ?_
    clear hK K hB7 hH
    try simp only [Act.put,zA,zB,zC,zD,zE,zF]
    clear hg6
    rw [hLn]at hown
    obtain ⟨AL,cL,rfl,_,hslL⟩:=own_picks hown hLn
    obtain ⟨hNew,hroom,hI6,hb6,hBok,hOk0,hB6,hP6⟩:=HM.out
    have hfair:=hpl.fair (by omega) (by omega) bw.1 (by omega) (by omega)
    have hB9:Below W6.heap.size W6 W8:=step_below HB9.out.1 (step_below HB7.out.1 hB8)
    have hI8:=hI6.below hB9
    have hb8:=step_below hb6 hB9
    obtain ⟨hnc,hCd,mu0,hl0,hmu0,hR0⟩:=rwm_begin HPG.out.1 hNew hroom HPG.out.2.1 HPG.out.2.2.1 HPG.out.2.2.2.1 HPG.out.2.2.2.2.1.1 HPG.out.2.2.2.2.1.2 kd rd (fun t _=>brd t) HPG.out.2.2.2.2.2
    have hok: ∀x∈L,x.1≠2:=hpl.all (P:=fun x=>x.1≠2) (fun kind who hk _=>by show ((kind:Nat):Int)≠2;omega) (fun q hq=>by have :=HY.out q hq;show Y2 q/8 % 3≠2;omega)
    have hEv0:EvC 999999000 (2*(1000*nN)) (t0 pg):=by
     unfold EvC
     show 0+tot (List.replicate pg.n [])+_<=_
     rw [tot_nil];omega
    have hths: ∀s,TOk B s->s.ths.length=th/\s.bufs.length=s.ths.length:=fun s hs=>⟨by have h1:=hs.ok.nt;have h2:=hNew.n;have h4:=HP.out.2.2.2.2.1;omega,by rw [hs.bl,hs.ok.nt]⟩
    obtain ⟨g9,hg9⟩: ∃g9,W8.heap.size=g9:=⟨_,rfl⟩
    have hLb:0<nN-> ∀bb o,AL=some ⟨bb,o,none⟩->g6<=bb/\bb<g9:=fun hp bb o e=>by
     have h1:=own_in hown bb (by rw [e];rfl)
     have h2:=HB7.out.1.size
     have h3:=HB7.out.2
     exact ⟨by omega,by rw [<-hg9];exact h1.2⟩
    have hsz8:g6<=g9:=by have h1:=HB7.out.1.size;have h2:=HB7.out.2;have h3:=hB8.size;omega
    have hown0: ∀i,(fun i=>Wp.heap.size<=i/\i<W6.heap.size) i->Wp.heap.size<=i/\(i<g6∨g9<=i):=fun i q=>⟨q.1,.inl (by have h1:=q.2;have h2:=HB9.out.2;have h3:=HB7.out.2;omega)⟩
    have hwp:w.heap.size<=Wp.heap.size:=by have h1:=HP.out.2.2.1.size;have h2:=HX0.out;omega
    have hTab:=HI.out.1
    have hfull:20*wN<=L.length:=by rw [hLn,HNN.out];exact Nat.le_refl _
    have hBm:B.m=m:=by have h1:=hNew.m;have h2:=HPG.out.2.2.1;have h3:=HP.out.2.2.2.2.1;have h4:=HP.out.2.2.2.2.2;omega
    have HA0:=Lib.hid (And.intro hR0 (And.intro hmu0 (And.intro hOk0 (And.intro hEv0 (And.intro hI8 (And.intro hown0 (And.intro hb8 hslL)))))))
    have HA:=Lib.hid (And.intro (And.intro hnc (And.intro hCd hok)) (And.intro hBok (And.intro hths (And.intro hLb (And.intro hfair.2.2 (And.intro hroom (And.intro hsz8 (And.intro hwp (And.intro hfull (And.intro hLn (And.intro HP.out.2.2.2.2.1 hBm)))))))))))
    have HG9:=Lib.hid hg9
    have HWP:=Lib.hid (show Wp.heap.size<=g9 by have h1:=HB7.out.1.size;have h2:=HB7.out.2;have h3:=hB8.size;have h4:=hB6.size;have h5:=HB9.out.2;omega)
    clear hnc hCd hok hBok hths hLb hfair hroom hsz8 hwp hfull hLn hNew hI6 hI8 hb6 hb8 hOk0 hB6 hpl hown hslL hB8 hR0 hmu0 hEv0 hg9 hown0 hTab hBm hB9 hP6
    go_wp2_with fail
    go_loopw [17] (fun vi wr=> ∃(k:Nat) (s:Mst) (own:Nat->Prop) (mu:Nat) (h:Int×Int),k<=1000/\vi= .int .i64 (k:Int)/\RwR pg.n kd rd (fun t=>rwB (kd t)) B s mu h/\mu<=20000-20*k/\TOk B s/\EvC 999999000 (2*((1000-k)*nN)) s/\MInv tsoL B s own wr/\(∀i,own i->Wp.heap.size<=i/\(i<g6∨g9<=i))/\g9<=wr.heap.size/\Below w.heap.size w wr/\SlE wr AL nN 2 (fun i=>pkE (L.getD i (0,0)))) (fun vi _=>1000-(intOf vi).toNat)
    case atStart=>exact ⟨0,t0 pg,_,mu0,hl0,Nat.zero_le _,rfl,HA0.out.1,by have :=HA0.out.2.1;omega,HA0.out.2.2.1,HA0.out.2.2.2.1,HA0.out.2.2.2.2.1,HA0.out.2.2.2.2.2.1,by rw [HG9.out];exact Nat.le_refl _,HA0.out.2.2.2.2.2.2.1,HA0.out.2.2.2.2.2.2.2⟩
    case round=>
     obtain ⟨k,s,own,mu,h,hk,rfl,hR,hmu,hOk,hEv,hI9,hown9,hg,hBw,hsl⟩:=hrel
     obtain ⟨hth1,hth2⟩:=HA.out.2.2.1 s hOk
     by_cases hk3:k<1000
     case neg=>
      have hke: ¬(k:Int)<1000:=by omega
      have hmu0:mu=0:=by omega
      rw [hmu0]at hR
      have hdn:=hR.done
      have hD:doneM s=true:=doneM_of (fun t ht=>hdn t (by rw [HA.out.2.2.2.2.2.2.2.2.2.2.1];rw [hth1]at ht;exact ht))
      have cD:=tdone_any B s own wr hI9 (by omega) (by omega) hth2
      rw [hD]at cD
      have HBW:=Lib.hid hBw
      have HST:=Lib.hid (And.intro hOk (And.intro hD (And.intro hI9 (And.intro hEv hR))))
      clear hR hmu hOk hEv hI9 hown9 hg hBw hsl hdn hD hth1 hth2 hmu0
      go_wp2_with fail
      with_reducible refine cD.mono ?_
      rintro ed Wz ⟨rfl,hBz⟩
      clear cD
      have hth0:=(HA.out.2.2.1 s HST.out.1).1
      have hIz:=HST.out.2.2.1.below hBz
      have hml:s.mem.length=m:=by rw [HST.out.2.2.2.2.nt];exact HA.out.2.2.2.2.2.2.2.2.2.2.2
      have hmp:0<m:=by have :=HP.out.2.2.2.2.2;omega
      have hmp':(0:Int)<(m:Int):=by omega
      have hm0:=HST.out.2.2.2.2.fin (by rw [hth0];exact HA.out.2.2.2.2.2.2.2.2.2.2.1.symm) HST.out.2.1
      rw [HA.out.2.2.2.2.2.2.2.2.2.2.1,HWR.out]at hm0
      have cM1:=tmem_any B s own Wz hIz (by rw [hml];omega)
      have HBz:=Lib.hid (step_below HBW.out hBz)
      clear hIz hth0 hBz
      go_wp2_with fail
      with_reducible refine cM1.mono ?_
      rintro ed Wm ⟨v1,rfl,hr1,hB1⟩
      obtain ⟨b1,o1,c1,rfl,hl1,hx1⟩:=mem_cells hr1 hml (by omega)
      have y1:=hx1 0 (by omega)
      rw [hm0,Nat.add_zero]at y1
      have HB1:=Lib.hid (step_below HBz.out hB1)
      clear cM1 hr1 hx1 hB1 hl1
      go_wp2
      go_ret
      exact ⟨rfl,by have K:=HB1.out;first|exact K|(rw [hxb]at K;exact K)⟩
     case pos=>
      have hke:(k:Int)<1000:=by omega
      have cD:=tdone_any B s own wr hI9 (by omega) (by omega) hth2
      obtain ⟨dn,hdn⟩: ∃dn,doneM s=dn:=⟨_,rfl⟩
      rw [hdn]at cD
      have HRR:=Lib.hid (And.intro hR (And.intro hmu (And.intro hOk (And.intro hEv (And.intro hI9 (And.intro hown9 (And.intro hg (And.intro hBw (And.intro hsl (And.intro hdn (And.intro hth1 hth2)))))))))))
      clear hR hmu hOk hEv hI9 hown9 hg hBw hsl hdn hth1 hth2
      go_wp2_with fail
      with_reducible refine cD.mono ?_
      rintro ed Wd ⟨rfl,hBd⟩
      clear cD
      obtain ⟨hR,hmu,hOk,hEv,hI9,hown9,hg,hBw,hsl,hdn,hth1,hth2⟩:=HRR.out
      have hId:=hI9.below hBd
      cases dn with
      |true=>
       have cD2:=tdone_any B s own Wd hId (by omega) (by omega) hth2
       rw [hdn]at cD2
       have HBW:=Lib.hid (step_below hBw hBd)
       have HST:=Lib.hid (And.intro hOk (And.intro hdn (And.intro hId (And.intro hEv hR))))
       clear hR hmu hOk hEv hI9 hown9 hg hBw hsl hdn hth1 hth2 hBd hId
       go_wp2_with fail
       with_reducible refine cD2.mono ?_
       rintro ed Wz ⟨rfl,hBz⟩
       clear cD2
       have hth0:=(HA.out.2.2.1 s HST.out.1).1
       have hIz:=HST.out.2.2.1.below hBz
       have hml:s.mem.length=m:=by rw [HST.out.2.2.2.2.nt];exact HA.out.2.2.2.2.2.2.2.2.2.2.2
       have hmp:0<m:=by have :=HP.out.2.2.2.2.2;omega
       have hmp':(0:Int)<(m:Int):=by omega
       have hm0:=HST.out.2.2.2.2.fin (by rw [hth0];exact HA.out.2.2.2.2.2.2.2.2.2.2.1.symm) HST.out.2.1
       rw [HA.out.2.2.2.2.2.2.2.2.2.2.1,HWR.out]at hm0
       have cM1:=tmem_any B s own Wz hIz (by rw [hml];omega)
       have HBz:=Lib.hid (step_below HBW.out hBz)
       clear hIz hth0 hBz
       go_wp2_with fail
       with_reducible refine cM1.mono ?_
       rintro ed Wm ⟨v1,rfl,hr1,hB1⟩
       obtain ⟨b1,o1,c1,rfl,hl1,hx1⟩:=mem_cells hr1 hml (by omega)
       have y1:=hx1 0 (by omega)
       rw [hm0,Nat.add_zero]at y1
       have HB1:=Lib.hid (step_below HBz.out hB1)
       clear cM1 hr1 hx1 hB1 hl1
       go_wp2
       go_ret
       exact ⟨rfl,by have K:=HB1.out;first|exact K|(rw [hxb]at K;exact K)⟩
      |false=>
       have hF:=range_getD_pk L HA.out.2.2.2.2.2.2.2.2.2.1
       have hlo2: ∀i,own i->2<=i:=fun i q=>by have h1:=(hown9 i q).1;have h2:=HA.out.2.2.2.2.2.2.2.1;have h3:=HI.out.1.1;omega
       have cQ:=trun2_any B HA.out.2.1 s (by rw [HA.out.2.2.2.2.2.1];exact HPG.out.2.1.2) hOk AL nN cL (fun i=>L.getD i (0,0)) (hEv.mono (by
        have h1:nN<=(1000-k)*nN:=Nat.le_mul_of_pos_left nN (by omega)
        omega)) own Wd hId (HI.out.1.step (step_below hBw hBd)) (hsl.below (Nat.le_refl _) hBd) (fun hp bb o e q=>by
        have h1:=HA.out.2.2.2.1 hp bb o e
        have h2:=(hown9 bb q).2
        omega) (by omega)
       rw [hF]at cQ
       obtain ⟨mu',hl',hR',hmu'⟩:=(rw_lives HA.out.2.1 HA.out.1.1 HA.out.1.2.1).windows 20 L (nt:=pg.n) (w:=wN) (by rw [HA.out.2.2.2.2.2.2.2.2.2.2.1];exact HA.out.2.2.2.2.1) HA.out.1.2.2 HA.out.2.2.2.2.2.2.2.2.1 hR
       have hOk':=tRun_ok HA.out.2.1 L s hOk
       have hEv':EvC 999999000 (2*((1000-(k+1))*nN)) (tRun B s L):=by
        refine tRun_evc L (hEv.mono ?_)
        have e1:(1000-k)*nN=(1000-(k+1))*nN+nN:=by rw [show 1000-k=1000-(k+1)+1 by omega,Nat.succ_mul]
        have e2:=HA.out.2.2.2.2.2.2.2.2.2.1
        omega
       obtain ⟨S',hS'⟩: ∃S',tRun B s L=S':=⟨_,rfl⟩
       rw [hS']at cQ hR' hOk' hEv'
       have HN1:=Lib.hid (And.intro hR' (And.intro hmu' (And.intro hOk' (And.intro hEv' (And.intro hmu (And.intro hown9 (And.intro hg (And.intro (step_below hBw hBd) (And.intro (hsl.below (Nat.le_refl _) hBd) hBd.size)))))))))
       clear hR hmu hOk hEv hI9 hown9 hg hBw hsl hdn hth1 hth2 hBd hId hF hlo2 hR' hmu' hOk' hEv' hS'
       go_wp2_with fail
       with_reducible refine cQ.mono ?_
       rintro ed We ⟨⟨u,rfl⟩,hMv⟩
       clear cQ
       have HMV:=Lib.hid hMv
       clear hMv
       go_wp2_with fail
       go_roundw
       case rel=>
        obtain ⟨own',hI',ho',hk'⟩:=HMV.out
        obtain ⟨hR',hmu',hOk',hEv',hmu,hown9,hg,hBw,hsl,hsz⟩:=HN1.out
        refine ⟨k+1,S',own',mu',hl',by omega,by go_num,hR',by omega,hOk',hEv',hI',fun i q=>?_,Nat.le_trans hg (Nat.le_trans hsz hk'.size),hk'.belowM hBw hBw.size (fun i q=>Nat.le_trans HA.out.2.2.2.2.2.2.2.1 (hown9 i q).1),hk'.sle hsl (fun hp bb o e q=>?_)⟩
        ·rcases ho' i q with z|z
         ·exact hown9 i z
         ·have h9:g9<=i:=Nat.le_trans hg (Nat.le_trans hsz z)
          have h8:=HA.out.2.2.2.2.2.2.2.1
          have hp:=HWP.out
          exact ⟨by omega,.inr h9⟩
        ·have h1:=HA.out.2.2.2.1 hp bb o e
         have h2:=(hown9 bb q).2
         omega
       case measure=>simp [intOf];omega
end Go.Proofs.YtmhfpjnkjlhbpaaGreatDoor
