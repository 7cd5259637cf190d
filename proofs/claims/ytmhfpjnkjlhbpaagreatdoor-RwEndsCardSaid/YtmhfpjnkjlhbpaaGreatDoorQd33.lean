/- law22's alone: a thread alone that asks a lock, call by call (printed by gen/rwt.py). rw: the closure that adds a call to a code, by its contract. -/
import Derived.Test.YtmhfpjnkjlhbpaaGreatDoorQd32
import Derived.Test.YtmhfpjnkjlhbpaaGreatDoorQd28
import Derived.Test.YtmhfpjnkjlhbpaaGreatDoorQd29
namespace Go.Proofs.YtmhfpjnkjlhbpaaGreatDoor
open Go.ChangeShapes Go.WideShapes Go.ChangeAt Go.RowKit Go.Deep
set_option linter.unusedVariables false
set_option maxRecDepth 100000
set_option linter.unusedSimpArgs false
open List renaming getElem_toArray->zA,getElem_cons_zero->zB,getElem_cons_succ->zC,setIfInBounds_toArray->zD,set_cons_zero->zE,set_cons_succ->zF
theorem rw_codes (nt t:Nat) (ht:t<nt) (hn:nt<=8) (c:Nat) (hc:isRw c) (W:World) (hT:Tab W) (hO:ONam W):
 Calls Tryz.prog 24 #[.agg #[.int .i64 14,.int .i64 0,.int .i64 0,.int .i64 0],.int .i64 (c:Int),.int .i64 (nt:Int),.int .i64 (t:Int),.int .u32 16,.int .u32 0] W fun e W'=>(∃v,e= .returned (.tuple #[v,.bool true])/\OutI W v (rwL (t:Int) c) W')/\Below W.heap.size W W':=by
 have h1:1<=(nt:Int)/\(nt:Int)<=8:=by omega
 have h2:0<=(t:Int)/\(t:Int)<(nt:Int):=by omega
 rcases hc with rfl|rfl|rfl
 ·exact code_rwrite (nt:Int) 16 (t:Int) 0 h1 h2 (by decide) W hT hO
 ·exact code_rrel (nt:Int) 16 (t:Int) 0 h1 h2 (by decide) W hT hO
 ·exact code_rread (nt:Int) 16 (t:Int) 0 h1 h2 (by decide) W hT hO
theorem rwPicks_exact (k:Nat):(rwPicks k).length=k+(k+2)/3:=by
 induction k with
 |zero=>rfl
 |succ k ih=>rw [rwPicks_succ,List.length_append,ih];split<;>simp<;>omega
theorem rwO_len (cs:List Nat) (k:Nat):(rwO cs k).length=k:=by unfold rwO;simp
theorem own_mono {W:World} {b b' s n:Nat} {e:TypeId} {v:Value} {xs:List Value} (h:W.ownsRow b e s v n xs) (hb:b'<=b):W.ownsRow b' e s v n xs:=by
 refine ⟨h.1,?_⟩
 rcases h.2 with hn|⟨g,cap,cur,rfl,hbg,rest⟩
 ·exact .inl hn
 ·exact .inr ⟨g,cap,cur,rfl,Nat.le_trans hb hbg,rest⟩
theorem lock_any (W:World):Calls Tryz.prog 65 #[] W fun e W'=>e= .returned (.agg #[.int .i64 14,.int .i64 0,.int .i64 0,.int .i64 0])/\Below W.heap.size W W':=by
 have hB:=(Below.refl W.heap.size W).alloc (Nat.le_refl _) (.cells #[.int .i64 14,.int .i64 0,.int .i64 0,.int .i64 0] 46)
 have hb:=Blk.new W 46 #[.int .i64 14,.int .i64 0,.int .i64 0,.int .i64 0]
 go_enter Tryz.func65,Tryz.ntmps65
 go_wp2
 exact bodyPost_ret (results_cell Tryz.results65 _ _ _ _ rfl (run_row _ _ _ _ _ _ hb Tryz.underlying46 rfl obj_info)) rfl ⟨rfl,hB⟩
set_option maxHeartbeats 4000000 in
theorem alone_any (nt t:Nat) (ht:t<nt) (hnt:nt<=8) (cs:List Nat) (hrw: ∀c∈cs,isRw c) (h40:cs.length<=40) (A:Option Addr) (lcap:Nat) (w:World) (hT:Tab w) (hO:ONam w) (hl:SlE w A cs.length 1 (fun i=>[Value.int .i64 (cs.getD i 0:Nat)])):
 Calls Tryz.prog 51 #[.slice A cs.length lcap,.int .i64 (nt:Int),.int .i64 (t:Int)] w fun e W'=>
  (∃vo,e= .returned vo/\W'.ownsRow w.heap.size 42 1 vo cs.length ((rwO cs cs.length).map (Value.int .u32)))/\Below w.heap.size w W':=by
 obtain ⟨C,hC⟩: ∃C,rwL (t:Int)=C:=⟨_,rfl⟩
 have hgood:CGood C cs:=by rw [<-hC];exact rw_good (by omega) hrw
 have hright:((cAll C cs).all fun i=>rightB i ((cAll C cs).length:Int))=true:=by rw [<-hC];exact cAll_right (rw_good (by omega) hrw) h40 (fun c hc=>rw_right (by omega) (hrw c hc))
 have hcode:=fun c (hc:c∈cs)=>rw_codes nt t ht hnt c (hrw c hc)
 rw [hC]at hcode
 have HS:=Lib.hid (And.intro h40 (And.intro hgood (And.intro hright hcode)))
 have HW:=Lib.hid (And.intro hT (And.intro hO hl))
 have HN:=Lib.hid (And.intro hC hrw)
 have hnt1:(1:Int)<=(nt:Int):=by omega
 have hnt8:(nt:Int)<=8:=by omega
 clear hgood hright hcode hT hO hl hC hrw h40
 obtain ⟨n,hn⟩: ∃n,cs.length=n:=⟨_,rfl⟩
 rw [hn]
 have hn10:n<=40:=by have :=HS.out.1;omega
 go_enter Tryz.func51,Tryz.ntmps51
 go_wp2_with fail
 go_loopw [7,8] (fun v7 v8 wr=> ∃k:Nat,k<=n/\v8= .int .i64 k/\wr.ownsRow w.heap.size 75 5 v7 (cTo C cs k).length ((cTo C cs k).flatMap Ins.cells)/\Below w.heap.size w wr)
  (fun v7 v8 _=>n-(intOf v8).toNat)
 case atStart=>exact ⟨0,Nat.zero_le _,rfl,⟨rfl,.inl ⟨rfl,rfl⟩⟩,Below.refl _ _⟩
 case round=>
  obtain ⟨k,hk,rfl,hr,hB⟩:=hrel
  by_cases hlt:k<n
  ·have hkn:(k:Int)<(n:Int):=by omega
   obtain ⟨call,hcall⟩: ∃call,cs.getD k 0=call:=⟨_,rfl⟩
   have hmem:call∈cs:=by rw [<-hcall];exact cs_in cs k (by omega)
   obtain ⟨lb,lo,rfl,hlb,hcc⟩:=(SlE.step HW.out.2.2 (hB.trans ((below_drewB wr).mono hB.size))) (by omega)
   have c4:=hcc k (by omega) 0 _ rfl
   rw [hcall,Nat.add_zero,Nat.mul_one]at c4
   have HC:=Lib.hid (And.intro hlb c4)
   have HK:=Lib.hid (And.intro hcall hmem)
   have HR:=Lib.hid (And.intro hr hB)
   have HT9:=Lib.hid (And.intro ((HW.out.1.step hB).drew) (And.intro ((HW.out.2.1.step hB).step (below_drewB wr)) (below_drewB wr)))
   have hk0:(0:Int)<=(k:Int):=by omega
   clear hr hB hcall hmem hlb hcc c4
   go_wp2_with fail
   refine startG (fun W'=>Below wr.drew.heap.size wr.drew W') 12 (by kernel_rfl) ?_
   generalize wr.drew=W2 at HC HT9⊢
   have hS0:Below W2.heap.size W2 W2:=Below.refl _ _
   refine takeA (i:=1) (v:= .slice (some ⟨lb,lo,none⟩) n lcap) rfl hS0 ?_
   simp only [Act.put,zA,zB,zC,zD,zE,zF]
   refine takeA (i:=2) (v:= .int .i64 (k:Int)) rfl hS0 ?_
   simp only [Act.put,zA,zB,zC,zD,zE,zF]
   refine takeA (i:=3) (v:= .pointer (some ⟨lb,lo+k,none⟩)) rfl hS0 ?_
   simp only [Act.put,zA,zB,zC,zD,zE,zF]
   refine takeB (i:=4) (v:= .int .i64 (call:Int)) rfl (Or.inl ⟨by rfl,fun W hW=>by have q0:=keepAt hW HC.out.1 HC.out.2;go_simp⟩) hS0 ?_
   simp only [Act.put,zA,zB,zC,zD,zE,zF]
   refine takeA (i:=5) (v:= .int .i64 (nt:Int)) rfl hS0 ?_
   simp only [Act.put,zA,zB,zC,zD,zE,zF]
   refine takeA (i:=6) (v:= .int .i64 (t:Int)) rfl hS0 ?_
   simp only [Act.put,zA,zB,zC,zD,zE,zF]
   refine onlyG (i:=0) (by kernel_rfl) rfl (fun K hK=>?_)
   go_simp
   refine (lock_any W2).mono ?_
   rintro e W2b ⟨rfl,hB2⟩
   refine hK.out _ _ hB2 (fun _=>?_)
   clear hK K hS0
   refine onlyG (i:=7) (by kernel_rfl) rfl (fun K hK=>?_)
   go_simp
   have cC:=HS.out.2.2.2 call HK.out.2 W2b (HT9.out.1.step hB2) (HT9.out.2.1.step hB2)
   refine cC.mono ?_
   rintro e W3 ⟨⟨vc,rfl,hOut⟩,hB3'⟩
   have hB3:=step_below hB2 hB3'
   refine hK.out _ _ hB3 (fun _=>?_)
   clear hK K cC
   refine takeA (i:=8) (v:= .tuple #[vc,.bool true]) rfl hB3 ?_
   simp only [Act.put,zA,zB,zC,zD,zE,zF]
   refine takeA (i:=9) (v:=vc) rfl hB3 ?_
   simp only [Act.put,zA,zB,zC,zD,zE,zF]
   refine takeA (i:=10) (v:= .bool true) rfl hB3 ?_
   simp only [Act.put,zA,zB,zC,zD,zE,zF]
   refine takeA (i:=11) (v:=vc) rfl hB3 ?_
   simp only [Act.put,zA,zB,zC,zD,zE,zF]
   refine lastG (by kernel_rfl) rfl (by kernel_rfl) (fun K hK=>?_)
   go_simp
   refine hK.out _ _ ?_
   clear hK K
   obtain ⟨og,cap,cs2,rfl,hog,hcs2,hcap,hcm,hgo,hins⟩:=hOut
   have hb3:Below wr.heap.size wr W3:=HT9.out.2.2.trans (hB3.mono HT9.out.2.2.size)
   have hT3:Tab W3:=HT9.out.1.step hB3
   have hgood:=HS.out.2.1 call HK.out.2
   simp only [Bool.and_eq_true,decide_eq_true_eq,List.all_eq_true]at hgood
   have hLk:=(cTo_ok HS.out.2.1 k (by omega)).2
   have own3:=own_below HR.out.1 (Nat.le_refl _) hb3
   have hbs3:w.heap.size<=W3.heap.size:=Nat.le_trans HR.out.2.size hb3.size
   obtain ⟨L,hLe⟩: ∃L,cTo C cs k=L:=⟨_,rfl⟩
   rw [hLe]at own3 hLk
   obtain ⟨A3,cap3,e9,_,_⟩:=own_cap HR.out.1
   rw [hLe]at e9
   subst e9
   have hcOk:(⟨some ⟨og,0,none⟩,(C call).length,cap,fun i=>(C call).getD i default⟩:Cd).Ok:=⟨hcap,hcm,fun i hi=>okB_ok (hgood.1 _ (by show (C call).getD i default∈C call;rw [List.getD_eq_getElem?_getD,List.getElem?_eq_getElem hi];exact List.getElem_mem hi))⟩
   have cM:=moved_any ⟨some ⟨og,0,none⟩,(C call).length,cap,fun i=>(C call).getD i default⟩ (L.length:Int) hcOk (show (C call).length<=100000 by omega) (by omega) (by omega) W3 hT3 (sle_ins hog hins)
   unfold Cd.val at cM
   dsimp only at cM
   obtain ⟨D,hD⟩: ∃D,C call=D:=⟨_,rfl⟩
   rw [hD]at cM hgood⊢
   have hC20:=hgood.2
   have HE:=Lib.hid (And.intro hLe (And.intro hD hb3))
   clear hcOk hins hgood hog hcs2 hcap hcm hgo hT3 hB3 hB3' hB2 hLe hD hb3
   have hl4i:(L.length:Int)<=3000:=by omega
   go_wp2_with fail
   refine cM.mono ?_
   rintro e W5 ⟨cs5,rfl,hb5,hsz5,hin5,hB5⟩
   obtain ⟨C2,hC2⟩: ∃C2,D.map (movedI (L.length:Int))=C2:=⟨_,rfl⟩
   have hC2l:C2.length=D.length:=by rw [<-hC2,List.length_map]
   have hin2: ∀i,i<C2.length->InsAt cs5 i (C2.getD i default):=fun i hi=>by
    have h:=hin5 i (by omega)
    have e2:C2.getD i default=movedI (L.length:Int) (D.getD i default):=by
     have hi2:i<D.length:=by omega
     rw [<-hC2]
     simp [List.getD_eq_getElem?_getD,List.getElem?_eq_getElem hi2]
    rw [e2]
    exact h
   have src5:=sl_ins (cap:=0) hb5 hin2
   have own5:=own_below own3 (Nat.le_refl _) hB5
   have hbs5:w.heap.size<=W5.heap.size:=Nat.le_trans hbs3 hB5.size
   have HM:=Lib.hid (And.intro hB5 hC2)
   generalize W3.heap.size=mb at hb5 src5⊢
   clear cM hb5 hsz5 hin5 hin2 hB5 hC2 own3 hbs3
   have hlen6:(L++C2).length=L.length+D.length:=by rw [List.length_append,hC2l]
   have hlen8:(L++C2++[(⟨22,7,0,0,0⟩:Ins)]).length=L.length+D.length+1:=by rw [List.length_append,hlen6];rfl
   go_wp2_with (first|(at_builtin;refine wpList_append_ins rfl (.tmp 31) (.tmp 35) rfl w.heap.size (.slice A3 L.length cap3) L C2 rfl own5 (some ⟨mb,0,none⟩) D.length (by show Value.slice (some ⟨mb,0,none⟩) D.length D.length= .slice (some ⟨mb,0,none⟩) C2.length D.length;rw [hC2l]) src5 (by omega) hbs5 ?_;intro A6 c6 W6 own6 hg6 hb6;have own7:=own_below (own_re own6 hlen6) (Nat.le_refl _) ((Below.refl W6.heap.size W6).alloc (Nat.le_refl _) (.cells #[.int .i64 22,.int .i64 7,.int .i64 0,.int .i64 0,.int .u32 0] 75));have src7:=sl_one W6 ⟨22,7,0,0,0⟩;have hbs7:w.heap.size<=(W6.alloc (.cells #[.int .i64 22,.int .i64 7,.int .i64 0,.int .i64 0,.int .u32 0] 75)).heap.size:=Nat.le_trans (Nat.le_trans hbs5 hg6.size) (by simp))|(at_builtin;refine wpList_append_ins rfl (.tmp 37) (.tmp 39) rfl w.heap.size (.slice A6 (L.length+D.length) c6) (L++C2) [⟨22,7,0,0,0⟩] rfl own7 _ 1 rfl src7 (by simp;omega) hbs7 ?_;intro A8 c8 W8 own8 hg8 hb8;have own9:=own_re own8 hlen8;clear own8 own7 src7 own5 src5))
   go_roundw
   case rel=>
    refine ⟨k+1,by omega,by go_num,?_,?_⟩
    ·have e:cTo C cs (k+1)=L++C2++[⟨22,7,0,0,0⟩]:=by
      rw [cTo_succ C cs k (by omega),HK.out.1,HE.out.1]
      unfold cAdd
      rw [HE.out.2.1,HM.out.2]
     rw [e]
     exact own9
    ·have h3:=HR.out.2.trans (HE.out.2.2.mono HR.out.2.size)
     have h6:=(h3.trans (HM.out.1.mono h3.size)).trans hb6
     have h7:=h6.trans (((Below.refl W6.heap.size W6).alloc (Nat.le_refl _) (.cells #[.int .i64 22,.int .i64 7,.int .i64 0,.int .i64 0,.int .u32 0] 75)).mono h6.size)
     exact h7.trans hb8
   case measure=>simp [intOf];omega
  ·obtain rfl:k=n:=by omega
   have hLok:=cTo_ok HS.out.2.1 k (by omega)
   rw [<-hn,cTo_all]at hLok
   have hr9:=hr
   rw [<-hn,cTo_all]at hr9
   have hright:=HS.out.2.2.1
   obtain ⟨L,hLe⟩: ∃L,cAll C cs=L:=⟨_,rfl⟩
   rw [hLe]at hLok hr9 hright
   obtain ⟨A4,c4,e9,_,_⟩:=own_cap hr9
   subst e9
   have hll:L.length<=4000:=by have :=hLok.2;omega
   obtain ⟨pO,pC,pA⟩:=aPg_ok L 2 (17+nt) (by decide) (by omega) hLok.1 hll hright w.heap.size c4 A4 wr hr9
   have hal4:=(Below.refl wr.heap.size wr).alloc (Nat.le_refl _) (.cells #[.slice A4 L.length c4] 50)
   have hal5:=hal4.alloc hal4.size (.cells (List.replicate (17+nt) (Value.int .u32 0)).toArray 42)
   have hb5:=hB.trans (hal5.mono hB.size)
   have hT5:=HW.out.1.step hb5
   have cN:=tsoNew_ok _ pO 0 0 pC _ hT5 pA
   have HP:=Lib.hid (And.intro pO (And.intro hb5 (And.intro hT5 hLe)))
   have hmk: ∀w:World,(Instr.makeSlice 27 (.int .i64 (17+(nt:Int))) (.int .i64 (17+(nt:Int)))).run Tryz.prog w= .ok (.slice (some ⟨w.heap.size,0,none⟩) (17+nt) (17+nt)) (w.alloc (.cells (List.replicate (17+nt) (Value.int .u32 0)).toArray 42)):=fun w=>by
    rw [show (17:Int)+(nt:Int)=((17+nt:Nat):Int) by omega]
    exact makeW (17+nt) (by omega) w
   clear pA pC hT5 hal4 hal5 hb5 pO hr hr9 hB hLok hright hLe
   unfold Pg.val at cN
   dsimp only [aPg]at cN
   change Calls Tryz.prog 16 #[.agg #[.slice (some ⟨wr.heap.size,0,none⟩) 1 1,.slice (some ⟨wr.heap.size+1,0,none⟩) (17+nt) (17+nt),.int .i64 2]] _ _ at cN
   go_wp2_with fail
   refine cN.mono ?_
   rintro r W6 ⟨B,rfl,hNew,hroom,hI,hB6⟩
   have hNew':NewM (aPg wr.heap.size (wr.heap.size+1) A4 c4 L 2 (17+nt)) B:=hNew
   have HCL:=Lib.hid (show B.codes.length=1 from hNew'.n)
   have hBok:MBok B:=newM_ok hNew' (show 1<=8 by decide) (show 17+nt<=1024 by omega)
   have hOk0:=t0_ok HP.out.1 hNew'
   have hCan0:mCan B 6500 (t0 (aPg wr.heap.size (wr.heap.size+1) A4 c4 L 2 (17+nt))):=t0_can (show 1<=8 by decide) 6500 (by decide)
   have hroom2:B.room<=16:=by rw [hroom];decide
   have hend: ∀j,tRun B (t0 (aPg wr.heap.size (wr.heap.size+1) A4 c4 L 2 (17+nt))) (rwPicks j)=rwRun t nt cs j:=fun j=>by
    rw [aSame hNew' hroom]
    unfold rwRun
    rw [<-HP.out.2.2.2,<-HN.out.1]
   have hT6:=HP.out.2.2.1.step hB6
   have hb6:Below w.heap.size w W6:=HP.out.2.1.trans (hB6.mono (by have :=HP.out.2.1.size;omega))
   obtain ⟨own0,hI0,hI2⟩: ∃own0:Nat->Prop,MInv tsoL B (t0 (aPg wr.heap.size (wr.heap.size+1) A4 c4 L 2 (17+nt))) own0 W6/\ ∀i,own0 i->w.heap.size<=i:=⟨_,hI,fun i hi=>by have h1:=hi.1;have h2:=HP.out.2.1.size;omega⟩
   clear cN hNew hNew' hI hB6 hroom
   generalize t0 (aPg wr.heap.size (wr.heap.size+1) A4 c4 L 2 (17+nt))=s0 at hend hOk0 hCan0 hI0
   have HM:=Lib.hid (And.intro hend (And.intro hBok (And.intro hOk0 (And.intro hCan0 (And.intro hroom2 (And.intro hI0 (And.intro hI2 (And.intro hT6 hb6))))))))
   clear hend hBok hOk0 hCan0 hroom2 hI0 hI2 hT6 hb6 hmk hll
   obtain ⟨m40,hm40⟩: ∃m40,40*k=m40:=⟨_,rfl⟩
   have hmi:(40:Int)*(k:Int)=(m40:Int):=by omega
   have hm16:m40<=1600:=by omega
   have HQ:=Lib.hid hm40
   clear hm40
   go_wp2_with fail
   go_loopw [13] (fun v13 wq=> ∃j:Nat,j<=m40/\v13= .int .i64 j/\Moves (MInv tsoL B) (tRun B s0 (rwPicks j)) own0 W6 wq) (fun v13 _=>m40-(intOf v13).toNat)
   case atStart=>exact ⟨0,Nat.zero_le _,rfl,own0,HM.out.2.2.2.2.2.1,fun i hi=> .inl hi,KeepOut.refl _ _⟩
   case round=>
    obtain ⟨j,hj,rfl,own1,hI1,ho1,hk1⟩:=hrel
    have hTq:=hk1.tab HM.out.2.2.2.2.2.1.lo HM.out.2.2.2.2.2.2.2.1
    have can:=fun (ps:List (Int×Int)) (hp:ps.length<=2140)=>tRun_can HM.out.2.1 HM.out.2.2.2.2.1 ps s0 3 HM.out.2.2.1 (by
     have h:=HM.out.2.2.2.1
     exact ⟨by have :=h.evs;omega,by have :=h.slp;omega,h.who,h.buf,h.t8⟩)
    have HCN:=Lib.hid (can (rwPicks j) (by rw [rwPicks_exact];omega))
    have hok:=tRun_ok HM.out.2.1 (rwPicks j) s0 HM.out.2.2.1
    have hbq:Below w.heap.size w wr:=HM.out.2.2.2.2.2.2.2.2.trans ⟨hk1.os,hk1.tape,hk1.output,hk1.size,fun i hi=>hk1.block i (by have :=HM.out.2.2.2.2.2.2.2.2.size;omega) (fun ho=>by have :=HM.out.2.2.2.2.2.2.1 i ho;omega)⟩
    by_cases hlt:j<m40
    ·have hj4:(j:Int)<(m40:Int):=by omega
     have hj0:(0:Int)<=(j:Int):=by omega
     have cD:=tdone_any B _ own1 _ hI1 (by rw [hok.ok.nt,HCL.out];decide) HCN.out.t8 (by rw [hok.bl,hok.ok.nt])
     obtain ⟨d,hd⟩: ∃d,doneM (tRun B s0 (rwPicks j))=d:=⟨_,rfl⟩
     rw [hd]at cD
     have HD:=Lib.hid hd
     have HI1:=Lib.hid (And.intro hI1 (And.intro ho1 (And.intro hk1 (And.intro hTq hbq))))
     clear hd hI1 ho1 hk1 hTq hbq
     go_wp2_with fail
     refine cD.mono ?_
     rintro e W7 ⟨rfl,hB7⟩
     clear cD
     have hI7:=HI1.out.1.below hB7
     have hb7:Below w.heap.size w W7:=HI1.out.2.2.2.2.trans (hB7.mono HI1.out.2.2.2.2.size)
     cases d
     ·have hM7:Moves (MInv tsoL B) (tRun B s0 (rwPicks j)) own0 W6 W7:=Moves.belowM ⟨own1,HI1.out.1,HI1.out.2.1,HI1.out.2.2.1⟩ hB7
      obtain ⟨own2,hI2,ho2,hk2⟩:=hM7
      have hT7:=hk2.tab HM.out.2.2.2.2.2.1.lo HM.out.2.2.2.2.2.2.2.1
      have cP:=tpick_any B HM.out.2.1 HM.out.2.2.2.2.1 _ hok HCN.out own2 _ hI2 hT7 (0,0)
      have HO:=Lib.hid (And.intro ho2 hk2)
      clear hI2 hT7 ho2 hk2 hI7 hb7 hB7 hok
      go_wp2_with fail
      refine cP.mono ?_
      rintro e W8 ⟨⟨u,rfl⟩,hM2⟩
      clear cP
      have hM3:=Moves.after HO.out.1 HO.out.2 hM2
      rw [<-tRun_snoc]at hM3
      by_cases h3:j % 3=0
      ·have h3i:(j:Int)% 3=0:=by omega
       obtain ⟨own3,hI3,ho3,hk3⟩:=hM3
       have hT8:=hk3.tab HM.out.2.2.2.2.2.1.lo HM.out.2.2.2.2.2.2.2.1
       have cP2:=tpick_any B HM.out.2.1 HM.out.2.2.2.2.1 _ (tRun_ok HM.out.2.1 _ s0 HM.out.2.2.1) (can (rwPicks j++[(0,0)]) (by rw [List.length_append,rwPicks_exact];simp;omega)) own3 _ hI3 hT8 (1,0)
       have HO2:=Lib.hid (And.intro ho3 hk3)
       have H3:=Lib.hid h3
       clear hI3 ho3 hk3 hT8 hM2 can h3
       go_wp2_with fail
       refine cP2.mono ?_
       rintro e W9 ⟨⟨u2,rfl⟩,hM4⟩
       clear cP2
       go_wp2
       go_roundw
       case rel=>
        refine ⟨j+1,by omega,by go_num,?_⟩
        have hM5:=Moves.after HO2.out.1 HO2.out.2 hM4
        rw [<-tRun_snoc,List.append_assoc]at hM5
        rw [rwPicks_succ,if_pos H3.out]
        exact hM5
       case measure=>simp [intOf];omega
      ·have h3i: ¬(j:Int)% 3=0:=by omega
       have H3:=Lib.hid h3
       have HM3:=Lib.hid hM3
       clear hM2 can h3 hM3
       go_wp2
       go_roundw
       case rel=>
        refine ⟨j+1,by omega,by go_num,?_⟩
        rw [rwPicks_succ,if_neg H3.out]
        exact HM3.out
       case measure=>simp [intOf];omega
     ·clear can
      have hevs:(tRun B s0 (rwPicks j)).evs.length<=1000000000:=by have :=(HCN.out).evs;omega
      have hout:outsP (tRun B s0 (rwPicks j)).evs=rwO cs cs.length:=by
       rw [HM.out.1 j]
       exact rw_told ht hnt HN.out.2 HS.out.1 j (.inr (by rw [<-HM.out.1 j];exact HD.out))
      have cE:=tevents_any B _ own1 _ hI7 (by omega)
      have HI:=Lib.hid (And.intro hb7 hout)
      obtain ⟨S,hS⟩: ∃S,tRun B s0 (rwPicks j)=S:=⟨_,rfl⟩
      rw [hS]at cE HI hevs
      clear hS hout
      go_wp2_with fail
      refine cE.mono ?_
      rintro e W8 ⟨ve,rfl,hr8,hB8⟩
      clear cE
      obtain ⟨AE,capE,rfl,_,hslE⟩:=own_sle Evt.cells (fun _=>rfl) ev0 S.evs hr8
      have cO:=outs_any AE S.evs.length capE (fun i=>toEv (S.evs.getD i ev0)) 0 hevs W8 hslE
      rw [oL_evs]at cO
      obtain ⟨m,hm⟩: ∃m,S.evs.length=m:=⟨_,rfl⟩
      rw [hm]at cO hr8 hevs⊢
      clear hr8 hslE
      go_wp2_with fail
      refine cO.mono ?_
      rintro e W9 ⟨vo,rfl,hr9,hB9⟩
      clear cO
      have hr9':W9.ownsRow W8.heap.size 42 1 vo (outsP S.evs).length ((outsP S.evs).map (Value.int .u32)):=hr9
      rw [HI.out.2,rwO_len,hn]at hr9'
      have h8s:w.heap.size<=W8.heap.size:=Nat.le_trans HI.out.1.size hB8.size
      have HF:=Lib.hid (And.intro (own_mono hr9' h8s) ((HI.out.1.trans (hB8.mono HI.out.1.size)).trans (hB9.mono h8s)))
      clear hr9 hr9' hB8 hB9 h8s
      go_wp2
      go_ret
      refine ⟨⟨_,rfl,?_⟩,HF.out.2⟩
      exact HF.out.1
    ·obtain rfl:j=m40:=by omega
     have hj4: ¬(j:Int)<(j:Int):=by omega
     clear can hlt
     have hevs:(tRun B s0 (rwPicks j)).evs.length<=1000000000:=by have :=(HCN.out).evs;omega
     have hout:outsP (tRun B s0 (rwPicks j)).evs=rwO cs cs.length:=by
      rw [HM.out.1 j]
      exact rw_told ht hnt HN.out.2 HS.out.1 j (.inl (by have :=HQ.out;omega))
     have cE:=tevents_any B _ own1 _ hI1 (by omega)
     have HI:=Lib.hid (And.intro hbq hout)
     obtain ⟨S,hS⟩: ∃S,tRun B s0 (rwPicks j)=S:=⟨_,rfl⟩
     rw [hS]at cE HI hevs
     clear hS hout
     go_wp2_with fail
     refine cE.mono ?_
     rintro e W8 ⟨ve,rfl,hr8,hB8⟩
     clear cE
     obtain ⟨AE,capE,rfl,_,hslE⟩:=own_sle Evt.cells (fun _=>rfl) ev0 S.evs hr8
     have cO:=outs_any AE S.evs.length capE (fun i=>toEv (S.evs.getD i ev0)) 0 hevs W8 hslE
     rw [oL_evs]at cO
     obtain ⟨m,hm⟩: ∃m,S.evs.length=m:=⟨_,rfl⟩
     rw [hm]at cO hr8 hevs⊢
     clear hr8 hslE
     go_wp2_with fail
     refine cO.mono ?_
     rintro e W9 ⟨vo,rfl,hr9,hB9⟩
     clear cO
     have hr9':W9.ownsRow W8.heap.size 42 1 vo (outsP S.evs).length ((outsP S.evs).map (Value.int .u32)):=hr9
     rw [HI.out.2,rwO_len,hn]at hr9'
     have h8s:w.heap.size<=W8.heap.size:=Nat.le_trans HI.out.1.size hB8.size
     have HF:=Lib.hid (And.intro (own_mono hr9' h8s) ((HI.out.1.trans (hB8.mono HI.out.1.size)).trans (hB9.mono h8s)))
     clear hr9 hr9' hB8 hB9 h8s
     go_wp2
     go_ret
     refine ⟨⟨_,rfl,?_⟩,HF.out.2⟩
     exact HF.out.1
set_option maxHeartbeats 4000000 in
theorem rwAdd_any (site:Nat) (hs:site<=3) (call:Int) (C:List Ins) (m:Nat) (th t:Int) (hC:C.length=m) (hok: ∀x∈C,x.Ok) (hm:m<=100)
 (hcode: ∀W:World,Tab W->ONam W->Calls Tryz.prog 24 #[.agg #[.int .i64 14,.int .i64 0,.int .i64 0,.int .i64 0],.int .i64 call,.int .i64 th,.int .i64 t,.int .u32 16,.int .u32 0] W fun e W'=>(∃v,e= .returned (.tuple #[v,.bool true])/\OutI W v C W')/\Below W.heap.size W W')
 (W0 W:World) (okb tb kb:Nat) (A:Option Addr) (N c:Nat) (L:List Ins) (h:AXL W0 W okb (.slice A N c) A N c L) (hN:N<=1000) (h3k:3<=okb) (hO0:ONam W0)
 (hth:Blk W0 tb 3 #[.int .i64 th]) (hk:Blk W0 kb 3 #[.int .i64 t]) (d2:tb≠okb) (d3:kb≠okb):
 Calls Tryz.prog 64 #[.int .i64 (site:Int),.int .i64 call,.pointer (some ⟨tb,0,none⟩),.pointer (some ⟨kb,0,none⟩),.pointer (some ⟨okb,0,none⟩),.pointer (some ⟨W0.heap.size,0,none⟩)] W fun e W'=>
  (∃u,e= .returned u)/\ ∃A' M c',M=N+(m+2)/\AXL W0 W' okb (.slice A' M c') A' M c' (L++(⟨27,7,0,0,2*(site:Int)⟩::(C.map (movedI ((N:Int)+1))++[⟨27,7,0,0,2*(site:Int)+1⟩]))):=by
 have HS:=Lib.hid (And.intro hs (And.intro hN hm))
 have hD:=h.drew
 have HQ:=Lib.hid (And.intro (h.old hth d2).drew (And.intro (h.old hk d3).drew (And.intro hD (And.intro (hD.nam h3k hO0) hcode))))
 clear hcode hth hk h hD
 go_enter Tryz.func64,Tryz.ntmps64
 go_upto_region 0 with fail
 refine startG (fun W'=>Below W.drew.heap.size W.drew W') 9 (by kernel_rfl) ?_
 generalize W.drew=W2 at HQ⊢
 have hS0:Below W2.heap.size W2 W2:=Below.refl _ _
 refine takeA (i:=1) (v:= .int .i64 call) rfl hS0 ?_
 simp only [Act.put,zA,zB,zC,zD,zE,zF]
 refine takeB (i:=2) (v:= .int .i64 th) rfl (Or.inl ⟨by rfl,fun W hW=>by have q0:=((HQ.out.1.below hW HQ.out.1.lt).cell 0).trans rfl;go_simp⟩) hS0 ?_
 simp only [Act.put,zA,zB,zC,zD,zE,zF]
 refine takeB (i:=3) (v:= .int .i64 t) rfl (Or.inl ⟨by rfl,fun W hW=>by have q0:=((HQ.out.2.1.below hW HQ.out.2.1.lt).cell 0).trans rfl;go_simp⟩) hS0 ?_
 simp only [Act.put,zA,zB,zC,zD,zE,zF]
 refine onlyG (i:=0) (by kernel_rfl) rfl (fun K hK=>?_)
 go_simp
 refine (lock_any W2).mono ?_
 rintro e Wl ⟨rfl,hBl⟩
 refine hK.out _ _ hBl (fun _=>?_)
 clear hK K hS0
 try simp only [Act.put,zA,zB,zC,zD,zE,zF]
 refine onlyG (i:=4) (by kernel_rfl) rfl (fun K hK=>?_)
 go_simp
 have hcd:=HQ.out.2.2.2.2 Wl (HQ.out.2.2.1.tab.step hBl) (HQ.out.2.2.2.1.step hBl)
 refine hcd.mono ?_
 rintro e W1 ⟨⟨v,rfl,hv⟩,hB1'⟩
 have hB1:=step_below hBl hB1'
 have h1:=HQ.out.2.2.1.step hB1
 have hsl:W2.heap.size<=Wl.heap.size:=hBl.size
 refine hK.out _ _ hB1 (fun _=>?_)
 clear hK K hcd hBl hB1'
 try simp only [Act.put,zA,zB,zC,zD,zE,zF]
 refine takeA (i:=5) (v:= .tuple #[v,.bool true]) rfl hB1 ?_
 simp only [Act.put,zA,zB,zC,zD,zE,zF]
 refine takeA (i:=6) (v:=v) rfl hB1 ?_
 simp only [Act.put,zA,zB,zC,zD,zE,zF]
 refine takeA (i:=7) (v:= .bool true) rfl hB1 ?_
 simp only [Act.put,zA,zB,zC,zD,zE,zF]
 refine takeA (i:=8) (v:=v) rfl hB1 ?_
 simp only [Act.put,zA,zB,zC,zD,zE,zF]
 refine lastG (by kernel_rfl) rfl (by kernel_rfl) (fun K hK=>?_)
 go_simp
 refine hK.out _ _ ?_
 clear hK K hB1
 try simp only [Act.put,zA,zB,zC,zD,zE,zF]
 obtain ⟨og,cap,cs,rfl,hog,_,hcap,hcm,hge,hins⟩:=hv
 have hrow:some og≠(Value.slice A N c).ownBlock:=fun e=>by have :=(own_in HQ.out.2.2.1.own og e.symm).2;omega
 have hoo:og≠okb/\og≠W0.heap.size:=by have h1:=HQ.out.2.2.1.okl.2;have h2:=HQ.out.2.2.1.lt;omega
 have x0:=(h1.okx.cell 0).trans rfl
 have x1:=h1.okx.frozen 0
 have y0:=(h1.setOk.box.cell 0).trans rfl
 have hne: ¬W0.heap.size=okb:=by have :=h1.okl.2;omega
 have hs4:((site:Int)*1)<=3:=by omega
 have hogk:=hog.far (p:=⟨okb,0,none⟩) hoo.1 (.bool true)
 have HG:=Lib.hid (And.intro hrow hoo)
 clear hrow hoo hog hsl hge
 go_wp2_with (at_builtin;refine h1.setOk.app1 ⟨27,7,0,0,2*(site:Int)⟩ (N+1) W1.heap.size rfl (by simp [World.setCell]) rfl (.tmp 22) (.tmp 27) rfl rfl rfl (by omega) ?_;intro A1 c1 W2' h3 hkp;have hog2:=hkp _ _ _ hogk HG.out.1;have y1:=(h3.box.cell 0).trans rfl;have y2:=h3.box.frozen 0;clear hkp hogk x0 x1 y0 h1)
 have h4:=h3.set (.slice A1 (N+1) c1)
 have hog3:=hog2.far (p:=⟨W0.heap.size,0,none⟩) HG.out.2.2 (.slice A1 (N+1) c1)
 clear h3 y1 y2 hog2
 generalize W2'.setCell ⟨W0.heap.size,0,none⟩ (.slice A1 (N+1) c1)=W3 at h4 hog3⊢
 have hlen:C.length<=100:=by omega
 refine startG (fun W'=>Below W3.drew.heap.size W3.drew W') 5 (by kernel_rfl) ?_
 have h5:=h4.drew
 have hog4:=hog3.drew
 clear h4 hog3
 generalize W3.drew=W4 at h5 hog4⊢
 have hH:Below W4.heap.size W4 W4:=Below.refl _ _
 refine takeB (i:=0) (v:= .slice A1 (N+1) c1) rfl (Or.inl ⟨by rfl,fun W hW=>by have q0:=((h5.box.below hW h5.box.lt).cell 0).trans rfl;go_simp⟩) hH ?_
 simp only [Act.put,zA,zB,zC,zD,zE,zF]
 refine takeA (i:=1) (v:= .slice (some ⟨og,0,none⟩) m cap) rfl hH ?_
 simp only [Act.put,zA,zB,zC,zD,zE,zF]
 refine takeT (i:=2) (v:= .slice A1 (N+1) c1) rfl (by kernel_rfl) (by kernel_rfl) (by kernel_rfl) (by kernel_rfl) (fun _ _ _ h=>h) (Or.inl ⟨by rfl,fun W hW=>by have q0:=((h5.box.below hW h5.box.lt).cell 0).trans rfl;go_simp⟩) hH ?_
 simp only [Act.put,zA,zB,zC,zD,zE,zF]
 refine takeA (i:=3) (v:= .int .i64 ((N+1:Nat):Int)) rfl hH ?_
 simp only [Act.put,zA,zB,zC,zD,zE,zF]
 refine onlyG (i:=4) (by kernel_rfl) rfl (fun K hK=>?_)
 have hsle:=sle_ins hog4 hins
 rw [hC]at hsle hcap
 have hCI:CodeIn W4 (.slice (some ⟨og,0,none⟩) m cap) C m:=⟨⟨og,cap,rfl,hog4.lt,hcap,hcm,hsle⟩,hC⟩
 have cM:=hCI.moved hok (by omega) ((N:Int)+1) (by omega) (by omega) h5.tab
 go_simp
 with_reducible refine cM.mono ?_
 rintro e W5 ⟨cs5,rfl,hb5,hin5,hB5⟩
 have h6:=h5.step hB5
 refine hK.out _ _ hB5 (fun _=>?_)
 clear hK K cM hCI hsle hog4 hB5 h5 hH
 obtain ⟨g5,hg5⟩: ∃g5,W4.heap.size=g5:=⟨_,rfl⟩
 rw [hg5]at hb5
 try rw [hg5]
 clear hg5
 try simp only [Act.put,zA,zB,zC,zD,zE,zF]
 refine onlyM (by kernel_rfl) rfl (fun K hK=>?_)
 rw [if_pos (by rfl)]
 refine h6.appO hb5 hin5 (C.map (movedI ((N:Int)+1))) (map_range hC _) (N+1+m) rfl (.tmp 29) (.tmp 33) rfl rfl rfl (by omega) ?_
 intro A7 c7 W7 h7
 clear h6 hb5 hin5
 refine hK.out _ _ ?_
 clear hK K
 try simp only [Act.put,zA,zB,zC,zD,zE,zF]
 refine lastL (i:=6) (by kernel_rfl) (by kernel_rfl) rfl (by kernel_rfl) (fun K hK=>?_)
 have y1:=(h7.box.cell 0).trans rfl
 have y2:=h7.box.frozen 0
 go_simp
 refine hK.out _ _ ?_
 have h8:=h7.set (.slice A7 (N+1+m) c7)
 clear hK K h7 y1 y2
 generalize W7.setCell ⟨W0.heap.size,0,none⟩ (.slice A7 (N+1+m) c7)=W8 at h8⊢
 have z1:=(h8.box.cell 0).trans rfl
 try simp only [Act.put,zA,zB,zC,zD,zE,zF]
 go_wp2_with (at_builtin;refine h8.app1 ⟨27,7,0,0,2*(site:Int)+1⟩ (N+1+m+1) W8.heap.size rfl rfl rfl (.tmp 35) (.tmp 41) rfl rfl rfl (by omega) ?_;intro A9 c9 W9 h9 hkp9;have y1:=(h9.box.cell 0).trans rfl;have y2:=h9.box.frozen 0;clear hkp9 z1 h8)
 have h10:=h9.set (.slice A9 (N+1+m+1) c9)
 clear h9 y1 y2
 go_end0
 refine ⟨⟨_,rfl⟩,A9,N+1+m+1,c9,by omega,?_⟩
 rw [List.append_assoc,List.append_assoc]at h10
 exact h10
end Go.Proofs.YtmhfpjnkjlhbpaaGreatDoor
