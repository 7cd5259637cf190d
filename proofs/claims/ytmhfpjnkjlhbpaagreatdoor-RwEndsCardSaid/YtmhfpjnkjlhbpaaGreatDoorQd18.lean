/- tso.side: its functions as a port's: load, room, empty, store, flush, swap, sleep, wake, note. tso.side: note, flush. -/
import Derived.Test.YtmhfpjnkjlhbpaaGreatDoorQd17
namespace Go.Proofs.YtmhfpjnkjlhbpaaGreatDoor
open Go.ChangeShapes Go.WideShapes Go.ChangeAt Go.RowKit Go.Deep
set_option linter.unusedVariables false
set_option maxRecDepth 100000
set_option linter.unusedSimpArgs false
open List renaming getElem_toArray->zA,getElem_cons_zero->zB,getElem_cons_succ->zC,setIfInBounds_toArray->zD,set_cons_zero->zE,set_cons_succ->zF
theorem side_info:(Tryz.prog.info? 161).map (·.size)=some 2:=by kernel_rfl
theorem buf_infoL {cs:Array Value} {l:List Ent} {room:Int} (h:Buf cs l room):(Tryz.prog.info? 114).map (·.size)=some cs.toList.length:=by
 rw [Array.length_toList];exact h.info
set_option maxHeartbeats 2000000 in
theorem troom_any (B:MB) (s:Mst) (own:Nat->Prop) (W:World) (hI:MInv tsoL B s own W) (t:Nat) (ht:t<s.bufs.length) (bl:List Ent) (hbl:s.bufs.getD t []=bl):
 Calls Tryz.prog 155 #[.agg #[.pointer (some ⟨B.mb,0,none⟩),.int .i64 (t:Int)]] W fun e W'=>e= .returned (.bool (decide ((bl.length:Int)<B.room)))/\Moves (MInv tsoL B) s own W W':=by
 have hIn:=hI
 have hal:=(Below.refl W.heap.size W).alloc (Nat.le_refl _) (.cells #[.pointer (some ⟨B.mb,0,none⟩),.int .i64 (t:Int)] 161)
 have hX:=Blk.new W 161 #[.pointer (some ⟨B.mb,0,none⟩),.int .i64 (t:Int)]
 obtain ⟨sb,hsb⟩: ∃sb,W.heap.size=sb:=⟨_,rfl⟩
 obtain ⟨V,bcs,h⟩:=hI
 have h1:=h.below hal
 obtain ⟨g,cap,cs,e2,hgc,hgm,hbuf,hra,hth,hgn,hog,hput⟩:=h1.bufAt ht
 have c2:(W.alloc (.cells #[.pointer (some ⟨B.mb,0,none⟩),.int .i64 (t:Int)] 161)).cell? ⟨B.mb,2,none⟩=some (.slice (some ⟨g,0,none⟩) s.bufs.length cap):=by rw [<-e2];exact h1.cell (j:=2) (by decide) rfl
 rw [hbl]at hbuf
 have HBL:=Lib.hid hbl
 clear hbl
 have hgl:=(h1.lo g hog).2
 have hbm:=h1.blt
 have ht0:(0:Int)<=(t:Int):=by omega
 have ht1:(t:Int)<(s.bufs.length:Int):=by omega
 clear h
 go_enter Tryz.func155,Tryz.ntmps155
 have hX1:=hX.drew
 rw [hsb]at hX1
 have c2':(W.alloc (.cells #[.pointer (some ⟨B.mb,0,none⟩),.int .i64 (t:Int)] 161)).drew.cell? ⟨B.mb,2,none⟩=some (.slice (some ⟨g,0,none⟩) s.bufs.length cap):=c2
 have hra':(W.alloc (.cells #[.pointer (some ⟨B.mb,0,none⟩),.int .i64 (t:Int)] 161)).drew.rangeAt g (t*35) cs.toList:=hra
 have hal':Below W.heap.size W (W.alloc (.cells #[.pointer (some ⟨B.mb,0,none⟩),.int .i64 (t:Int)] 161)).drew:=hal.drew
 have HF:=Lib.hid (And.intro hX1 (And.intro (c2') (And.intro (hra') (And.intro (hX1.lt) (And.intro (show B.mb<(W.alloc (.cells #[.pointer (some ⟨B.mb,0,none⟩),.int .i64 (t:Int)] 161)).drew.heap.size from hbm) (show g<(W.alloc (.cells #[.pointer (some ⟨B.mb,0,none⟩),.int .i64 (t:Int)] 161)).drew.heap.size from hgl))))))
 have HBF:=Lib.hid hbuf
 have HAL:=Lib.hid hal'
 clear h1 e2 hgc hgm hbuf hra hth hgn hog hput c2 hgl hbm hal hX hX1 c2' hra' hal'
 go_wp2
 try rw [hsb]
 refine startG (fun W'=>Below (W.alloc (.cells #[.pointer (some ⟨B.mb,0,none⟩),.int .i64 (t:Int)] 161)).drew.heap.size (W.alloc (.cells #[.pointer (some ⟨B.mb,0,none⟩),.int .i64 (t:Int)] 161)).drew W') 11 (by kernel_rfl) ?_
 generalize (W.alloc (.cells #[.pointer (some ⟨B.mb,0,none⟩),.int .i64 (t:Int)] 161)).drew=W0 at HF HAL⊢
 have hH:Below W0.heap.size W0 W0:=Below.refl _ _
 refine takeA (i:=0) (v:= .pointer (some ⟨sb,0,none⟩)) rfl hH ?_
 simp only [Act.put,zA,zB,zC,zD,zE,zF]
 refine takeT (i:=1) (v:= .pointer (some ⟨B.mb,0,none⟩)) rfl (by kernel_rfl) (by kernel_rfl) (by kernel_rfl) (by kernel_rfl) (fun _ _ _ h=>h) (Or.inl ⟨by rfl,fun W hW=>by have q0:=(HF.out.1.below hW HF.out.2.2.2.1).cell 0;go_simp⟩) hH ?_
 simp only [Act.put,zA,zB,zC,zD,zE,zF]
 refine takeA (i:=2) (v:= .pointer (some ⟨B.mb,0,none⟩)) rfl hH ?_
 simp only [Act.put,zA,zB,zC,zD,zE,zF]
 refine takeA (i:=3) (v:= .pointer (some ⟨B.mb,2,none⟩)) rfl hH ?_
 simp only [Act.put,zA,zB,zC,zD,zE,zF]
 refine takeT (i:=4) (v:= .slice (some ⟨g,0,none⟩) s.bufs.length cap) rfl (by kernel_rfl) (by kernel_rfl) (by kernel_rfl) (by kernel_rfl) (fun _ _ _ h=>h) (Or.inl ⟨by rfl,fun W hW=>by have q0:=keepAt hW HF.out.2.2.2.2.1 HF.out.2.1;go_simp⟩) hH ?_
 simp only [Act.put,zA,zB,zC,zD,zE,zF]
 refine takeA (i:=5) (v:= .pointer (some ⟨sb,1,none⟩)) rfl hH ?_
 simp only [Act.put,zA,zB,zC,zD,zE,zF]
 refine takeT (i:=6) (v:= .int .i64 (t:Int)) rfl (by kernel_rfl) (by kernel_rfl) (by kernel_rfl) (by kernel_rfl) (fun _ _ _ h=>h) (Or.inl ⟨by rfl,fun W hW=>by have q0:=(HF.out.1.below hW HF.out.2.2.2.1).cell 1;go_simp⟩) hH ?_
 simp only [Act.put,zA,zB,zC,zD,zE,zF]
 refine takeA (i:=7) (v:= .pointer (some ⟨g,t*35,none⟩)) rfl hH ?_
 simp only [Act.put,zA,zB,zC,zD,zE,zF]
 refine takeT (i:=8) (v:= .agg cs.toList.toArray) rfl (by kernel_rfl) (by kernel_rfl) (by kernel_rfl) (by kernel_rfl) (fun _ _ _ h=>h) (yieldsIf_load_mid (by rfl) 114 (.tmp 10) rfl g (t*35) rfl cs.toList _ (fun W hW=>range_below HF.out.2.2.1 HF.out.2.2.2.2.2 hW) Tryz.underlying114 rfl (buf_infoL HBF.out)) hH ?_
 simp only [Act.put,zA,zB,zC,zD,zE,zF]
 refine onlyG (i:=9) (by kernel_rfl) rfl (fun K hK=>?_)
 go_simp
 have hC:=full_any cs bl B.room HBF.out W0
 with_reducible refine hC.mono ?_
 rintro e W2 ⟨rfl,hb2⟩
 have HB2:=Lib.hid (step_belowN HAL.out hb2 HAL.out.size)
 refine hK.out _ _ hb2 (fun _=>?_)
 clear hK K hC
 try simp only [Act.put,zA,zB,zC,zD,zE,zF]
 refine takeA (i:=10) (v:= .bool (!(decide (B.room<=(bl.length:Int))))) rfl hb2 ?_
 simp only [Act.put,zA,zB,zC,zD,zE,zF]
 refine lastG (by kernel_rfl) rfl (by kernel_rfl) (fun K hK=>?_)
 go_simp
 refine hK.out _ _ ?_
 clear hK K hb2
 go_wp2
 go_ret
 exact ⟨by rw [show (!(decide (B.room<=(bl.length:Int))))=decide ((bl.length:Int)<B.room) from by by_cases h:B.room<=(bl.length:Int)<;>simp [h]<;>omega];rfl,hIn.idle HB2.out⟩
set_option maxHeartbeats 2000000 in
theorem tempty_any (B:MB) (s:Mst) (own:Nat->Prop) (W:World) (hI:MInv tsoL B s own W) (t:Nat) (ht:t<s.bufs.length) (bl:List Ent) (hbl:s.bufs.getD t []=bl):
 Calls Tryz.prog 157 #[.agg #[.pointer (some ⟨B.mb,0,none⟩),.int .i64 (t:Int)]] W fun e W'=>e= .returned (.bool (decide (bl.length=0)))/\Moves (MInv tsoL B) s own W W':=by
 have hIn:=hI
 have hal:=(Below.refl W.heap.size W).alloc (Nat.le_refl _) (.cells #[.pointer (some ⟨B.mb,0,none⟩),.int .i64 (t:Int)] 161)
 have hX:=Blk.new W 161 #[.pointer (some ⟨B.mb,0,none⟩),.int .i64 (t:Int)]
 obtain ⟨sb,hsb⟩: ∃sb,W.heap.size=sb:=⟨_,rfl⟩
 obtain ⟨V,bcs,h⟩:=hI
 have h1:=h.below hal
 obtain ⟨g,cap,cs,e2,hgc,hgm,hbuf,hra,hth,hgn,hog,hput⟩:=h1.bufAt ht
 have c2:(W.alloc (.cells #[.pointer (some ⟨B.mb,0,none⟩),.int .i64 (t:Int)] 161)).cell? ⟨B.mb,2,none⟩=some (.slice (some ⟨g,0,none⟩) s.bufs.length cap):=by rw [<-e2];exact h1.cell (j:=2) (by decide) rfl
 rw [hbl]at hbuf
 have HBL:=Lib.hid hbl
 clear hbl
 have hgl:=(h1.lo g hog).2
 have hbm:=h1.blt
 have ht0:(0:Int)<=(t:Int):=by omega
 have ht1:(t:Int)<(s.bufs.length:Int):=by omega
 clear h
 go_enter Tryz.func157,Tryz.ntmps157
 have hX1:=hX.drew
 rw [hsb]at hX1
 have c2':(W.alloc (.cells #[.pointer (some ⟨B.mb,0,none⟩),.int .i64 (t:Int)] 161)).drew.cell? ⟨B.mb,2,none⟩=some (.slice (some ⟨g,0,none⟩) s.bufs.length cap):=c2
 have hra':(W.alloc (.cells #[.pointer (some ⟨B.mb,0,none⟩),.int .i64 (t:Int)] 161)).drew.rangeAt g (t*35) cs.toList:=hra
 have hal':Below W.heap.size W (W.alloc (.cells #[.pointer (some ⟨B.mb,0,none⟩),.int .i64 (t:Int)] 161)).drew:=hal.drew
 have HF:=Lib.hid (And.intro hX1 (And.intro (c2') (And.intro (hra') (And.intro (hX1.lt) (And.intro (show B.mb<(W.alloc (.cells #[.pointer (some ⟨B.mb,0,none⟩),.int .i64 (t:Int)] 161)).drew.heap.size from hbm) (show g<(W.alloc (.cells #[.pointer (some ⟨B.mb,0,none⟩),.int .i64 (t:Int)] 161)).drew.heap.size from hgl))))))
 have HBF:=Lib.hid hbuf
 have HAL:=Lib.hid hal'
 clear h1 e2 hgc hgm hbuf hra hth hgn hog hput c2 hgl hbm hal hX hX1 c2' hra' hal'
 go_wp2
 try rw [hsb]
 refine startG (fun W'=>Below (W.alloc (.cells #[.pointer (some ⟨B.mb,0,none⟩),.int .i64 (t:Int)] 161)).drew.heap.size (W.alloc (.cells #[.pointer (some ⟨B.mb,0,none⟩),.int .i64 (t:Int)] 161)).drew W') 11 (by kernel_rfl) ?_
 generalize (W.alloc (.cells #[.pointer (some ⟨B.mb,0,none⟩),.int .i64 (t:Int)] 161)).drew=W0 at HF HAL⊢
 have hH:Below W0.heap.size W0 W0:=Below.refl _ _
 refine takeA (i:=0) (v:= .pointer (some ⟨sb,0,none⟩)) rfl hH ?_
 simp only [Act.put,zA,zB,zC,zD,zE,zF]
 refine takeT (i:=1) (v:= .pointer (some ⟨B.mb,0,none⟩)) rfl (by kernel_rfl) (by kernel_rfl) (by kernel_rfl) (by kernel_rfl) (fun _ _ _ h=>h) (Or.inl ⟨by rfl,fun W hW=>by have q0:=(HF.out.1.below hW HF.out.2.2.2.1).cell 0;go_simp⟩) hH ?_
 simp only [Act.put,zA,zB,zC,zD,zE,zF]
 refine takeA (i:=2) (v:= .pointer (some ⟨B.mb,0,none⟩)) rfl hH ?_
 simp only [Act.put,zA,zB,zC,zD,zE,zF]
 refine takeA (i:=3) (v:= .pointer (some ⟨B.mb,2,none⟩)) rfl hH ?_
 simp only [Act.put,zA,zB,zC,zD,zE,zF]
 refine takeT (i:=4) (v:= .slice (some ⟨g,0,none⟩) s.bufs.length cap) rfl (by kernel_rfl) (by kernel_rfl) (by kernel_rfl) (by kernel_rfl) (fun _ _ _ h=>h) (Or.inl ⟨by rfl,fun W hW=>by have q0:=keepAt hW HF.out.2.2.2.2.1 HF.out.2.1;go_simp⟩) hH ?_
 simp only [Act.put,zA,zB,zC,zD,zE,zF]
 refine takeA (i:=5) (v:= .pointer (some ⟨sb,1,none⟩)) rfl hH ?_
 simp only [Act.put,zA,zB,zC,zD,zE,zF]
 refine takeT (i:=6) (v:= .int .i64 (t:Int)) rfl (by kernel_rfl) (by kernel_rfl) (by kernel_rfl) (by kernel_rfl) (fun _ _ _ h=>h) (Or.inl ⟨by rfl,fun W hW=>by have q0:=(HF.out.1.below hW HF.out.2.2.2.1).cell 1;go_simp⟩) hH ?_
 simp only [Act.put,zA,zB,zC,zD,zE,zF]
 refine takeA (i:=7) (v:= .pointer (some ⟨g,t*35,none⟩)) rfl hH ?_
 simp only [Act.put,zA,zB,zC,zD,zE,zF]
 refine takeT (i:=8) (v:= .agg cs.toList.toArray) rfl (by kernel_rfl) (by kernel_rfl) (by kernel_rfl) (by kernel_rfl) (fun _ _ _ h=>h) (yieldsIf_load_mid (by rfl) 114 (.tmp 10) rfl g (t*35) rfl cs.toList _ (fun W hW=>range_below HF.out.2.2.1 HF.out.2.2.2.2.2 hW) Tryz.underlying114 rfl (buf_infoL HBF.out)) hH ?_
 simp only [Act.put,zA,zB,zC,zD,zE,zF]
 refine onlyG (i:=9) (by kernel_rfl) rfl (fun K hK=>?_)
 go_simp
 have hC:=len_any cs bl B.room HBF.out W0
 with_reducible refine hC.mono ?_
 rintro e W2 ⟨rfl,hb2⟩
 have HB2:=Lib.hid (step_belowN HAL.out hb2 HAL.out.size)
 refine hK.out _ _ hb2 (fun _=>?_)
 clear hK K hC
 try simp only [Act.put,zA,zB,zC,zD,zE,zF]
 refine takeA (i:=10) (v:= .bool ((bl.length:Int)==0)) rfl hb2 ?_
 simp only [Act.put,zA,zB,zC,zD,zE,zF]
 refine lastG (by kernel_rfl) rfl (by kernel_rfl) (fun K hK=>?_)
 go_simp
 refine hK.out _ _ ?_
 clear hK K hb2
 go_wp2
 go_ret
 exact ⟨by rw [show ((bl.length:Int)==0)=decide (bl.length=0) from by by_cases h:bl.length=0<;>simp [h]];rfl,hIn.idle HB2.out⟩
set_option maxHeartbeats 2000000 in
theorem tload_any (B:MB) (s:Mst) (own:Nat->Prop) (W:World) (hI:MInv tsoL B s own W) (t:Nat) (ht:t<s.bufs.length) (bl:List Ent) (hbl:s.bufs.getD t []=bl) (a:Nat) (ha:a<B.m):
 Calls Tryz.prog 154 #[.agg #[.pointer (some ⟨B.mb,0,none⟩),.int .i64 (t:Int)],.int .i64 (a:Int)] W fun e W'=>e= .returned (.int .u32 (seeM t s a))/\Moves (MInv tsoL B) s own W W':=by
 have hIn:=hI
 have hal:=(Below.refl W.heap.size W).alloc (Nat.le_refl _) (.cells #[.pointer (some ⟨B.mb,0,none⟩),.int .i64 (t:Int)] 161)
 have hX:=Blk.new W 161 #[.pointer (some ⟨B.mb,0,none⟩),.int .i64 (t:Int)]
 obtain ⟨sb,hsb⟩: ∃sb,W.heap.size=sb:=⟨_,rfl⟩
 obtain ⟨V,bcs,h⟩:=hI
 have h1:=h.below hal
 obtain ⟨g,cap,cs,e2,hgc,hgm,hbuf,hra,hth,hgn,hog,hput⟩:=h1.bufAt ht
 have c2:(W.alloc (.cells #[.pointer (some ⟨B.mb,0,none⟩),.int .i64 (t:Int)] 161)).cell? ⟨B.mb,2,none⟩=some (.slice (some ⟨g,0,none⟩) s.bufs.length cap):=by rw [<-e2];exact h1.cell (j:=2) (by decide) rfl
 rw [hbl]at hbuf
 have HBL:=Lib.hid hbl
 clear hbl
 have hgl:=(h1.lo g hog).2
 have hbm:=h1.blt
 have ht0:(0:Int)<=(t:Int):=by omega
 have ht1:(t:Int)<(s.bufs.length:Int):=by omega
 clear h
 go_enter Tryz.func154,Tryz.ntmps154
 have hX1:=hX.drew
 rw [hsb]at hX1
 have c2':(W.alloc (.cells #[.pointer (some ⟨B.mb,0,none⟩),.int .i64 (t:Int)] 161)).drew.cell? ⟨B.mb,2,none⟩=some (.slice (some ⟨g,0,none⟩) s.bufs.length cap):=c2
 have hra':(W.alloc (.cells #[.pointer (some ⟨B.mb,0,none⟩),.int .i64 (t:Int)] 161)).drew.rangeAt g (t*35) cs.toList:=hra
 have hal':Below W.heap.size W (W.alloc (.cells #[.pointer (some ⟨B.mb,0,none⟩),.int .i64 (t:Int)] 161)).drew:=hal.drew
 have HF:=Lib.hid (And.intro hX1 (And.intro (c2') (And.intro (hra') (And.intro (hX1.lt) (And.intro (show B.mb<(W.alloc (.cells #[.pointer (some ⟨B.mb,0,none⟩),.int .i64 (t:Int)] 161)).drew.heap.size from hbm) (show g<(W.alloc (.cells #[.pointer (some ⟨B.mb,0,none⟩),.int .i64 (t:Int)] 161)).drew.heap.size from hgl))))))
 have HBF:=Lib.hid hbuf
 have HAL:=Lib.hid hal'
 clear h1 e2 hgc hgm hbuf hra hth hgn hog hput c2 hgl hbm hal hX hX1 c2' hra' hal'
 go_wp2
 try rw [hsb]
 refine startG (fun W'=>Below (W.alloc (.cells #[.pointer (some ⟨B.mb,0,none⟩),.int .i64 (t:Int)] 161)).drew.heap.size (W.alloc (.cells #[.pointer (some ⟨B.mb,0,none⟩),.int .i64 (t:Int)] 161)).drew W') 15 (by kernel_rfl) ?_
 generalize (W.alloc (.cells #[.pointer (some ⟨B.mb,0,none⟩),.int .i64 (t:Int)] 161)).drew=W0 at HF HAL⊢
 have hH:Below W0.heap.size W0 W0:=Below.refl _ _
 refine takeA (i:=0) (v:= .pointer (some ⟨sb,0,none⟩)) rfl hH ?_
 simp only [Act.put,zA,zB,zC,zD,zE,zF]
 refine takeT (i:=1) (v:= .pointer (some ⟨B.mb,0,none⟩)) rfl (by kernel_rfl) (by kernel_rfl) (by kernel_rfl) (by kernel_rfl) (fun _ _ _ h=>h) (Or.inl ⟨by rfl,fun W hW=>by have q0:=(HF.out.1.below hW HF.out.2.2.2.1).cell 0;go_simp⟩) hH ?_
 simp only [Act.put,zA,zB,zC,zD,zE,zF]
 refine takeA (i:=2) (v:= .pointer (some ⟨B.mb,0,none⟩)) rfl hH ?_
 simp only [Act.put,zA,zB,zC,zD,zE,zF]
 refine takeA (i:=3) (v:= .pointer (some ⟨B.mb,2,none⟩)) rfl hH ?_
 simp only [Act.put,zA,zB,zC,zD,zE,zF]
 refine takeT (i:=4) (v:= .slice (some ⟨g,0,none⟩) s.bufs.length cap) rfl (by kernel_rfl) (by kernel_rfl) (by kernel_rfl) (by kernel_rfl) (fun _ _ _ h=>h) (Or.inl ⟨by rfl,fun W hW=>by have q0:=keepAt hW HF.out.2.2.2.2.1 HF.out.2.1;go_simp⟩) hH ?_
 simp only [Act.put,zA,zB,zC,zD,zE,zF]
 refine takeA (i:=5) (v:= .pointer (some ⟨sb,1,none⟩)) rfl hH ?_
 simp only [Act.put,zA,zB,zC,zD,zE,zF]
 refine takeT (i:=6) (v:= .int .i64 (t:Int)) rfl (by kernel_rfl) (by kernel_rfl) (by kernel_rfl) (by kernel_rfl) (fun _ _ _ h=>h) (Or.inl ⟨by rfl,fun W hW=>by have q0:=(HF.out.1.below hW HF.out.2.2.2.1).cell 1;go_simp⟩) hH ?_
 simp only [Act.put,zA,zB,zC,zD,zE,zF]
 refine takeA (i:=7) (v:= .pointer (some ⟨g,t*35,none⟩)) rfl hH ?_
 simp only [Act.put,zA,zB,zC,zD,zE,zF]
 refine takeT (i:=8) (v:= .agg cs.toList.toArray) rfl (by kernel_rfl) (by kernel_rfl) (by kernel_rfl) (by kernel_rfl) (fun _ _ _ h=>h) (yieldsIf_load_mid (by rfl) 114 (.tmp 15) rfl g (t*35) rfl cs.toList _ (fun W hW=>range_below HF.out.2.2.1 HF.out.2.2.2.2.2 hW) Tryz.underlying114 rfl (buf_infoL HBF.out)) hH ?_
 simp only [Act.put,zA,zB,zC,zD,zE,zF]
 refine takeA (i:=9) (v:= .int .i64 (a:Int)) rfl hH ?_
 simp only [Act.put,zA,zB,zC,zD,zE,zF]
 refine onlyG (i:=10) (by kernel_rfl) rfl (fun K hK=>?_)
 go_simp
 have hC:Calls Tryz.prog 169 #[.agg cs.toList.toArray,.int .i64 (a:Int)] W0 _:=bfind_any cs bl B.room HBF.out (a:Int) (fnB bl (a:Int)).1 (fnB bl (a:Int)).2 (fnB_spec bl (a:Int)) W0
 with_reducible refine hC.mono ?_
 rintro e W2 ⟨rfl,hb2⟩
 have HB2:=Lib.hid (And.intro (step_belowN HAL.out hb2 HAL.out.size) hb2)
 refine hK.out _ _ hb2 (fun _=>?_)
 clear hK K hC
 try simp only [Act.put,zA,zB,zC,zD,zE,zF]
 obtain ⟨fv,hfv⟩: ∃v,(fnB bl (a:Int)).1=v:=⟨_,rfl⟩
 obtain ⟨fb,hfb⟩: ∃v,(fnB bl (a:Int)).2=v:=⟨_,rfl⟩
 rw [hfv,hfb]
 have HFV:=Lib.hid (And.intro hfv hfb)
 clear hfv hfb
 refine takeA (i:=11) (v:= .tuple #[.int .u32 fv,.bool fb]) rfl hb2 ?_
 simp only [Act.put,zA,zB,zC,zD,zE,zF]
 refine takeA (i:=12) (v:= .int .u32 fv) rfl hb2 ?_
 simp only [Act.put,zA,zB,zC,zD,zE,zF]
 refine takeA (i:=13) (v:= .bool fb) rfl hb2 ?_
 simp only [Act.put,zA,zB,zC,zD,zE,zF]
 refine takeA (i:=14) (v:= .int .u32 fv) rfl hb2 ?_
 simp only [Act.put,zA,zB,zC,zD,zE,zF]
 refine lastG (by kernel_rfl) rfl (by kernel_rfl) (fun K hK=>?_)
 go_simp
 refine hK.out _ _ ?_
 clear hK K hb2
 cases fb
 case true=>
  clear hH
  go_wp2
  go_ret
  refine ⟨?_,hIn.idle HB2.out.1⟩
  unfold seeM
  rw [HBL.out,if_pos HFV.out.2,HFV.out.1]
  rfl
 case false=>
  have s0:=(HF.out.1.below HB2.out.2 HF.out.2.2.2.1).cell 0
  have h2:=hIn.below HB2.out.1
  obtain ⟨V2,bcs2,h2⟩:=h2
  obtain ⟨g3,cap3,e3,hgc3,hgm3,q3,f3,_,_,_⟩:=h2.memAt ha
  have c3:W2.cell? ⟨B.mb,3,none⟩=some (.slice (some ⟨g3,0,none⟩) B.m cap3):=by rw [<-e3];exact h2.cell (j:=3) (by decide) rfl
  have ha0:(0:Int)<=(a:Int):=by omega
  have ha1:(a:Int)<(B.m:Int):=by omega
  simp only [List.getElem?_toArray,List.getElem?_cons_zero,List.getElem?_cons_succ]at s0
  obtain ⟨mz,hmz⟩: ∃z,s.mem.getD a 0=z:=⟨_,rfl⟩
  rw [hmz]at q3
  have HMZ:=Lib.hid hmz
  clear h2 e3 hgc3 hgm3 hH hmz
  go_wp2
  go_ret
  refine ⟨?_,hIn.idle HB2.out.1⟩
  unfold seeM
  rw [HBL.out,if_neg (by rw [HFV.out.2];decide),HMZ.out]
  rfl
set_option maxHeartbeats 2000000 in
theorem tstore_any (B:MB) (s:Mst) (own:Nat->Prop) (W:World) (hI:MInv tsoL B s own W) (t:Nat) (ht:t<s.bufs.length) (bl:List Ent) (hbl:s.bufs.getD t []=bl) (a:Nat) (ha:a<B.m) (v:Int) (hr:(bl.length:Int)<B.room) (hl16:bl.length<16):
 Calls Tryz.prog 156 #[.agg #[.pointer (some ⟨B.mb,0,none⟩),.int .i64 (t:Int)],.int .i64 (a:Int),.int .u32 v] W fun e W'=>(∃u,e= .returned u)/\Moves (MInv tsoL B) ((tOps B t).store s a v) own W W':=by
 have hIn:=hI
 have hal:=(Below.refl W.heap.size W).alloc (Nat.le_refl _) (.cells #[.pointer (some ⟨B.mb,0,none⟩),.int .i64 (t:Int)] 161)
 have hX:=Blk.new W 161 #[.pointer (some ⟨B.mb,0,none⟩),.int .i64 (t:Int)]
 obtain ⟨sb,hsb⟩: ∃sb,W.heap.size=sb:=⟨_,rfl⟩
 obtain ⟨V,bcs,h⟩:=hI
 have h1:=h.below hal
 obtain ⟨g,cap,cs,e2,hgc,hgm,hbuf,hra,hth,hgn,hog,hput⟩:=h1.bufAt ht
 have c2:(W.alloc (.cells #[.pointer (some ⟨B.mb,0,none⟩),.int .i64 (t:Int)] 161)).cell? ⟨B.mb,2,none⟩=some (.slice (some ⟨g,0,none⟩) s.bufs.length cap):=by rw [<-e2];exact h1.cell (j:=2) (by decide) rfl
 rw [hbl]at hbuf
 have HBL:=Lib.hid hbl
 clear hbl
 have hgl:=(h1.lo g hog).2
 have hbm:=h1.blt
 have ht0:(0:Int)<=(t:Int):=by omega
 have ht1:(t:Int)<(s.bufs.length:Int):=by omega
 clear h
 go_enter Tryz.func156,Tryz.ntmps156
 have hX1:=hX.drew
 rw [hsb]at hX1
 have c2':(W.alloc (.cells #[.pointer (some ⟨B.mb,0,none⟩),.int .i64 (t:Int)] 161)).drew.cell? ⟨B.mb,2,none⟩=some (.slice (some ⟨g,0,none⟩) s.bufs.length cap):=c2
 have hra':(W.alloc (.cells #[.pointer (some ⟨B.mb,0,none⟩),.int .i64 (t:Int)] 161)).drew.rangeAt g (t*35) cs.toList:=hra
 have hal':Below W.heap.size W (W.alloc (.cells #[.pointer (some ⟨B.mb,0,none⟩),.int .i64 (t:Int)] 161)).drew:=hal.drew
 have HF:=Lib.hid (And.intro hX1 (And.intro (c2') (And.intro (hra') (And.intro (hX1.lt) (And.intro (show B.mb<(W.alloc (.cells #[.pointer (some ⟨B.mb,0,none⟩),.int .i64 (t:Int)] 161)).drew.heap.size from hbm) (show g<(W.alloc (.cells #[.pointer (some ⟨B.mb,0,none⟩),.int .i64 (t:Int)] 161)).drew.heap.size from hgl))))))
 have HBF:=Lib.hid hbuf
 have HAL:=Lib.hid hal'
 clear h1 e2 hgc hgm hbuf hra hth hgn hog hput c2 hgl hbm hal hX hX1 c2' hra' hal'
 go_wp2
 try rw [hsb]
 refine startG (fun W'=>Below (W.alloc (.cells #[.pointer (some ⟨B.mb,0,none⟩),.int .i64 (t:Int)] 161)).drew.heap.size (W.alloc (.cells #[.pointer (some ⟨B.mb,0,none⟩),.int .i64 (t:Int)] 161)).drew W') 24 (by kernel_rfl) ?_
 generalize (W.alloc (.cells #[.pointer (some ⟨B.mb,0,none⟩),.int .i64 (t:Int)] 161)).drew=W0 at HF HAL⊢
 have hH:Below W0.heap.size W0 W0:=Below.refl _ _
 refine takeA (i:=0) (v:= .pointer (some ⟨sb,0,none⟩)) rfl hH ?_
 simp only [Act.put,zA,zB,zC,zD,zE,zF]
 refine takeT (i:=1) (v:= .pointer (some ⟨B.mb,0,none⟩)) rfl (by kernel_rfl) (by kernel_rfl) (by kernel_rfl) (by kernel_rfl) (fun _ _ _ h=>h) (Or.inl ⟨by rfl,fun W hW=>by have q0:=(HF.out.1.below hW HF.out.2.2.2.1).cell 0;go_simp⟩) hH ?_
 simp only [Act.put,zA,zB,zC,zD,zE,zF]
 refine takeA (i:=2) (v:= .pointer (some ⟨B.mb,0,none⟩)) rfl hH ?_
 simp only [Act.put,zA,zB,zC,zD,zE,zF]
 refine takeA (i:=3) (v:= .pointer (some ⟨B.mb,2,none⟩)) rfl hH ?_
 simp only [Act.put,zA,zB,zC,zD,zE,zF]
 refine takeT (i:=4) (v:= .slice (some ⟨g,0,none⟩) s.bufs.length cap) rfl (by kernel_rfl) (by kernel_rfl) (by kernel_rfl) (by kernel_rfl) (fun _ _ _ h=>h) (Or.inl ⟨by rfl,fun W hW=>by have q0:=keepAt hW HF.out.2.2.2.2.1 HF.out.2.1;go_simp⟩) hH ?_
 simp only [Act.put,zA,zB,zC,zD,zE,zF]
 refine takeA (i:=5) (v:= .pointer (some ⟨sb,1,none⟩)) rfl hH ?_
 simp only [Act.put,zA,zB,zC,zD,zE,zF]
 refine takeT (i:=6) (v:= .int .i64 (t:Int)) rfl (by kernel_rfl) (by kernel_rfl) (by kernel_rfl) (by kernel_rfl) (fun _ _ _ h=>h) (Or.inl ⟨by rfl,fun W hW=>by have q0:=(HF.out.1.below hW HF.out.2.2.2.1).cell 1;go_simp⟩) hH ?_
 simp only [Act.put,zA,zB,zC,zD,zE,zF]
 refine takeA (i:=7) (v:= .pointer (some ⟨sb,0,none⟩)) rfl hH ?_
 simp only [Act.put,zA,zB,zC,zD,zE,zF]
 refine takeT (i:=8) (v:= .pointer (some ⟨B.mb,0,none⟩)) rfl (by kernel_rfl) (by kernel_rfl) (by kernel_rfl) (by kernel_rfl) (fun _ _ _ h=>h) (Or.inl ⟨by rfl,fun W hW=>by have q0:=(HF.out.1.below hW HF.out.2.2.2.1).cell 0;go_simp⟩) hH ?_
 simp only [Act.put,zA,zB,zC,zD,zE,zF]
 refine takeA (i:=9) (v:= .pointer (some ⟨B.mb,0,none⟩)) rfl hH ?_
 simp only [Act.put,zA,zB,zC,zD,zE,zF]
 refine takeA (i:=10) (v:= .pointer (some ⟨B.mb,2,none⟩)) rfl hH ?_
 simp only [Act.put,zA,zB,zC,zD,zE,zF]
 refine takeT (i:=11) (v:= .slice (some ⟨g,0,none⟩) s.bufs.length cap) rfl (by kernel_rfl) (by kernel_rfl) (by kernel_rfl) (by kernel_rfl) (fun _ _ _ h=>h) (Or.inl ⟨by rfl,fun W hW=>by have q0:=keepAt hW HF.out.2.2.2.2.1 HF.out.2.1;go_simp⟩) hH ?_
 simp only [Act.put,zA,zB,zC,zD,zE,zF]
 refine takeA (i:=12) (v:= .pointer (some ⟨sb,1,none⟩)) rfl hH ?_
 simp only [Act.put,zA,zB,zC,zD,zE,zF]
 refine takeT (i:=13) (v:= .int .i64 (t:Int)) rfl (by kernel_rfl) (by kernel_rfl) (by kernel_rfl) (by kernel_rfl) (fun _ _ _ h=>h) (Or.inl ⟨by rfl,fun W hW=>by have q0:=(HF.out.1.below hW HF.out.2.2.2.1).cell 1;go_simp⟩) hH ?_
 simp only [Act.put,zA,zB,zC,zD,zE,zF]
 refine takeA (i:=14) (v:= .pointer (some ⟨g,t*35,none⟩)) rfl hH ?_
 simp only [Act.put,zA,zB,zC,zD,zE,zF]
 refine takeT (i:=15) (v:= .agg cs.toList.toArray) rfl (by kernel_rfl) (by kernel_rfl) (by kernel_rfl) (by kernel_rfl) (fun _ _ _ h=>h) (yieldsIf_load_mid (by rfl) 114 (.tmp 21) rfl g (t*35) rfl cs.toList _ (fun W hW=>range_below HF.out.2.2.1 HF.out.2.2.2.2.2 hW) Tryz.underlying114 rfl (buf_infoL HBF.out)) hH ?_
 simp only [Act.put,zA,zB,zC,zD,zE,zF]
 refine takeA (i:=16) (v:= .int .i64 (a:Int)) rfl hH ?_
 simp only [Act.put,zA,zB,zC,zD,zE,zF]
 refine takeA (i:=17) (v:= .int .u32 v) rfl hH ?_
 simp only [Act.put,zA,zB,zC,zD,zE,zF]
 refine takeA (i:=18) (v:= .agg #[.int .i64 (a:Int),.int .u32 v]) rfl hH ?_
 simp only [Act.put,zA,zB,zC,zD,zE,zF]
 refine onlyG (i:=19) (by kernel_rfl) rfl (fun K hK=>?_)
 go_simp
 have hC:Calls Tryz.prog 171 #[.agg cs.toList.toArray,.agg #[.int .i64 (a:Int),.int .u32 v]] W0 _:=put_yes cs bl B.room HBF.out ((a:Int),v) hr hl16 W0
 with_reducible refine hC.mono ?_
 rintro e W2 ⟨cs2,hcs2,rfl,hb2⟩
 have HB2:=Lib.hid (And.intro (step_belowN HAL.out hb2 HAL.out.size) (And.intro hb2 hcs2))
 refine hK.out _ _ hb2 (fun _=>?_)
 clear hK K hC
 try simp only [Act.put,zA,zB,zC,zD,zE,zF]
 refine takeA (i:=20) (v:= .tuple #[.agg cs2,.bool true]) rfl hb2 ?_
 simp only [Act.put,zA,zB,zC,zD,zE,zF]
 refine takeA (i:=21) (v:= .agg cs2) rfl hb2 ?_
 simp only [Act.put,zA,zB,zC,zD,zE,zF]
 refine takeA (i:=22) (v:= .bool true) rfl hb2 ?_
 simp only [Act.put,zA,zB,zC,zD,zE,zF]
 refine takeA (i:=23) (v:= .pointer (some ⟨g,t*35,none⟩)) rfl hb2 ?_
 simp only [Act.put,zA,zB,zC,zD,zE,zF]
 refine lastG (by kernel_rfl) rfl (by kernel_rfl) (fun K hK=>?_)
 have hM2:=hIn.below HB2.out.1
 obtain ⟨V2,bcs2,h2⟩:=hM2
 obtain ⟨g2,cap2,_,e2,_,_,_,_,hth2,_,_,hput2⟩:=h2.bufAt ht
 have c2:W2.cell? ⟨B.mb,2,none⟩=some (.slice (some ⟨g2,0,none⟩) s.bufs.length cap2):=by rw [<-e2];exact h2.cell (j:=2) (by decide) rfl
 have e:=Option.some.inj ((keepAt hb2 HF.out.2.2.2.2.1 HF.out.2.1).symm.trans c2)
 injection e with e _ _
 injection e with e
 injection e with e _ _
 subst e
 have hP:=hput2 cs2 _ HB2.out.2.2
 refine step_store_mid rfl 114 (.tmp 29) (.tmp 27) rfl g (t*35) cs2 rfl rfl (by rw [HB2.out.2.2.size];exact hth2) HB2.out.2.2.info HB2.out.2.2.all ?_
 have HP:=Lib.hid (hP.pre HB2.out.1)
 clear h2 e2 c2 hth2 hput2 hP hb2
 refine hK.out _ _ ?_
 clear hK K
 go_wp2
 go_end0
 refine ⟨⟨_,rfl⟩,?_⟩
 rw [show (tOps B t).store s a v={s with bufs:=s.bufs.set t (bl++[((a:Int),v)])} from by show (if a<B.m then _ else s)=_;rw [if_pos ha,HBL.out]]
 exact HP.out
set_option maxHeartbeats 2000000 in
theorem tswap_any (B:MB) (s:Mst) (own:Nat->Prop) (W:World) (hI:MInv tsoL B s own W) (t a:Nat) (ha:a<B.m) (v:Int):
 Calls Tryz.prog 158 #[.agg #[.pointer (some ⟨B.mb,0,none⟩),.int .i64 (t:Int)],.int .i64 (a:Int),.int .u32 v] W fun e W'=>(∃u,e= .returned u)/\Moves (MInv tsoL B) {s with mem:=s.mem.set a v} own W W':=by
 have hal:=(Below.refl W.heap.size W).alloc (Nat.le_refl _) (.cells #[.pointer (some ⟨B.mb,0,none⟩),.int .i64 (t:Int)] 161)
 obtain ⟨V,bcs,h⟩:=hI
 have hbl:=h.blt
 have h1:=h.below hal
 obtain ⟨g,cap,e3,hc,hcm,q,f,hne,hog,hput⟩:=h1.memAt ha
 have c3:(W.alloc (.cells #[.pointer (some ⟨B.mb,0,none⟩),.int .i64 (t:Int)] 161)).cell? ⟨B.mb,3,none⟩=some (.slice (some ⟨g,0,none⟩) B.m cap):=by rw [<-e3];exact h1.cell (j:=3) (by decide) rfl
 have ha0:(0:Int)<=(a:Int):=by omega
 have ha1:(a:Int)<(B.m:Int):=by omega
 have HP:=Lib.hid ((hput v).pre hal)
 have hgl:g≠W.heap.size:=by
  have h5:=h.vb 3 (by decide) g (by rw [e3];rfl)
  have h6:=(h.lo g h5).2
  omega
 have hmb:B.mb≠W.heap.size:=by omega
 clear h h1 e3 hc hcm hput hal hog
 go_enter Tryz.func158,Tryz.ntmps158
 go_wp2
 go_ret
 exact ⟨⟨_,rfl⟩,HP.out⟩
set_option maxHeartbeats 1000000 in
theorem tsleep_any (B:MB) (s:Mst) (own:Nat->Prop) (W:World) (hI:MInv tsoL B s own W) (hm:s.slp.length<=10000) (t a:Nat):
 Calls Tryz.prog 159 #[.agg #[.pointer (some ⟨B.mb,0,none⟩),.int .i64 (t:Int)],.int .i64 (a:Int)] W fun e W'=>(∃u,e= .returned u)/\Moves (MInv tsoL B) (sleepM (t:Int) s a) own W W':=by
 have hal:=(Below.refl W.heap.size W).alloc (Nat.le_refl _) (.cells #[.pointer (some ⟨B.mb,0,none⟩),.int .i64 (t:Int)] 161)
 have hX:=Blk.new W 161 #[.pointer (some ⟨B.mb,0,none⟩),.int .i64 (t:Int)]
 obtain ⟨sb,hsb⟩: ∃sb,W.heap.size=sb:=⟨_,rfl⟩
 rw [hsb]at hX
 obtain ⟨V,bcs,h⟩:=hI
 have HK0:=Lib.hid (h.below hal)
 have HAL:=Lib.hid hal
 clear h hal
 go_enter Tryz.func159,Tryz.ntmps159
 go_wp2
 try rw [hsb]
 clear hsb
 generalize (W.alloc (.cells #[.pointer (some ⟨B.mb,0,none⟩),.int .i64 (t:Int)] 161))=W1 at hX HK0 HAL⊢
 have s0:W1.cell? ⟨sb,0,none⟩=some (.pointer (some ⟨B.mb,0,none⟩)):=hX.cell 0
 have s1:W1.cell? ⟨sb,1,none⟩=some (.int .i64 (t:Int)):=hX.cell 1
 have HK:=Lib.hid ((HK0.out.below (below_drew W1)).sleeps rfl hm (t:Int) a)
 clear hX HK0 hm
 go_still_tail 7,(by kernel_rfl)
 change wpList _ _ _ _ _ W1.drew
 have hK:Calls Tryz.prog 172 #[.pointer (some ⟨B.mb,4,none⟩),.int .i64 (t:Int),.int .i64 (a:Int)] W1.drew _:=HK.out
 go_wp2_with fail
 with_reducible refine hK.mono ?_
 rintro e W2 ⟨⟨u,rfl⟩,hm⟩
 have HM:=Lib.hid hm
 clear hK hm HK s0 s1
 go_wp2
 go_end0
 exact ⟨⟨_,rfl⟩,(HM.out.pre (below_drew W1)).pre HAL.out⟩
set_option maxHeartbeats 2000000 in
theorem twake_any (B:MB) (s:Mst) (own:Nat->Prop) (W:World) (hI:MInv tsoL B s own W) (hm:s.slp.length<=10000) (hwho: ∀x∈s.slp,0<=x.1/\x.1<(s.ths.length:Int)) (t a n:Nat) (hn:n<=4294967295):
 Calls Tryz.prog 160 #[.agg #[.pointer (some ⟨B.mb,0,none⟩),.int .i64 (t:Int)],.int .i64 (a:Int),.int .u32 (n:Int)] W fun e W'=>e= .returned (.int .u32 (wakeM s a (n:Int)).1)/\Moves (MInv tsoL B) (wakeM s a (n:Int)).2 own W W':=by
 have hX0:=(MovesX.start hI).alloc 161 #[.pointer (some ⟨B.mb,0,none⟩),.int .i64 (t:Int)]
 obtain ⟨sb,hsb⟩: ∃sb,W.heap.size=sb:=⟨_,rfl⟩
 rw [hsb]at hX0
 have hsub:=(wk_sub (a:Int) n s.slp).2
 have hwl:=wk_len (a:Int) n s.slp
 have hW:Calls Tryz.prog 173 #[.pointer (some ⟨B.mb,4,none⟩),.int .i64 (a:Int),.int .u32 (n:Int)] (W.alloc (.cells #[.pointer (some ⟨B.mb,0,none⟩),.int .i64 (t:Int)] 161)) fun e W'=>(∃ov,e= .returned ov/\W'.ownsRow (W.alloc (.cells #[.pointer (some ⟨B.mb,0,none⟩),.int .i64 (t:Int)] 161)).heap.size 3 1 ov (wk (a:Int) n s.slp).2.length ((wk (a:Int) n s.slp).2.map (Value.int .i64)))/\MovesX tsoL B {s with slp:=(wk (a:Int) n s.slp).1} own W W' [⟨sb,161,#[.pointer (some ⟨B.mb,0,none⟩),.int .i64 (t:Int)]⟩]:=
  hX0.callR (R:=fun e W'=> ∃ov,e= .returned ov/\W'.ownsRow (W.alloc (.cells #[.pointer (some ⟨B.mb,0,none⟩),.int .i64 (t:Int)] 161)).heap.size 3 1 ov (wk (a:Int) n s.slp).2.length ((wk (a:Int) n s.slp).2.map (Value.int .i64))) (fun own1 h1=>by
   obtain ⟨V,bcs,h⟩:=h1
   exact (h.wakes rfl hm a n hn).mono fun e W' ⟨ov,e1,e2,e3⟩=>⟨⟨ov,e1,e2⟩,e3⟩)
 unfold wakeM
 rw [Int.toNat_natCast]
 obtain ⟨l,hl⟩: ∃l,(wk (a:Int) n s.slp).2=l:=⟨_,rfl⟩
 obtain ⟨r,hr⟩: ∃r,(wk (a:Int) n s.slp).1=r:=⟨_,rfl⟩
 rw [hl,hr]at hW hwl
 rw [hl]at hsub
 rw [hl,hr]
 have hin: ∀k,k<l.length->0<=l.getD k 0/\l.getD k 0<(s.ths.length:Int):=fun k hk=>by
  obtain ⟨x,h1,h2⟩:=hsub (l.getD k 0) (getD_mem hk)
  rw [<-h2];exact hwho x h1
 have hlen:l.length<=10000:=by omega
 have HIN:=Lib.hid hin
 have s0:(W.alloc (.cells #[.pointer (some ⟨B.mb,0,none⟩),.int .i64 (t:Int)] 161)).cell? ⟨sb,0,none⟩=some (.pointer (some ⟨B.mb,0,none⟩)):=hX0.blk.cell 0
 clear hl hr hsub hwl hm hwho hin hX0
 go_enter Tryz.func160,Tryz.ntmps160
 go_wp2_with fail
 try rw [hsb]
 clear hsb
 generalize (W.alloc (.cells #[.pointer (some ⟨B.mb,0,none⟩),.int .i64 (t:Int)] 161))=Wa at hW s0⊢
 with_reducible refine hW.mono ?_
 rintro e W1 ⟨⟨ov,rfl,hrow⟩,hM⟩
 obtain ⟨oA,oc,rfl,hoc,hsl⟩:=own_sl hrow
 obtain ⟨m,hml⟩: ∃m,l.length=m:=⟨_,rfl⟩
 have HML:=Lib.hid hml
 have HM:=Lib.hid hM
 rw [hml]at hrow hlen⊢
 clear hW hM hsl hoc hml s0
 have HR:=Lib.hid hrow
 clear hrow
 go_wp2_with fail
 go_loopw [19] (fun i wr=> ∃k:Nat,k<=m/\i= .int .i64 (k:Int)/\MovesX tsoL B {s with slp:=r,ths:=runT s.ths (l.take k)} own W wr [⟨sb,161,#[.pointer (some ⟨B.mb,0,none⟩),.int .i64 (t:Int)]⟩]/\wr.ownsRow Wa.heap.size 3 1 (.slice oA m oc) m (l.map (Value.int .i64))) (fun i _=>m-(intOf i).toNat)
 case atStart=>exact ⟨0,Nat.zero_le _,rfl,HM.out,HR.out⟩
 case round=>
  obtain ⟨k,hk,rfl,hM,hrow⟩:=hrel
  by_cases hkm:k<m
  ·obtain ⟨own1,V1,bcs1,h1⟩:=hM.parts
   obtain ⟨w,hw⟩: ∃w:Nat,l.getD k 0=(w:Int):=⟨(l.getD k 0).toNat,by have :=HIN.out k (by rw [HML.out];exact hkm);omega⟩
   have hwt:w<(runT s.ths (l.take k)).length:=by rw [runT_len];have :=HIN.out k (by rw [HML.out];exact hkm);omega
   obtain ⟨g,cap,e1,hc,hcm,hra,hth,hne,hog,⟨cur,hB⟩,_,_⟩:=h1.thAt hwt
   have c1:wr.cell? ⟨B.mb,1,none⟩=some (.slice (some ⟨g,0,none⟩) (runT s.ths (l.take k)).length cap):=by rw [<-e1];exact h1.cell (j:=1) (by decide) rfl
   have s0:wr.cell? ⟨sb,0,none⟩=some (.pointer (some ⟨B.mb,0,none⟩)):=hM.blk.cell 0
   have q9:=hra 9 _ rfl
   have f9:=(hth 9 (by decide)).2
   obtain ⟨A2,c2,e2,_,hs2⟩:=own_sl hrow
   injection e2 with e2 _ e3
   subst e2 e3
   obtain ⟨b,off,rfl,_,hcc⟩:=hs2 (by omega)
   have x0:=hcc k (by omega)
   dsimp only at x0
   rw [show (l.map (Value.int .i64)).getD k undef= .int .i64 (w:Int) by rw [<-hw];simp [List.getD_eq_getElem?_getD,List.getElem?_eq_getElem (show k<l.length by rw [HML.out];exact hkm)]]at x0
   have hw0:(0:Int)<=(w:Int):=by omega
   have hw1:(w:Int)<((runT s.ths (l.take k)).length:Int):=by omega
   have hk0:(0:Int)<=(k:Int):=by omega
   have hk2:(k:Int)<(m:Int):=by omega
   have hs:=runT_take s.ths l k (by rw [HML.out];exact hkm)
   rw [hw,Int.toNat_natCast]at hs
   have hMP:MovesX tsoL B {s with slp:=r,ths:=(runT s.ths (l.take k)).set w {(runT s.ths (l.take k)).getD w tha with st:=0}} own W (wr.setCell ⟨g,w*10+9,none⟩ (.int .i64 0)) [⟨sb,161,#[.pointer (some ⟨B.mb,0,none⟩),.int .i64 (t:Int)]⟩]:=hM.bind (fun own2 h2=>by
    obtain ⟨V2,bcs2,h2⟩:=h2
    obtain ⟨g',cap',e',_,_,_,_,_,_,_,_,hput'⟩:=h2.thAt hwt
    have c1':wr.cell? ⟨B.mb,1,none⟩=some (.slice (some ⟨g',0,none⟩) (runT s.ths (l.take k)).length cap'):=by rw [<-e'];exact h2.cell (j:=1) (by decide) rfl
    have e:=Option.some.inj (c1.symm.trans c1')
    injection e with e _ _
    injection e with e
    injection e with e _ _
    subst e
    exact hput' 0)
   have HF:=Lib.hid (And.intro hMP (And.intro (row_grown hrow (set_only (j:=w*10+9) (.int .i64 0)) (row_ne hB hrow (by decide))) hs))
   generalize (runT s.ths (l.take k)).length=nt at*
   clear h1 hM hMP hra hth hne hog hB hrow hcc hs e1 hwt hw hs2
   go_wp2
   go_roundw
   case rel=>
    refine ⟨k+1,by omega,by go_num,?_,HF.out.2.1⟩
    rw [HF.out.2.2]
    exact HF.out.1
   case measure=>simp [intOf];omega
  ·obtain rfl:m=k:=by omega
   have hk2: ¬(m:Int)<(m:Int):=by omega
   have HF:=Lib.hid hM.moves
   clear hM hrow
   go_wp2
   go_ret
   refine ⟨by rw [HML.out];rfl,?_⟩
   have :=HF.out
   rwa [List.take_of_length_le (by rw [HML.out];exact Nat.le_refl _)]at this
set_option maxHeartbeats 2000000 in
theorem tnote_any (B:MB) (s:Mst) (own:Nat->Prop) (W:World) (hI:MInv tsoL B s own W) (hx:s.evs.length+1<=1000000000) (t:Nat) (x:Evt):
 Calls Tryz.prog 77 #[.agg #[.pointer (some ⟨B.mb,0,none⟩),.int .i64 (t:Int)],.agg #[.int .i64 x.kind,.int .i64 x.who,.int .i64 x.pc,.int .i64 x.addr,.int .u32 x.value,.int .u32 x.old,.int .u32 x.k,.bool x.ok]] W fun e W'=>(∃u,e= .returned u)/\Moves (MInv tsoL B) (noteM (t:Int) s x) own W W':=by
 obtain ⟨V,bcs,h⟩:=hI
 obtain ⟨i0,hi,hy0,hy1,hy2⟩:=info_parts evt_info3
 have hz1:(W.alloc (.cells #[.pointer (some ⟨B.mb,0,none⟩),.int .i64 (t:Int)] 161)).heap.size=W.heap.size+1:=by simp
 have hal2:=((Below.refl W.heap.size W).alloc (Nat.le_refl _) (.cells #[.pointer (some ⟨B.mb,0,none⟩),.int .i64 (t:Int)] 161)).alloc (by simp) (.cells (evArr {x with who:=(t:Int)}) 65)
 have hSd:=(Blk.new W 161 #[.pointer (some ⟨B.mb,0,none⟩),.int .i64 (t:Int)]).alloc (.cells (evArr {x with who:=(t:Int)}) 65)
 have hEv:=Blk.new2 W (.cells #[.pointer (some ⟨B.mb,0,none⟩),.int .i64 (t:Int)] 161) 65 (evArr {x with who:=(t:Int)})
 have hr:W.ownsRow 0 65 8 (V 5) s.evs.length (s.evs.flatMap Evt.cells):=h.rows 5 (by decide)
 obtain ⟨A,cap,e5,hcc,hcm⟩:=own_cap hr
 obtain ⟨n,hn⟩: ∃n,s.evs.length=n:=⟨_,rfl⟩
 have hq5:V 5= .slice A n cap:=by rw [e5,hn]
 have HE0:=Lib.hid (fun W4 v4 (h1:W.grownBy W4 (Value.slice A n cap).ownBlock) (h2:W4.ownsRow 0 65 8 v4 (n+1) (s.evs.flatMap Evt.cells++({x with who:=(t:Int)}:Evt).cells)) h3=>h.evAdd rfl {x with who:=(t:Int)} (by rw [hq5];exact h1) (by rw [hn];exact h2) (by rw [hq5];exact h3))
 have hlb: ∀g,(Value.slice A n cap).ownBlock=some g->g<W.heap.size:=fun g hg=>(own_in hr g (by rw [hq5];exact hg)).2
 have hny:some B.mb≠(Value.slice A n cap).ownBlock:=by rw [<-hq5];exact row_ne h.blk hr (tsoL.ne 5 (by decide))
 have HX:=Lib.hid (And.intro hEv.drew (show some (W.heap.size+1)≠(Value.slice A n cap).ownBlock from fun e=>by have :=hlb _ e.symm;omega))
 have HG:=Lib.hid (show W.grownBy ((W.alloc (.cells #[.pointer (some ⟨B.mb,0,none⟩),.int .i64 (t:Int)] 161)).alloc (.cells (evArr {x with who:=(t:Int)}) 65)).drew (Value.slice A n cap).ownBlock from ⟨rfl,rfl,rfl,hal2.size,fun i hi _=>hal2.block i hi⟩)
 have HR:=Lib.hid (show ((W.alloc (.cells #[.pointer (some ⟨B.mb,0,none⟩),.int .i64 (t:Int)] 161)).alloc (.cells (evArr {x with who:=(t:Int)}) 65)).drew.ownsRow 0 65 8 (.slice A n cap) n (s.evs.flatMap Evt.cells) from by rw [<-hq5,<-hn];exact (own_below hr (Nat.le_refl _) hal2).drew)
 have HC:=Lib.hid (And.intro (Blk.below h.blk hal2 h.blk.lt).drew (And.intro (show (tsoL.arr V s.who)[5]?=some (.slice A n cap) from by rw [<-hq5];rfl) (And.intro hny (And.intro hSd.drew (show some W.heap.size≠(Value.slice A n cap).ownBlock from fun e=>by have :=hlb _ e.symm;omega)))))
 rw [hn]at hx
 clear h hr e5 hcc hcm hq5 hn hny hlb hal2 hSd hEv hz1
 unfold evArr at HX HG HR HC
 dsimp only at HX HG HR HC
 go_enter Tryz.func77,Tryz.ntmps77
 go_wp2
 refine startG (fun W'=>((W.alloc (.cells #[.pointer (some ⟨B.mb,0,none⟩),.int .i64 (t:Int)] 161)).alloc (.cells #[.int .i64 x.kind,.int .i64 (t:Int),.int .i64 x.pc,.int .i64 x.addr,.int .u32 x.value,.int .u32 x.old,.int .u32 x.k,.bool x.ok] 65)).drew.grownBy W' (Value.slice A n cap).ownBlock) 12 (by kernel_rfl) ?_
 obtain ⟨sb,hsb⟩: ∃sb,W.heap.size=sb:=⟨_,rfl⟩
 rw [hsb]at HX HC
 try rw [hsb]
 obtain ⟨xb,hxb⟩: ∃xb,sb+1=xb:=⟨_,rfl⟩
 rw [hxb]at HX
 try rw [hxb]
 generalize ((W.alloc (.cells #[.pointer (some ⟨B.mb,0,none⟩),.int .i64 (t:Int)] 161)).alloc (.cells #[.int .i64 x.kind,.int .i64 (t:Int),.int .i64 x.pc,.int .i64 x.addr,.int .u32 x.value,.int .u32 x.old,.int .u32 x.k,.bool x.ok] 65)).drew=W2 at HX HG HR HC⊢
 have hg0:W2.grownBy W2 (Value.slice A n cap).ownBlock:=World.grownBy.refl _ _
 refine takeA (i:=0) (v:= .pointer (some ⟨sb,0,none⟩)) rfl hg0 ?_
 simp only [Act.put,zA,zB,zC,zD,zE,zF]
 refine takeB (i:=1) (v:= .pointer (some ⟨B.mb,0,none⟩)) rfl (Or.inl ⟨by rfl,fun W hW=>by have q0:=((HC.out.2.2.2.1.grown hW HC.out.2.2.2.2).cell 0).trans rfl;go_simp⟩) hg0 ?_
 simp only [Act.put,zA,zB,zC,zD,zE,zF]
 refine takeA (i:=2) (v:= .pointer (some ⟨sb,0,none⟩)) rfl hg0 ?_
 simp only [Act.put,zA,zB,zC,zD,zE,zF]
 refine takeB (i:=3) (v:= .pointer (some ⟨B.mb,0,none⟩)) rfl (Or.inl ⟨by rfl,fun W hW=>by have q0:=((HC.out.2.2.2.1.grown hW HC.out.2.2.2.2).cell 0).trans rfl;go_simp⟩) hg0 ?_
 simp only [Act.put,zA,zB,zC,zD,zE,zF]
 refine takeA (i:=4) (v:= .pointer (some ⟨B.mb,0,none⟩)) rfl hg0 ?_
 simp only [Act.put,zA,zB,zC,zD,zE,zF]
 refine takeA (i:=5) (v:= .pointer (some ⟨B.mb,5,none⟩)) rfl hg0 ?_
 simp only [Act.put,zA,zB,zC,zD,zE,zF]
 refine takeB (i:=6) (v:= .slice A n cap) rfl (Or.inl ⟨by rfl,fun W hW=>by have q0:=((HC.out.1.grown hW HC.out.2.2.1).cell 5).trans HC.out.2.1;go_simp⟩) hg0 ?_
 simp only [Act.put,zA,zB,zC,zD,zE,zF]
 refine takeB (i:=7) (v:= .agg (evArr {x with who:=(t:Int)})) rfl (yields_row (by rfl) 65 (.tmp 3) rfl xb rfl (evArr {x with who:=(t:Int)}) (fun _ hS=>run_row _ _ _ _ _ _ (HX.out.1.grown hS HX.out.2) Tryz.underlying65 rfl evt_info)) hg0 ?_
 simp only [Act.put,zA,zB,zC,zD,zE,zF]
 unfold evArr
 refine onlyG (i:=8) (by kernel_rfl) rfl (fun K hK=>?_)
 go_simp
 have hA:W2.grownBy (W2.alloc (.cells #[.int .i64 x.kind,.int .i64 (t:Int),.int .i64 x.pc,.int .i64 x.addr,.int .u32 x.value,.int .u32 x.old,.int .u32 x.k,.bool x.ok] 65)) (Value.slice A n cap).ownBlock:=grown_alloc (World.grownBy.refl _ _) _
 have own2:=own_below HR.out (Nat.le_refl _) ((Below.refl W2.heap.size W2).alloc (Nat.le_refl _) (.cells #[.int .i64 x.kind,.int .i64 (t:Int),.int .i64 x.pc,.int .i64 x.addr,.int .u32 x.value,.int .u32 x.old,.int .u32 x.k,.bool x.ok] 65))
 have src:=sl_new W2 65 ({x with who:=(t:Int)}:Evt).cells
 refine hK.out _ _ hA (fun _=>?_)
 clear hK K
 try simp only [Act.put,zA,zB,zC,zD,zE,zF]
 refine onlyG (i:=9) (by kernel_rfl) rfl (fun K hK=>?_)
 rw [if_pos (by rfl)]
 refine wp_append_sl _ (.tmp 13) (.tmp 15) 40 rfl 0 65 i0 _ 8 48 Tryz.underlying40 hi hy0 hy1 hy2 rfl (by omega) _ n _ rfl own2 _ 1 _ (fun i=>({x with who:=(t:Int)}:Evt).cells.getD i undef) rfl src (evt_one _) (by unfold maxLen;omega) (by omega) (Nat.zero_le _) ?_
 intro v4 W4 own4 hg4 hv4
 rw [range_getD ({x with who:=(t:Int)}:Evt).cells (1*8) rfl]at own4
 have hg4':=grown_trans' hA hg4
 have hv5:v4.ownBlock=(Value.slice A n cap).ownBlock∨ ∃g,v4.ownBlock=some g/\W.heap.size<=g:=hv4.imp id (fun e=>⟨_,e,Nat.le_trans HG.out.size hA.size⟩)
 obtain ⟨A4,cap4,rfl,_,_⟩:=own_sl own4
 have y6:=((HC.out.1.grown hg4' HC.out.2.2.1).cell 5).trans HC.out.2.1
 have f6:=(HC.out.1.grown hg4' HC.out.2.2.1).frozen 5
 refine hK.out _ _ hg4' (fun _=>?_)
 clear hK K hg4 hv4 own2 src hA
 try simp only [Act.put,zA,zB,zC,zD,zE,zF]
 refine takeA (i:=10) (v:= .pointer (some ⟨B.mb,0,none⟩)) rfl hg4' ?_
 simp only [Act.put,zA,zB,zC,zD,zE,zF]
 refine takeA (i:=11) (v:= .pointer (some ⟨B.mb,5,none⟩)) rfl hg4' ?_
 simp only [Act.put,zA,zB,zC,zD,zE,zF]
 refine lastG (by kernel_rfl) rfl (by kernel_rfl) (fun K hK=>?_)
 go_simp
 refine hK.out _ _ ?_
 clear hK K
 have HE:=Lib.hid (HE0.out _ _ (grown_trans' HG.out hg4') own4 hv5)
 clear own4 hv5 hg4' y6 f6
 go_wp2
 go_end0
 exact ⟨⟨_,rfl⟩,HE.out⟩
end Go.Proofs.YtmhfpjnkjlhbpaaGreatDoor
