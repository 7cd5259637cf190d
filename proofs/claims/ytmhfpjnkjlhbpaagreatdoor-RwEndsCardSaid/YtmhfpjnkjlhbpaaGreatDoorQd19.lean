/- tso.side: flush. tso.side: remote, port; tso.Machine as a port. -/
import Derived.Test.YtmhfpjnkjlhbpaaGreatDoorQd18
import Derived.Test.YtmhfpjnkjlhbpaaGreatDoorQd16
namespace Go.Proofs.YtmhfpjnkjlhbpaaGreatDoor
open Go.ChangeShapes Go.WideShapes Go.ChangeAt Go.RowKit Go.Deep
set_option linter.unusedVariables false
set_option maxRecDepth 100000
set_option linter.unusedSimpArgs false
open List renaming getElem_toArray->zA,getElem_cons_zero->zB,getElem_cons_succ->zC,setIfInBounds_toArray->zD,set_cons_zero->zE,set_cons_succ->zF
set_option maxHeartbeats 8000000 in
theorem tflush_gen (B:MB) (s:Mst) (own:Nat->Prop) (W:World) (hI:MInv tsoL B s own W) (hev:s.evs.length+1<=1000000000) (t:Nat) (ht:t<s.bufs.length) (bl:List Ent) (hbl:s.bufs.getD t []=bl) (x:Ent) (rest:List Ent) (ok:Bool)
 (hPop: ∀cs W',Buf cs bl B.room->Calls Tryz.prog 128 #[.agg cs] W' fun e w'=> ∃cs',Buf cs' rest B.room/\e= .returned (.tuple #[.agg (entCells x),.agg cs',.bool ok])/\Below W'.heap.size W' w')
 (h0:ok=false->tflush t s=s) (h1':ok=true->0<=x.1/\x.1<(B.m:Int)/\tflush t s={s with bufs:=s.bufs.set t rest,mem:=s.mem.set x.1.toNat x.2,evs:=s.evs++[⟨3,(t:Int),0,x.1,x.2,0,0,false⟩]}):
 Calls Tryz.prog 75 #[.agg #[.pointer (some ⟨B.mb,0,none⟩),.int .i64 (t:Int)]] W fun e W'=>(∃u,e= .returned u)/\Moves (MInv tsoL B) (tflush t s) own W W':=by
 have hIn:=hI
 have hal:=(Below.refl W.heap.size W).alloc (Nat.le_refl _) (.cells #[.pointer (some ⟨B.mb,0,none⟩),.int .i64 (t:Int)] 161)
 have hX:=Blk.new W 161 #[.pointer (some ⟨B.mb,0,none⟩),.int .i64 (t:Int)]
 obtain ⟨sb,hsb⟩: ∃sb,W.heap.size=sb:=⟨_,rfl⟩
 obtain ⟨V,bcs,h⟩:=hI
 have h1:=h.below hal
 obtain ⟨g,cap,cs,e2,hgc,hgm,hbuf,hra,hth,hgn,hog,hput⟩:=h1.bufAt ht
 have c2:(W.alloc (.cells #[.pointer (some ⟨B.mb,0,none⟩),.int .i64 (t:Int)] 161)).cell? ⟨B.mb,2,none⟩=some (.slice (some ⟨g,0,none⟩) s.bufs.length cap):=by rw [<-e2];exact h1.cell (j:=2) (by decide) rfl
 rw [hbl]at hbuf
 have HBL:=Lib.hid hbl
 clear hbl
 have hgl:=(h1.lo g hog).2
 have hbm:=h1.blt
 have ht0:(0:Int)<=(t:Int):=by omega
 have ht1:(t:Int)<(s.bufs.length:Int):=by omega
 have hCP:=fun W'=>hPop cs W' hbuf
 have HIN:=Lib.hid (And.intro hIn (And.intro h0 (And.intro h1' hev)))
 clear h hPop h0 h1' hev hIn
 go_enter Tryz.func75,Tryz.ntmps75
 have hX1:=hX.drew
 rw [hsb]at hX1
 have c2':(W.alloc (.cells #[.pointer (some ⟨B.mb,0,none⟩),.int .i64 (t:Int)] 161)).drew.cell? ⟨B.mb,2,none⟩=some (.slice (some ⟨g,0,none⟩) s.bufs.length cap):=c2
 have hra':(W.alloc (.cells #[.pointer (some ⟨B.mb,0,none⟩),.int .i64 (t:Int)] 161)).drew.rangeAt g (t*35) cs.toList:=hra
 have hal':Below W.heap.size W (W.alloc (.cells #[.pointer (some ⟨B.mb,0,none⟩),.int .i64 (t:Int)] 161)).drew:=hal.drew
 have HF:=Lib.hid (And.intro hX1 (And.intro (c2') (And.intro (hra') (And.intro (hX1.lt) (And.intro (show B.mb<(W.alloc (.cells #[.pointer (some ⟨B.mb,0,none⟩),.int .i64 (t:Int)] 161)).drew.heap.size from hbm) (show g<(W.alloc (.cells #[.pointer (some ⟨B.mb,0,none⟩),.int .i64 (t:Int)] 161)).drew.heap.size from hgl))))))
 have HBF:=Lib.hid hbuf
 have HAL:=Lib.hid hal'
 clear h1 e2 hgc hgm hbuf hra hth hgn hog hput c2 hgl hbm hal hX hX1 c2' hra' hal'
 have HSB:=Lib.hid hsb
 go_wp2
 try rw [hsb]
 clear hsb
 go_cut [2,3,4] (fun v2 v3 v4 wx=> ∃eb bb cs2,v2= .pointer (some ⟨eb,0,none⟩)/\v3= .pointer (some ⟨bb,0,none⟩)/\v4= .bool ok/\Buf cs2 rest B.room/\Blk wx eb 111 (entCells x)/\Blk wx bb 114 cs2/\Blk wx sb 161 #[.pointer (some ⟨B.mb,0,none⟩),.int .i64 (t:Int)]/\W.heap.size<=eb/\W.heap.size<=bb/\Below W.heap.size W wx)
 case first=>
  refine startG (fun W'=>Below (W.alloc (.cells #[.pointer (some ⟨B.mb,0,none⟩),.int .i64 (t:Int)] 161)).drew.heap.size (W.alloc (.cells #[.pointer (some ⟨B.mb,0,none⟩),.int .i64 (t:Int)] 161)).drew W') 18 (by kernel_rfl) ?_
  generalize (W.alloc (.cells #[.pointer (some ⟨B.mb,0,none⟩),.int .i64 (t:Int)] 161)).drew=W0 at HF HAL⊢
  have hH:Below W0.heap.size W0 W0:=Below.refl _ _
  refine takeA (i:=0) (v:= .pointer (some ⟨sb,0,none⟩)) rfl hH ?_
  simp only [Act.put,zA,zB,zC,zD,zE,zF]
  refine takeT (i:=1) (v:= .pointer (some ⟨B.mb,0,none⟩)) rfl (by kernel_rfl) (by kernel_rfl) (by kernel_rfl) (by kernel_rfl) (fun _ _ _ h=>h) (Or.inl ⟨by rfl,fun W hW=>by have q0:=(HF.out.1.below hW HF.out.2.2.2.1).cell 0;go_simp⟩) hH ?_
  simp only [Act.put,zA,zB,zC,zD,zE,zF]
  refine takeA (i:=2) (v:= .pointer (some ⟨B.mb,0,none⟩)) rfl hH ?_
  simp only [Act.put,zA,zB,zC,zD,zE,zF]
  refine takeA (i:=3) (v:= .pointer (some ⟨B.mb,2,none⟩)) rfl hH ?_
  simp only [Act.put,zA,zB,zC,zD,zE,zF]
  refine takeT (i:=4) (v:= .slice (some ⟨g,0,none⟩) s.bufs.length cap) rfl (by kernel_rfl) (by kernel_rfl) (by kernel_rfl) (by kernel_rfl) (fun _ _ _ h=>h) (Or.inl ⟨by rfl,fun W hW=>by have q0:=keepAt hW HF.out.2.2.2.2.1 HF.out.2.1;go_simp⟩) hH ?_
  simp only [Act.put,zA,zB,zC,zD,zE,zF]
  refine takeA (i:=5) (v:= .pointer (some ⟨sb,1,none⟩)) rfl hH ?_
  simp only [Act.put,zA,zB,zC,zD,zE,zF]
  refine takeT (i:=6) (v:= .int .i64 (t:Int)) rfl (by kernel_rfl) (by kernel_rfl) (by kernel_rfl) (by kernel_rfl) (fun _ _ _ h=>h) (Or.inl ⟨by rfl,fun W hW=>by have q0:=(HF.out.1.below hW HF.out.2.2.2.1).cell 1;go_simp⟩) hH ?_
  simp only [Act.put,zA,zB,zC,zD,zE,zF]
  refine takeA (i:=7) (v:= .pointer (some ⟨g,t*35,none⟩)) rfl hH ?_
  simp only [Act.put,zA,zB,zC,zD,zE,zF]
  refine takeT (i:=8) (v:= .agg cs.toList.toArray) rfl (by kernel_rfl) (by kernel_rfl) (by kernel_rfl) (by kernel_rfl) (fun _ _ _ h=>h) (yieldsIf_load_mid (by rfl) 114 (.tmp 13) rfl g (t*35) rfl cs.toList _ (fun W hW=>range_below HF.out.2.2.1 HF.out.2.2.2.2.2 hW) Tryz.underlying114 rfl (buf_infoL HBF.out)) hH ?_
  simp only [Act.put,zA,zB,zC,zD,zE,zF]
  refine manyG (rs:=[9,14,15]) (by kernel_rfl) (by simp) (AllG.cons (i:=9) rfl (fun K hK=>?_) (AllG.cons (i:=14) rfl (fun K hK=>?_) (AllG.cons (i:=15) rfl (fun K hK=>?_) AllG.nil)))
  ·go_simp
   have hC:Calls Tryz.prog 128 #[.agg cs.toList.toArray] W0 _:=hCP W0
   with_reducible refine hC.mono ?_
   rintro e V1 ⟨cs2,hcs2,rfl,hbn⟩
   clear hC
   replace hH:=step_below hH hbn
   clear hbn
   refine hK.out _ _ hH (fun _=>?_)
   clear hK K
   try simp only [Act.put,zA,zB,zC,zD,zE,zF]
   refine takeA (i:=10) (v:= .tuple #[.agg (entCells x),.agg cs2,.bool ok]) rfl hH ?_
   simp only [Act.put,zA,zB,zC,zD,zE,zF]
   refine takeA (i:=11) (v:= .agg (entCells x)) rfl hH ?_
   simp only [Act.put,zA,zB,zC,zD,zE,zF]
   refine takeA (i:=12) (v:= .agg cs2) rfl hH ?_
   simp only [Act.put,zA,zB,zC,zD,zE,zF]
   refine takeA (i:=13) (v:= .bool ok) rfl hH ?_
   simp only [Act.put,zA,zB,zC,zD,zE,zF]
   refine manyG (rs:=[14,15]) (by kernel_rfl) (by simp) (AllG.cons (i:=14) rfl (fun K hK=>?_) (AllG.cons (i:=15) rfl (fun K hK=>?_) AllG.nil))
   ·go_simp
    have hbn:=(Below.refl V1.heap.size V1).alloc (Nat.le_refl _) (.cells #[.int .i64 0,.int .u32 0] 111)
    have hE:=Blk.new V1 111 #[.int .i64 0,.int .u32 0]
    obtain ⟨eb,hge⟩: ∃g,V1.heap.size=g:=⟨_,rfl⟩
    have heb:W0.heap.size<=eb:=by rw [<-hge];exact hH.size
    rw [hge]at hE
    try rw [hge]
    clear hge
    generalize V1.alloc (.cells #[.int .i64 0,.int .u32 0] 111)=V2 at hbn hE⊢
    replace hH:=step_below hH hbn
    clear hbn
    refine hK.out _ _ hH (fun _=>?_)
    clear hK K
    try simp only [Act.put,zA,zB,zC,zD,zE,zF]
    refine onlyG (i:=15) (by kernel_rfl) rfl (fun K hK=>?_)
    go_simp
    have hbn:=(Below.refl V2.heap.size V2).alloc (Nat.le_refl _) (.cells #[.int .i64 0,.int .u32 0,.int .i64 0,.int .u32 0,.int .i64 0,.int .u32 0,.int .i64 0,.int .u32 0,.int .i64 0,.int .u32 0,.int .i64 0,.int .u32 0,.int .i64 0,.int .u32 0,.int .i64 0,.int .u32 0,.int .i64 0,.int .u32 0,.int .i64 0,.int .u32 0,.int .i64 0,.int .u32 0,.int .i64 0,.int .u32 0,.int .i64 0,.int .u32 0,.int .i64 0,.int .u32 0,.int .i64 0,.int .u32 0,.int .i64 0,.int .u32 0,.int .i64 0,.int .i64 0,.int .i64 0] 114)
    have hU:=Blk.new V2 114 #[.int .i64 0,.int .u32 0,.int .i64 0,.int .u32 0,.int .i64 0,.int .u32 0,.int .i64 0,.int .u32 0,.int .i64 0,.int .u32 0,.int .i64 0,.int .u32 0,.int .i64 0,.int .u32 0,.int .i64 0,.int .u32 0,.int .i64 0,.int .u32 0,.int .i64 0,.int .u32 0,.int .i64 0,.int .u32 0,.int .i64 0,.int .u32 0,.int .i64 0,.int .u32 0,.int .i64 0,.int .u32 0,.int .i64 0,.int .u32 0,.int .i64 0,.int .u32 0,.int .i64 0,.int .i64 0,.int .i64 0]
    obtain ⟨bb,hge⟩: ∃g,V2.heap.size=g:=⟨_,rfl⟩
    have hbb:W0.heap.size<=bb:=by rw [<-hge];exact hH.size
    rw [hge]at hU
    try rw [hge]
    clear hge
    generalize V2.alloc (.cells #[.int .i64 0,.int .u32 0,.int .i64 0,.int .u32 0,.int .i64 0,.int .u32 0,.int .i64 0,.int .u32 0,.int .i64 0,.int .u32 0,.int .i64 0,.int .u32 0,.int .i64 0,.int .u32 0,.int .i64 0,.int .u32 0,.int .i64 0,.int .u32 0,.int .i64 0,.int .u32 0,.int .i64 0,.int .u32 0,.int .i64 0,.int .u32 0,.int .i64 0,.int .u32 0,.int .i64 0,.int .u32 0,.int .i64 0,.int .u32 0,.int .i64 0,.int .u32 0,.int .i64 0,.int .i64 0,.int .i64 0] 114)=V3 at hbn hU⊢
    replace hE:=hE.below hbn hE.lt
    replace hH:=step_below hH hbn
    clear hbn
    refine hK.out _ _ hH (fun _=>?_)
    clear hK K
    try simp only [Act.put,zA,zB,zC,zD,zE,zF]
    refine onlyG (i:=16) (by kernel_rfl) rfl (fun K hK=>?_)
    refine step_store_row rfl 111 (.tmp 2) (.tmp 16) rfl _ rfl (entCells x) rfl 111 _ hE rfl (by show _=some 2;kernel_rfl) (ent_all x) ?_
    intro W8 hE8 hg8
    have hU8:=hU.grown hg8 (fun e=>hU.ne hE (by decide) (Option.some.inj e))
    have hH8:=below_row hH hg8 hH.size heb
    refine hK.out _ _ hH8 (fun _=>?_)
    clear hK K
    try simp only [Act.put,zA,zB,zC,zD,zE,zF]
    refine onlyG (i:=17) (by kernel_rfl) rfl (fun K hK=>?_)
    refine step_store_row rfl 114 (.tmp 3) (.tmp 17) rfl _ rfl cs2 rfl 114 _ hU8 (by rw [hcs2.size];rfl) hcs2.info hcs2.all ?_
    intro W9 hU9 hg9
    have hE9:=hE8.grown hg9 (fun e=>hE8.ne hU8 (by decide) (Option.some.inj e))
    have hH9:=below_row hH8 hg9 hH8.size hbb
    refine hK.out _ _ hH9 (fun _=>?_)
    clear hK K
    try simp only [Act.put,zA,zB,zC,zD,zE,zF]
    have HZ:=Lib.hid (And.intro hcs2 (And.intro hE9 (And.intro hU9 (And.intro (HF.out.1.below hH9 HF.out.2.2.2.1) (And.intro (Nat.le_trans HAL.out.size heb) (And.intro (Nat.le_trans HAL.out.size hbb) (step_belowN HAL.out hH9 HAL.out.size)))))))
    clear hcs2 hE hU hE8 hU8 hE9 hU9 hg8 hg9 hH hH8
    refine lastG (by kernel_rfl) rfl (by kernel_rfl) (fun K hK=>?_)
    go_simp
    refine hK.out _ _ ?_
    clear hK K hH9
    go_wp2_with fail
    go_meet
    case rel=>exact ⟨eb,bb,cs2,rfl,rfl,rfl,HZ.out.1,HZ.out.2.1,HZ.out.2.2.1,HZ.out.2.2.2.1,HZ.out.2.2.2.2.1,HZ.out.2.2.2.2.2.1,HZ.out.2.2.2.2.2.2⟩
   ·go_simp
    have hbn:=(Below.refl V1.heap.size V1).alloc (Nat.le_refl _) (.cells #[.int .i64 0,.int .u32 0,.int .i64 0,.int .u32 0,.int .i64 0,.int .u32 0,.int .i64 0,.int .u32 0,.int .i64 0,.int .u32 0,.int .i64 0,.int .u32 0,.int .i64 0,.int .u32 0,.int .i64 0,.int .u32 0,.int .i64 0,.int .u32 0,.int .i64 0,.int .u32 0,.int .i64 0,.int .u32 0,.int .i64 0,.int .u32 0,.int .i64 0,.int .u32 0,.int .i64 0,.int .u32 0,.int .i64 0,.int .u32 0,.int .i64 0,.int .u32 0,.int .i64 0,.int .i64 0,.int .i64 0] 114)
    have hU:=Blk.new V1 114 #[.int .i64 0,.int .u32 0,.int .i64 0,.int .u32 0,.int .i64 0,.int .u32 0,.int .i64 0,.int .u32 0,.int .i64 0,.int .u32 0,.int .i64 0,.int .u32 0,.int .i64 0,.int .u32 0,.int .i64 0,.int .u32 0,.int .i64 0,.int .u32 0,.int .i64 0,.int .u32 0,.int .i64 0,.int .u32 0,.int .i64 0,.int .u32 0,.int .i64 0,.int .u32 0,.int .i64 0,.int .u32 0,.int .i64 0,.int .u32 0,.int .i64 0,.int .u32 0,.int .i64 0,.int .i64 0,.int .i64 0]
    obtain ⟨bb,hge⟩: ∃g,V1.heap.size=g:=⟨_,rfl⟩
    have hbb:W0.heap.size<=bb:=by rw [<-hge];exact hH.size
    rw [hge]at hU
    try rw [hge]
    clear hge
    generalize V1.alloc (.cells #[.int .i64 0,.int .u32 0,.int .i64 0,.int .u32 0,.int .i64 0,.int .u32 0,.int .i64 0,.int .u32 0,.int .i64 0,.int .u32 0,.int .i64 0,.int .u32 0,.int .i64 0,.int .u32 0,.int .i64 0,.int .u32 0,.int .i64 0,.int .u32 0,.int .i64 0,.int .u32 0,.int .i64 0,.int .u32 0,.int .i64 0,.int .u32 0,.int .i64 0,.int .u32 0,.int .i64 0,.int .u32 0,.int .i64 0,.int .u32 0,.int .i64 0,.int .u32 0,.int .i64 0,.int .i64 0,.int .i64 0] 114)=V4 at hbn hU⊢
    replace hH:=step_below hH hbn
    clear hbn
    refine hK.out _ _ hH (fun _=>?_)
    clear hK K
    try simp only [Act.put,zA,zB,zC,zD,zE,zF]
    refine onlyG (i:=14) (by kernel_rfl) rfl (fun K hK=>?_)
    go_simp
    have hbn:=(Below.refl V4.heap.size V4).alloc (Nat.le_refl _) (.cells #[.int .i64 0,.int .u32 0] 111)
    have hE:=Blk.new V4 111 #[.int .i64 0,.int .u32 0]
    obtain ⟨eb,hge⟩: ∃g,V4.heap.size=g:=⟨_,rfl⟩
    have heb:W0.heap.size<=eb:=by rw [<-hge];exact hH.size
    rw [hge]at hE
    try rw [hge]
    clear hge
    generalize V4.alloc (.cells #[.int .i64 0,.int .u32 0] 111)=V5 at hbn hE⊢
    replace hU:=hU.below hbn hU.lt
    replace hH:=step_below hH hbn
    clear hbn
    refine hK.out _ _ hH (fun _=>?_)
    clear hK K
    try simp only [Act.put,zA,zB,zC,zD,zE,zF]
    refine onlyG (i:=16) (by kernel_rfl) rfl (fun K hK=>?_)
    refine step_store_row rfl 111 (.tmp 2) (.tmp 16) rfl _ rfl (entCells x) rfl 111 _ hE rfl (by show _=some 2;kernel_rfl) (ent_all x) ?_
    intro W8 hE8 hg8
    have hU8:=hU.grown hg8 (fun e=>hU.ne hE (by decide) (Option.some.inj e))
    have hH8:=below_row hH hg8 hH.size heb
    refine hK.out _ _ hH8 (fun _=>?_)
    clear hK K
    try simp only [Act.put,zA,zB,zC,zD,zE,zF]
    refine onlyG (i:=17) (by kernel_rfl) rfl (fun K hK=>?_)
    refine step_store_row rfl 114 (.tmp 3) (.tmp 17) rfl _ rfl cs2 rfl 114 _ hU8 (by rw [hcs2.size];rfl) hcs2.info hcs2.all ?_
    intro W9 hU9 hg9
    have hE9:=hE8.grown hg9 (fun e=>hE8.ne hU8 (by decide) (Option.some.inj e))
    have hH9:=below_row hH8 hg9 hH8.size hbb
    refine hK.out _ _ hH9 (fun _=>?_)
    clear hK K
    try simp only [Act.put,zA,zB,zC,zD,zE,zF]
    have HZ:=Lib.hid (And.intro hcs2 (And.intro hE9 (And.intro hU9 (And.intro (HF.out.1.below hH9 HF.out.2.2.2.1) (And.intro (Nat.le_trans HAL.out.size heb) (And.intro (Nat.le_trans HAL.out.size hbb) (step_belowN HAL.out hH9 HAL.out.size)))))))
    clear hcs2 hE hU hE8 hU8 hE9 hU9 hg8 hg9 hH hH8
    refine lastG (by kernel_rfl) rfl (by kernel_rfl) (fun K hK=>?_)
    go_simp
    refine hK.out _ _ ?_
    clear hK K hH9
    go_wp2_with fail
    go_meet
    case rel=>exact ⟨eb,bb,cs2,rfl,rfl,rfl,HZ.out.1,HZ.out.2.1,HZ.out.2.2.1,HZ.out.2.2.2.1,HZ.out.2.2.2.2.1,HZ.out.2.2.2.2.2.1,HZ.out.2.2.2.2.2.2⟩
  ·go_simp
   have hbn:=(Below.refl W0.heap.size W0).alloc (Nat.le_refl _) (.cells #[.int .i64 0,.int .u32 0] 111)
   have hE:=Blk.new W0 111 #[.int .i64 0,.int .u32 0]
   obtain ⟨eb,hge⟩: ∃g,W0.heap.size=g:=⟨_,rfl⟩
   have heb:W0.heap.size<=eb:=by rw [<-hge];exact hH.size
   rw [hge]at hE
   try rw [hge]
   clear hge
   generalize W0.alloc (.cells #[.int .i64 0,.int .u32 0] 111)=V6 at hbn hE⊢
   replace hH:=step_below hH hbn
   clear hbn
   refine hK.out _ _ hH (fun _=>?_)
   clear hK K
   try simp only [Act.put,zA,zB,zC,zD,zE,zF]
   refine manyG (rs:=[9,15]) (by kernel_rfl) (by simp) (AllG.cons (i:=9) rfl (fun K hK=>?_) (AllG.cons (i:=15) rfl (fun K hK=>?_) AllG.nil))
   ·go_simp
    have hC:Calls Tryz.prog 128 #[.agg cs.toList.toArray] V6 _:=hCP V6
    with_reducible refine hC.mono ?_
    rintro e V7 ⟨cs2,hcs2,rfl,hbn⟩
    clear hC
    replace hE:=hE.below hbn hE.lt
    replace hH:=step_below hH hbn
    clear hbn
    refine hK.out _ _ hH (fun _=>?_)
    clear hK K
    try simp only [Act.put,zA,zB,zC,zD,zE,zF]
    refine takeA (i:=10) (v:= .tuple #[.agg (entCells x),.agg cs2,.bool ok]) rfl hH ?_
    simp only [Act.put,zA,zB,zC,zD,zE,zF]
    refine takeA (i:=11) (v:= .agg (entCells x)) rfl hH ?_
    simp only [Act.put,zA,zB,zC,zD,zE,zF]
    refine takeA (i:=12) (v:= .agg cs2) rfl hH ?_
    simp only [Act.put,zA,zB,zC,zD,zE,zF]
    refine takeA (i:=13) (v:= .bool ok) rfl hH ?_
    simp only [Act.put,zA,zB,zC,zD,zE,zF]
    refine onlyG (i:=15) (by kernel_rfl) rfl (fun K hK=>?_)
    go_simp
    have hbn:=(Below.refl V7.heap.size V7).alloc (Nat.le_refl _) (.cells #[.int .i64 0,.int .u32 0,.int .i64 0,.int .u32 0,.int .i64 0,.int .u32 0,.int .i64 0,.int .u32 0,.int .i64 0,.int .u32 0,.int .i64 0,.int .u32 0,.int .i64 0,.int .u32 0,.int .i64 0,.int .u32 0,.int .i64 0,.int .u32 0,.int .i64 0,.int .u32 0,.int .i64 0,.int .u32 0,.int .i64 0,.int .u32 0,.int .i64 0,.int .u32 0,.int .i64 0,.int .u32 0,.int .i64 0,.int .u32 0,.int .i64 0,.int .u32 0,.int .i64 0,.int .i64 0,.int .i64 0] 114)
    have hU:=Blk.new V7 114 #[.int .i64 0,.int .u32 0,.int .i64 0,.int .u32 0,.int .i64 0,.int .u32 0,.int .i64 0,.int .u32 0,.int .i64 0,.int .u32 0,.int .i64 0,.int .u32 0,.int .i64 0,.int .u32 0,.int .i64 0,.int .u32 0,.int .i64 0,.int .u32 0,.int .i64 0,.int .u32 0,.int .i64 0,.int .u32 0,.int .i64 0,.int .u32 0,.int .i64 0,.int .u32 0,.int .i64 0,.int .u32 0,.int .i64 0,.int .u32 0,.int .i64 0,.int .u32 0,.int .i64 0,.int .i64 0,.int .i64 0]
    obtain ⟨bb,hge⟩: ∃g,V7.heap.size=g:=⟨_,rfl⟩
    have hbb:W0.heap.size<=bb:=by rw [<-hge];exact hH.size
    rw [hge]at hU
    try rw [hge]
    clear hge
    generalize V7.alloc (.cells #[.int .i64 0,.int .u32 0,.int .i64 0,.int .u32 0,.int .i64 0,.int .u32 0,.int .i64 0,.int .u32 0,.int .i64 0,.int .u32 0,.int .i64 0,.int .u32 0,.int .i64 0,.int .u32 0,.int .i64 0,.int .u32 0,.int .i64 0,.int .u32 0,.int .i64 0,.int .u32 0,.int .i64 0,.int .u32 0,.int .i64 0,.int .u32 0,.int .i64 0,.int .u32 0,.int .i64 0,.int .u32 0,.int .i64 0,.int .u32 0,.int .i64 0,.int .u32 0,.int .i64 0,.int .i64 0,.int .i64 0] 114)=V8 at hbn hU⊢
    replace hE:=hE.below hbn hE.lt
    replace hH:=step_below hH hbn
    clear hbn
    refine hK.out _ _ hH (fun _=>?_)
    clear hK K
    try simp only [Act.put,zA,zB,zC,zD,zE,zF]
    refine onlyG (i:=16) (by kernel_rfl) rfl (fun K hK=>?_)
    refine step_store_row rfl 111 (.tmp 2) (.tmp 16) rfl _ rfl (entCells x) rfl 111 _ hE rfl (by show _=some 2;kernel_rfl) (ent_all x) ?_
    intro W8 hE8 hg8
    have hU8:=hU.grown hg8 (fun e=>hU.ne hE (by decide) (Option.some.inj e))
    have hH8:=below_row hH hg8 hH.size heb
    refine hK.out _ _ hH8 (fun _=>?_)
    clear hK K
    try simp only [Act.put,zA,zB,zC,zD,zE,zF]
    refine onlyG (i:=17) (by kernel_rfl) rfl (fun K hK=>?_)
    refine step_store_row rfl 114 (.tmp 3) (.tmp 17) rfl _ rfl cs2 rfl 114 _ hU8 (by rw [hcs2.size];rfl) hcs2.info hcs2.all ?_
    intro W9 hU9 hg9
    have hE9:=hE8.grown hg9 (fun e=>hE8.ne hU8 (by decide) (Option.some.inj e))
    have hH9:=below_row hH8 hg9 hH8.size hbb
    refine hK.out _ _ hH9 (fun _=>?_)
    clear hK K
    try simp only [Act.put,zA,zB,zC,zD,zE,zF]
    have HZ:=Lib.hid (And.intro hcs2 (And.intro hE9 (And.intro hU9 (And.intro (HF.out.1.below hH9 HF.out.2.2.2.1) (And.intro (Nat.le_trans HAL.out.size heb) (And.intro (Nat.le_trans HAL.out.size hbb) (step_belowN HAL.out hH9 HAL.out.size)))))))
    clear hcs2 hE hU hE8 hU8 hE9 hU9 hg8 hg9 hH hH8
    refine lastG (by kernel_rfl) rfl (by kernel_rfl) (fun K hK=>?_)
    go_simp
    refine hK.out _ _ ?_
    clear hK K hH9
    go_wp2_with fail
    go_meet
    case rel=>exact ⟨eb,bb,cs2,rfl,rfl,rfl,HZ.out.1,HZ.out.2.1,HZ.out.2.2.1,HZ.out.2.2.2.1,HZ.out.2.2.2.2.1,HZ.out.2.2.2.2.2.1,HZ.out.2.2.2.2.2.2⟩
   ·go_simp
    have hbn:=(Below.refl V6.heap.size V6).alloc (Nat.le_refl _) (.cells #[.int .i64 0,.int .u32 0,.int .i64 0,.int .u32 0,.int .i64 0,.int .u32 0,.int .i64 0,.int .u32 0,.int .i64 0,.int .u32 0,.int .i64 0,.int .u32 0,.int .i64 0,.int .u32 0,.int .i64 0,.int .u32 0,.int .i64 0,.int .u32 0,.int .i64 0,.int .u32 0,.int .i64 0,.int .u32 0,.int .i64 0,.int .u32 0,.int .i64 0,.int .u32 0,.int .i64 0,.int .u32 0,.int .i64 0,.int .u32 0,.int .i64 0,.int .u32 0,.int .i64 0,.int .i64 0,.int .i64 0] 114)
    have hU:=Blk.new V6 114 #[.int .i64 0,.int .u32 0,.int .i64 0,.int .u32 0,.int .i64 0,.int .u32 0,.int .i64 0,.int .u32 0,.int .i64 0,.int .u32 0,.int .i64 0,.int .u32 0,.int .i64 0,.int .u32 0,.int .i64 0,.int .u32 0,.int .i64 0,.int .u32 0,.int .i64 0,.int .u32 0,.int .i64 0,.int .u32 0,.int .i64 0,.int .u32 0,.int .i64 0,.int .u32 0,.int .i64 0,.int .u32 0,.int .i64 0,.int .u32 0,.int .i64 0,.int .u32 0,.int .i64 0,.int .i64 0,.int .i64 0]
    obtain ⟨bb,hge⟩: ∃g,V6.heap.size=g:=⟨_,rfl⟩
    have hbb:W0.heap.size<=bb:=by rw [<-hge];exact hH.size
    rw [hge]at hU
    try rw [hge]
    clear hge
    generalize V6.alloc (.cells #[.int .i64 0,.int .u32 0,.int .i64 0,.int .u32 0,.int .i64 0,.int .u32 0,.int .i64 0,.int .u32 0,.int .i64 0,.int .u32 0,.int .i64 0,.int .u32 0,.int .i64 0,.int .u32 0,.int .i64 0,.int .u32 0,.int .i64 0,.int .u32 0,.int .i64 0,.int .u32 0,.int .i64 0,.int .u32 0,.int .i64 0,.int .u32 0,.int .i64 0,.int .u32 0,.int .i64 0,.int .u32 0,.int .i64 0,.int .u32 0,.int .i64 0,.int .u32 0,.int .i64 0,.int .i64 0,.int .i64 0] 114)=V9 at hbn hU⊢
    replace hE:=hE.below hbn hE.lt
    replace hH:=step_below hH hbn
    clear hbn
    refine hK.out _ _ hH (fun _=>?_)
    clear hK K
    try simp only [Act.put,zA,zB,zC,zD,zE,zF]
    refine onlyG (i:=9) (by kernel_rfl) rfl (fun K hK=>?_)
    go_simp
    have hC:Calls Tryz.prog 128 #[.agg cs.toList.toArray] V9 _:=hCP V9
    with_reducible refine hC.mono ?_
    rintro e V10 ⟨cs2,hcs2,rfl,hbn⟩
    clear hC
    replace hE:=hE.below hbn hE.lt
    replace hU:=hU.below hbn hU.lt
    replace hH:=step_below hH hbn
    clear hbn
    refine hK.out _ _ hH (fun _=>?_)
    clear hK K
    try simp only [Act.put,zA,zB,zC,zD,zE,zF]
    refine takeA (i:=10) (v:= .tuple #[.agg (entCells x),.agg cs2,.bool ok]) rfl hH ?_
    simp only [Act.put,zA,zB,zC,zD,zE,zF]
    refine takeA (i:=11) (v:= .agg (entCells x)) rfl hH ?_
    simp only [Act.put,zA,zB,zC,zD,zE,zF]
    refine takeA (i:=12) (v:= .agg cs2) rfl hH ?_
    simp only [Act.put,zA,zB,zC,zD,zE,zF]
    refine takeA (i:=13) (v:= .bool ok) rfl hH ?_
    simp only [Act.put,zA,zB,zC,zD,zE,zF]
    refine onlyG (i:=16) (by kernel_rfl) rfl (fun K hK=>?_)
    refine step_store_row rfl 111 (.tmp 2) (.tmp 16) rfl _ rfl (entCells x) rfl 111 _ hE rfl (by show _=some 2;kernel_rfl) (ent_all x) ?_
    intro W8 hE8 hg8
    have hU8:=hU.grown hg8 (fun e=>hU.ne hE (by decide) (Option.some.inj e))
    have hH8:=below_row hH hg8 hH.size heb
    refine hK.out _ _ hH8 (fun _=>?_)
    clear hK K
    try simp only [Act.put,zA,zB,zC,zD,zE,zF]
    refine onlyG (i:=17) (by kernel_rfl) rfl (fun K hK=>?_)
    refine step_store_row rfl 114 (.tmp 3) (.tmp 17) rfl _ rfl cs2 rfl 114 _ hU8 (by rw [hcs2.size];rfl) hcs2.info hcs2.all ?_
    intro W9 hU9 hg9
    have hE9:=hE8.grown hg9 (fun e=>hE8.ne hU8 (by decide) (Option.some.inj e))
    have hH9:=below_row hH8 hg9 hH8.size hbb
    refine hK.out _ _ hH9 (fun _=>?_)
    clear hK K
    try simp only [Act.put,zA,zB,zC,zD,zE,zF]
    have HZ:=Lib.hid (And.intro hcs2 (And.intro hE9 (And.intro hU9 (And.intro (HF.out.1.below hH9 HF.out.2.2.2.1) (And.intro (Nat.le_trans HAL.out.size heb) (And.intro (Nat.le_trans HAL.out.size hbb) (step_belowN HAL.out hH9 HAL.out.size)))))))
    clear hcs2 hE hU hE8 hU8 hE9 hU9 hg8 hg9 hH hH8
    refine lastG (by kernel_rfl) rfl (by kernel_rfl) (fun K hK=>?_)
    go_simp
    refine hK.out _ _ ?_
    clear hK K hH9
    go_wp2_with fail
    go_meet
    case rel=>exact ⟨eb,bb,cs2,rfl,rfl,rfl,HZ.out.1,HZ.out.2.1,HZ.out.2.2.1,HZ.out.2.2.2.1,HZ.out.2.2.2.2.1,HZ.out.2.2.2.2.2.1,HZ.out.2.2.2.2.2.2⟩
  ·go_simp
   have hbn:=(Below.refl W0.heap.size W0).alloc (Nat.le_refl _) (.cells #[.int .i64 0,.int .u32 0,.int .i64 0,.int .u32 0,.int .i64 0,.int .u32 0,.int .i64 0,.int .u32 0,.int .i64 0,.int .u32 0,.int .i64 0,.int .u32 0,.int .i64 0,.int .u32 0,.int .i64 0,.int .u32 0,.int .i64 0,.int .u32 0,.int .i64 0,.int .u32 0,.int .i64 0,.int .u32 0,.int .i64 0,.int .u32 0,.int .i64 0,.int .u32 0,.int .i64 0,.int .u32 0,.int .i64 0,.int .u32 0,.int .i64 0,.int .u32 0,.int .i64 0,.int .i64 0,.int .i64 0] 114)
   have hU:=Blk.new W0 114 #[.int .i64 0,.int .u32 0,.int .i64 0,.int .u32 0,.int .i64 0,.int .u32 0,.int .i64 0,.int .u32 0,.int .i64 0,.int .u32 0,.int .i64 0,.int .u32 0,.int .i64 0,.int .u32 0,.int .i64 0,.int .u32 0,.int .i64 0,.int .u32 0,.int .i64 0,.int .u32 0,.int .i64 0,.int .u32 0,.int .i64 0,.int .u32 0,.int .i64 0,.int .u32 0,.int .i64 0,.int .u32 0,.int .i64 0,.int .u32 0,.int .i64 0,.int .u32 0,.int .i64 0,.int .i64 0,.int .i64 0]
   obtain ⟨bb,hge⟩: ∃g,W0.heap.size=g:=⟨_,rfl⟩
   have hbb:W0.heap.size<=bb:=by rw [<-hge];exact hH.size
   rw [hge]at hU
   try rw [hge]
   clear hge
   generalize W0.alloc (.cells #[.int .i64 0,.int .u32 0,.int .i64 0,.int .u32 0,.int .i64 0,.int .u32 0,.int .i64 0,.int .u32 0,.int .i64 0,.int .u32 0,.int .i64 0,.int .u32 0,.int .i64 0,.int .u32 0,.int .i64 0,.int .u32 0,.int .i64 0,.int .u32 0,.int .i64 0,.int .u32 0,.int .i64 0,.int .u32 0,.int .i64 0,.int .u32 0,.int .i64 0,.int .u32 0,.int .i64 0,.int .u32 0,.int .i64 0,.int .u32 0,.int .i64 0,.int .u32 0,.int .i64 0,.int .i64 0,.int .i64 0] 114)=V11 at hbn hU⊢
   replace hH:=step_below hH hbn
   clear hbn
   refine hK.out _ _ hH (fun _=>?_)
   clear hK K
   try simp only [Act.put,zA,zB,zC,zD,zE,zF]
   refine manyG (rs:=[9,14]) (by kernel_rfl) (by simp) (AllG.cons (i:=9) rfl (fun K hK=>?_) (AllG.cons (i:=14) rfl (fun K hK=>?_) AllG.nil))
   ·go_simp
    have hC:Calls Tryz.prog 128 #[.agg cs.toList.toArray] V11 _:=hCP V11
    with_reducible refine hC.mono ?_
    rintro e V12 ⟨cs2,hcs2,rfl,hbn⟩
    clear hC
    replace hU:=hU.below hbn hU.lt
    replace hH:=step_below hH hbn
    clear hbn
    refine hK.out _ _ hH (fun _=>?_)
    clear hK K
    try simp only [Act.put,zA,zB,zC,zD,zE,zF]
    refine takeA (i:=10) (v:= .tuple #[.agg (entCells x),.agg cs2,.bool ok]) rfl hH ?_
    simp only [Act.put,zA,zB,zC,zD,zE,zF]
    refine takeA (i:=11) (v:= .agg (entCells x)) rfl hH ?_
    simp only [Act.put,zA,zB,zC,zD,zE,zF]
    refine takeA (i:=12) (v:= .agg cs2) rfl hH ?_
    simp only [Act.put,zA,zB,zC,zD,zE,zF]
    refine takeA (i:=13) (v:= .bool ok) rfl hH ?_
    simp only [Act.put,zA,zB,zC,zD,zE,zF]
    refine onlyG (i:=14) (by kernel_rfl) rfl (fun K hK=>?_)
    go_simp
    have hbn:=(Below.refl V12.heap.size V12).alloc (Nat.le_refl _) (.cells #[.int .i64 0,.int .u32 0] 111)
    have hE:=Blk.new V12 111 #[.int .i64 0,.int .u32 0]
    obtain ⟨eb,hge⟩: ∃g,V12.heap.size=g:=⟨_,rfl⟩
    have heb:W0.heap.size<=eb:=by rw [<-hge];exact hH.size
    rw [hge]at hE
    try rw [hge]
    clear hge
    generalize V12.alloc (.cells #[.int .i64 0,.int .u32 0] 111)=V13 at hbn hE⊢
    replace hU:=hU.below hbn hU.lt
    replace hH:=step_below hH hbn
    clear hbn
    refine hK.out _ _ hH (fun _=>?_)
    clear hK K
    try simp only [Act.put,zA,zB,zC,zD,zE,zF]
    refine onlyG (i:=16) (by kernel_rfl) rfl (fun K hK=>?_)
    refine step_store_row rfl 111 (.tmp 2) (.tmp 16) rfl _ rfl (entCells x) rfl 111 _ hE rfl (by show _=some 2;kernel_rfl) (ent_all x) ?_
    intro W8 hE8 hg8
    have hU8:=hU.grown hg8 (fun e=>hU.ne hE (by decide) (Option.some.inj e))
    have hH8:=below_row hH hg8 hH.size heb
    refine hK.out _ _ hH8 (fun _=>?_)
    clear hK K
    try simp only [Act.put,zA,zB,zC,zD,zE,zF]
    refine onlyG (i:=17) (by kernel_rfl) rfl (fun K hK=>?_)
    refine step_store_row rfl 114 (.tmp 3) (.tmp 17) rfl _ rfl cs2 rfl 114 _ hU8 (by rw [hcs2.size];rfl) hcs2.info hcs2.all ?_
    intro W9 hU9 hg9
    have hE9:=hE8.grown hg9 (fun e=>hE8.ne hU8 (by decide) (Option.some.inj e))
    have hH9:=below_row hH8 hg9 hH8.size hbb
    refine hK.out _ _ hH9 (fun _=>?_)
    clear hK K
    try simp only [Act.put,zA,zB,zC,zD,zE,zF]
    have HZ:=Lib.hid (And.intro hcs2 (And.intro hE9 (And.intro hU9 (And.intro (HF.out.1.below hH9 HF.out.2.2.2.1) (And.intro (Nat.le_trans HAL.out.size heb) (And.intro (Nat.le_trans HAL.out.size hbb) (step_belowN HAL.out hH9 HAL.out.size)))))))
    clear hcs2 hE hU hE8 hU8 hE9 hU9 hg8 hg9 hH hH8
    refine lastG (by kernel_rfl) rfl (by kernel_rfl) (fun K hK=>?_)
    go_simp
    refine hK.out _ _ ?_
    clear hK K hH9
    go_wp2_with fail
    go_meet
    case rel=>exact ⟨eb,bb,cs2,rfl,rfl,rfl,HZ.out.1,HZ.out.2.1,HZ.out.2.2.1,HZ.out.2.2.2.1,HZ.out.2.2.2.2.1,HZ.out.2.2.2.2.2.1,HZ.out.2.2.2.2.2.2⟩
   ·go_simp
    have hbn:=(Below.refl V11.heap.size V11).alloc (Nat.le_refl _) (.cells #[.int .i64 0,.int .u32 0] 111)
    have hE:=Blk.new V11 111 #[.int .i64 0,.int .u32 0]
    obtain ⟨eb,hge⟩: ∃g,V11.heap.size=g:=⟨_,rfl⟩
    have heb:W0.heap.size<=eb:=by rw [<-hge];exact hH.size
    rw [hge]at hE
    try rw [hge]
    clear hge
    generalize V11.alloc (.cells #[.int .i64 0,.int .u32 0] 111)=V14 at hbn hE⊢
    replace hU:=hU.below hbn hU.lt
    replace hH:=step_below hH hbn
    clear hbn
    refine hK.out _ _ hH (fun _=>?_)
    clear hK K
    try simp only [Act.put,zA,zB,zC,zD,zE,zF]
    refine onlyG (i:=9) (by kernel_rfl) rfl (fun K hK=>?_)
    go_simp
    have hC:Calls Tryz.prog 128 #[.agg cs.toList.toArray] V14 _:=hCP V14
    with_reducible refine hC.mono ?_
    rintro e V15 ⟨cs2,hcs2,rfl,hbn⟩
    clear hC
    replace hU:=hU.below hbn hU.lt
    replace hE:=hE.below hbn hE.lt
    replace hH:=step_below hH hbn
    clear hbn
    refine hK.out _ _ hH (fun _=>?_)
    clear hK K
    try simp only [Act.put,zA,zB,zC,zD,zE,zF]
    refine takeA (i:=10) (v:= .tuple #[.agg (entCells x),.agg cs2,.bool ok]) rfl hH ?_
    simp only [Act.put,zA,zB,zC,zD,zE,zF]
    refine takeA (i:=11) (v:= .agg (entCells x)) rfl hH ?_
    simp only [Act.put,zA,zB,zC,zD,zE,zF]
    refine takeA (i:=12) (v:= .agg cs2) rfl hH ?_
    simp only [Act.put,zA,zB,zC,zD,zE,zF]
    refine takeA (i:=13) (v:= .bool ok) rfl hH ?_
    simp only [Act.put,zA,zB,zC,zD,zE,zF]
    refine onlyG (i:=16) (by kernel_rfl) rfl (fun K hK=>?_)
    refine step_store_row rfl 111 (.tmp 2) (.tmp 16) rfl _ rfl (entCells x) rfl 111 _ hE rfl (by show _=some 2;kernel_rfl) (ent_all x) ?_
    intro W8 hE8 hg8
    have hU8:=hU.grown hg8 (fun e=>hU.ne hE (by decide) (Option.some.inj e))
    have hH8:=below_row hH hg8 hH.size heb
    refine hK.out _ _ hH8 (fun _=>?_)
    clear hK K
    try simp only [Act.put,zA,zB,zC,zD,zE,zF]
    refine onlyG (i:=17) (by kernel_rfl) rfl (fun K hK=>?_)
    refine step_store_row rfl 114 (.tmp 3) (.tmp 17) rfl _ rfl cs2 rfl 114 _ hU8 (by rw [hcs2.size];rfl) hcs2.info hcs2.all ?_
    intro W9 hU9 hg9
    have hE9:=hE8.grown hg9 (fun e=>hE8.ne hU8 (by decide) (Option.some.inj e))
    have hH9:=below_row hH8 hg9 hH8.size hbb
    refine hK.out _ _ hH9 (fun _=>?_)
    clear hK K
    try simp only [Act.put,zA,zB,zC,zD,zE,zF]
    have HZ:=Lib.hid (And.intro hcs2 (And.intro hE9 (And.intro hU9 (And.intro (HF.out.1.below hH9 HF.out.2.2.2.1) (And.intro (Nat.le_trans HAL.out.size heb) (And.intro (Nat.le_trans HAL.out.size hbb) (step_belowN HAL.out hH9 HAL.out.size)))))))
    clear hcs2 hE hU hE8 hU8 hE9 hU9 hg8 hg9 hH hH8
    refine lastG (by kernel_rfl) rfl (by kernel_rfl) (fun K hK=>?_)
    go_simp
    refine hK.out _ _ ?_
    clear hK K hH9
    go_wp2_with fail
    go_meet
    case rel=>exact ⟨eb,bb,cs2,rfl,rfl,rfl,HZ.out.1,HZ.out.2.1,HZ.out.2.2.1,HZ.out.2.2.2.1,HZ.out.2.2.2.2.1,HZ.out.2.2.2.2.2.1,HZ.out.2.2.2.2.2.2⟩
 case rest=>
  obtain ⟨eb,bb,cs2,rfl,rfl,rfl,hcs2,hE,hU,hS,heb,hbb,hB2⟩:=hcut
  cases ok
  case false=>
   clear hE hU hS hcs2 hCP
   go_wp2
   exact bodyPost_ret (results_none rfl _ _ _) rfl ⟨⟨_,rfl⟩,by have e:=HIN.out.2.1;rw [e (by trivial)];exact HIN.out.1.idle hB2⟩
  case true=>
   obtain ⟨hx0,hx1,hfl⟩:=HIN.out.2.2.1 rfl
   have hX:MovesX tsoL B s own W wc [⟨eb,111,entCells x⟩,⟨bb,114,cs2⟩,⟨sb,161,#[.pointer (some ⟨B.mb,0,none⟩),.int .i64 (t:Int)]⟩]:=by
    refine ⟨own,HIN.out.1.below hB2,fun i hi=> .inl hi,KeepOut.of_below hB2,fun y hy=>?_⟩
    have hlt:=HIN.out.1.lt
    simp only [List.mem_cons,List.not_mem_nil,or_false]at hy
    rcases hy with rfl|rfl|rfl
    ·exact ⟨hE,fun e=>by have :=hlt _ e;dsimp only at this;omega,heb⟩
    ·exact ⟨hU,fun e=>by have :=hlt _ e;dsimp only at this;omega,hbb⟩
    ·exact ⟨hS,fun e=>by have :=hlt _ e;have h9:=HSB.out;dsimp only at this;omega,Nat.le_of_eq HSB.out⟩
   have HFL:=Lib.hid (And.intro hfl hcs2)
   clear hE hU hS hB2 heb hbb hfl hCP
   go_wp2
   replace hX:=hX.drew
   obtain ⟨own1,V1,bcs1,h1⟩:=hX.parts
   obtain ⟨g1,cap1,_,e1,_,_,_,_,_,_,hog1,_⟩:=h1.bufAt ht
   have c2:wc.drew.cell? ⟨B.mb,2,none⟩=some (.slice (some ⟨g1,0,none⟩) s.bufs.length cap1):=by rw [<-e1];exact h1.cell (j:=2) (by decide) rfl
   have hsb3:=hX.tail.tail.blk
   have hbb3:=hX.tail.blk
   have HG:=Lib.hid (And.intro c2 (And.intro hsb3 (And.intro hsb3.lt (And.intro hbb3 (And.intro hbb3.lt h1.blt)))))
   have HX:=Lib.hid hX
   clear h1 e1 hog1 c2 hsb3 hbb3 hX
   refine startG (fun W'=>Below wc.drew.heap.size wc.drew W') 9 (by kernel_rfl) ?_
   generalize wc.drew=W3 at HG HX⊢
   have hH:Below W3.heap.size W3 W3:=Below.refl _ _
   refine takeA (i:=0) (v:= .pointer (some ⟨sb,0,none⟩)) rfl hH ?_
   simp only [Act.put,zA,zB,zC,zD,zE,zF]
   refine takeT (i:=1) (v:= .pointer (some ⟨B.mb,0,none⟩)) rfl (by kernel_rfl) (by kernel_rfl) (by kernel_rfl) (by kernel_rfl) (fun _ _ _ h=>h) (Or.inl ⟨by rfl,fun W hW=>by have q0:=(HG.out.2.1.below hW HG.out.2.2.1).cell 0;go_simp⟩) hH ?_
   simp only [Act.put,zA,zB,zC,zD,zE,zF]
   refine takeA (i:=2) (v:= .pointer (some ⟨B.mb,0,none⟩)) rfl hH ?_
   simp only [Act.put,zA,zB,zC,zD,zE,zF]
   refine takeA (i:=3) (v:= .pointer (some ⟨B.mb,2,none⟩)) rfl hH ?_
   simp only [Act.put,zA,zB,zC,zD,zE,zF]
   refine takeT (i:=4) (v:= .slice (some ⟨g1,0,none⟩) s.bufs.length cap1) rfl (by kernel_rfl) (by kernel_rfl) (by kernel_rfl) (by kernel_rfl) (fun _ _ _ h=>h) (Or.inl ⟨by rfl,fun W hW=>by have q0:=keepAt hW HG.out.2.2.2.2.2 HG.out.1;go_simp⟩) hH ?_
   simp only [Act.put,zA,zB,zC,zD,zE,zF]
   refine takeA (i:=5) (v:= .pointer (some ⟨sb,1,none⟩)) rfl hH ?_
   simp only [Act.put,zA,zB,zC,zD,zE,zF]
   refine takeT (i:=6) (v:= .int .i64 (t:Int)) rfl (by kernel_rfl) (by kernel_rfl) (by kernel_rfl) (by kernel_rfl) (fun _ _ _ h=>h) (Or.inl ⟨by rfl,fun W hW=>by have q0:=(HG.out.2.1.below hW HG.out.2.2.1).cell 1;go_simp⟩) hH ?_
   simp only [Act.put,zA,zB,zC,zD,zE,zF]
   refine takeT (i:=7) (v:= .agg cs2) rfl (by kernel_rfl) (by kernel_rfl) (by kernel_rfl) (by kernel_rfl) (fun _ _ _ h=>h) (yields_row (by rfl) 114 (.tmp 3) rfl bb rfl cs2 (fun _ hS=>run_row _ _ _ _ _ _ (HG.out.2.2.2.1.below hS HG.out.2.2.2.2.1) Tryz.underlying114 rfl HFL.out.2.info)) hH ?_
   simp only [Act.put,zA,zB,zC,zD,zE,zF]
   refine takeA (i:=8) (v:= .pointer (some ⟨g1,t*35,none⟩)) rfl hH ?_
   simp only [Act.put,zA,zB,zC,zD,zE,zF]
   refine lastG (by kernel_rfl) rfl (by kernel_rfl) (fun K hK=>?_)
   have hMB: ∀own1,MInv tsoL B s own1 W3->Moves (MInv tsoL B) ({s with bufs:=s.bufs.set t rest}:Mst) own1 W3 (W3.setCells g1 (t*35) cs2.toList)/\W3.there g1 (t*35) 35:=fun own1 hI=>by
    obtain ⟨V',bcs',h'⟩:=hI
    obtain ⟨g',cap',_,e',_,_,_,_,hth',_,_,hput'⟩:=h'.bufAt ht
    have c2':W3.cell? ⟨B.mb,2,none⟩=some (.slice (some ⟨g',0,none⟩) s.bufs.length cap'):=by rw [<-e'];exact h'.cell (j:=2) (by decide) rfl
    have e:=Option.some.inj (HG.out.1.symm.trans c2')
    injection e with e _ _
    injection e with e
    injection e with e _ _
    subst e
    exact ⟨hput' cs2 rest HFL.out.2,hth'⟩
   obtain ⟨own3,hI3,ho3,hk3,_⟩:=id HX.out
   refine step_store_mid rfl 114 (.tmp 29) (.tmp 28) rfl g1 (t*35) cs2 rfl rfl (by rw [HFL.out.2.size];exact (hMB own3 hI3).2) HFL.out.2.info HFL.out.2.all ?_
   have hX:=HX.out.bind (fun own1 hI=>(hMB own1 hI).1)
   clear hI3 ho3 hk3 hMB HX HG hH
   refine hK.out _ _ ?_
   clear hK K
   generalize W3.setCells g1 (t*35) cs2.toList=W4 at hX⊢
   obtain ⟨s1,hs1⟩: ∃s1,({s with bufs:=s.bufs.set t rest}:Mst)=s1:=⟨_,rfl⟩
   rw [hs1]at hX
   have HS1:=Lib.hid hs1
   have hev1:s1.evs.length+1<=1000000000:=by rw [<-hs1];exact HIN.out.2.2.2
   have hmm:s1.mem=s.mem:=by rw [<-hs1]
   have hee:s1.evs=s.evs:=by rw [<-hs1]
   have HM1:=Lib.hid (And.intro hev1 (And.intro hmm hee))
   clear hs1 hev1 hmm hee
   obtain ⟨a,hxa⟩: ∃a:Nat,x.1=(a:Int):=⟨x.1.toNat,by omega⟩
   have ham:a<B.m:=by omega
   have ha0:(0:Int)<=(a:Int):=by omega
   have ha1:(a:Int)<(B.m:Int):=by omega
   obtain ⟨xv,hxv⟩: ∃xv,x.2=xv:=⟨_,rfl⟩
   have HXV:=Lib.hid (And.intro hxa hxv)
   clear hx0 hx1
   go_wp2
   replace hX:=hX.drew
   obtain ⟨own1,V1,bcs1,h1⟩:=hX.parts
   obtain ⟨g3,cap3,e3,_,_,q3,f3,_,_,_⟩:=h1.memAt ham
   have c3:W4.drew.cell? ⟨B.mb,3,none⟩=some (.slice (some ⟨g3,0,none⟩) B.m cap3):=by rw [<-e3];exact h1.cell (j:=3) (by decide) rfl
   have hsb3:=hX.tail.tail.blk
   have heb3:=hX.blk
   have y0:W4.drew.cell? ⟨eb,0,none⟩=some (.int .i64 (a:Int)):=(heb3.cell 0).trans (by rw [<-hxa];rfl)
   have y1:W4.drew.cell? ⟨eb,1,none⟩=some (.int .u32 xv):=(heb3.cell 1).trans (by rw [<-hxv];rfl)
   have HG:=Lib.hid (And.intro c3 (And.intro hsb3 (And.intro hsb3.lt (And.intro y0 (And.intro y1 (And.intro heb3.lt (And.intro h1.blt (And.intro q3 f3))))))))
   have HX:=Lib.hid hX
   clear h1 e3 c3 hsb3 heb3 y0 y1 q3 f3 hX hxa hxv
   refine startG (fun W'=>Below W4.drew.heap.size W4.drew W') 10 (by kernel_rfl) ?_
   generalize W4.drew=W5 at HG HX⊢
   have hH:Below W5.heap.size W5 W5:=Below.refl _ _
   refine takeA (i:=0) (v:= .pointer (some ⟨sb,0,none⟩)) rfl hH ?_
   simp only [Act.put,zA,zB,zC,zD,zE,zF]
   refine takeT (i:=1) (v:= .pointer (some ⟨B.mb,0,none⟩)) rfl (by kernel_rfl) (by kernel_rfl) (by kernel_rfl) (by kernel_rfl) (fun _ _ _ h=>h) (Or.inl ⟨by rfl,fun W hW=>by have q0:=(HG.out.2.1.below hW HG.out.2.2.1).cell 0;go_simp⟩) hH ?_
   simp only [Act.put,zA,zB,zC,zD,zE,zF]
   refine takeA (i:=2) (v:= .pointer (some ⟨B.mb,0,none⟩)) rfl hH ?_
   simp only [Act.put,zA,zB,zC,zD,zE,zF]
   refine takeA (i:=3) (v:= .pointer (some ⟨B.mb,3,none⟩)) rfl hH ?_
   simp only [Act.put,zA,zB,zC,zD,zE,zF]
   refine takeT (i:=4) (v:= .slice (some ⟨g3,0,none⟩) B.m cap3) rfl (by kernel_rfl) (by kernel_rfl) (by kernel_rfl) (by kernel_rfl) (fun _ _ _ h=>h) (Or.inl ⟨by rfl,fun W hW=>by have q0:=keepAt hW HG.out.2.2.2.2.2.2.1 HG.out.1;go_simp⟩) hH ?_
   simp only [Act.put,zA,zB,zC,zD,zE,zF]
   refine takeA (i:=5) (v:= .pointer (some ⟨eb,0,none⟩)) rfl hH ?_
   simp only [Act.put,zA,zB,zC,zD,zE,zF]
   refine takeT (i:=6) (v:= .int .i64 (a:Int)) rfl (by kernel_rfl) (by kernel_rfl) (by kernel_rfl) (by kernel_rfl) (fun _ _ _ h=>h) (Or.inl ⟨by rfl,fun W hW=>by have q0:=keepAt hW HG.out.2.2.2.2.2.1 HG.out.2.2.2.1;go_simp⟩) hH ?_
   simp only [Act.put,zA,zB,zC,zD,zE,zF]
   refine takeA (i:=7) (v:= .pointer (some ⟨eb,1,none⟩)) rfl hH ?_
   simp only [Act.put,zA,zB,zC,zD,zE,zF]
   refine takeT (i:=8) (v:= .int .u32 xv) rfl (by kernel_rfl) (by kernel_rfl) (by kernel_rfl) (by kernel_rfl) (fun _ _ _ h=>h) (Or.inl ⟨by rfl,fun W hW=>by have q0:=keepAt hW HG.out.2.2.2.2.2.1 HG.out.2.2.2.2.1;go_simp⟩) hH ?_
   simp only [Act.put,zA,zB,zC,zD,zE,zF]
   refine takeA (i:=9) (v:= .pointer (some ⟨g3,a,none⟩)) rfl hH ?_
   simp only [Act.put,zA,zB,zC,zD,zE,zF]
   refine lastG (by kernel_rfl) rfl (by kernel_rfl) (fun K hK=>?_)
   have q3:=HG.out.2.2.2.2.2.2.2.1
   have f3:=HG.out.2.2.2.2.2.2.2.2
   go_simp
   clear q3 f3
   have hX:=HX.out.bind (s':=({s1 with mem:=s1.mem.set a xv}:Mst)) (fun own1 hI=>by
    obtain ⟨V',bcs',h'⟩:=hI
    obtain ⟨g',cap',e',_,_,_,_,_,_,hput'⟩:=h'.memAt ham
    have c3':W5.cell? ⟨B.mb,3,none⟩=some (.slice (some ⟨g',0,none⟩) B.m cap'):=by rw [<-e'];exact h'.cell (j:=3) (by decide) rfl
    have e:=Option.some.inj (HG.out.1.symm.trans c3')
    injection e with e _ _
    injection e with e
    injection e with e _ _
    subst e
    exact hput' xv)
   clear HX HG hH
   refine hK.out _ _ ?_
   clear hK K
   generalize W5.setCell ⟨g3,a,none⟩ (.int .u32 xv)=W6 at hX⊢
   have s0:W6.cell? ⟨sb,0,none⟩=some (.pointer (some ⟨B.mb,0,none⟩)):=hX.tail.tail.blk.cell 0
   have s1':W6.cell? ⟨sb,1,none⟩=some (.int .i64 (t:Int)):=hX.tail.tail.blk.cell 1
   have y0:W6.cell? ⟨eb,0,none⟩=some (.int .i64 (a:Int)):=(hX.blk.cell 0).trans (by rw [<-HXV.out.1];rfl)
   have y1:W6.cell? ⟨eb,1,none⟩=some (.int .u32 xv):=(hX.blk.cell 1).trans (by rw [<-HXV.out.2];rfl)
   have hN:Calls Tryz.prog 77 #[.agg #[.pointer (some ⟨B.mb,0,none⟩),.int .i64 (t:Int)],.agg #[.int .i64 3,.int .i64 0,.int .i64 0,.int .i64 (a:Int),.int .u32 xv,.int .u32 0,.int .u32 0,.bool false]] W6 _:=hX.call (s':=noteM (t:Int) ({s1 with mem:=s1.mem.set a xv}:Mst) ⟨3,0,0,(a:Int),xv,0,0,false⟩) (R:=fun e=> ∃u,e= .returned u) (fun own1 h1=>tnote_any B _ own1 W6 h1 HM1.out.1 t ⟨3,0,0,(a:Int),xv,0,0,false⟩)
   clear hX
   go_wp2_with fail
   with_reducible refine hN.mono ?_
   rintro e W7 ⟨⟨u,rfl⟩,hX7⟩
   have HX7:=Lib.hid hX7
   clear hN hX7 s0 s1' y0 y1
   go_wp2
   go_end0
   refine ⟨⟨_,rfl⟩,?_⟩
   rw [HFL.out.1,HXV.out.1,HXV.out.2,Int.toNat_natCast]
   rw [show ({s with bufs:=s.bufs.set t rest,mem:=s.mem.set a xv,evs:=s.evs++[⟨3,(t:Int),0,(a:Int),xv,0,0,false⟩]}:Mst)=noteM (t:Int) ({s1 with mem:=s1.mem.set a xv}:Mst) ⟨3,0,0,(a:Int),xv,0,0,false⟩ from by rw [<-HS1.out];rfl]
   exact HX7.out.moves
theorem tflush_any (B:MB) (s:Mst) (own:Nat->Prop) (W:World) (hI:MInv tsoL B s own W) (hev:s.evs.length+1<=1000000000) (t:Nat) (ht:t<s.bufs.length) (hbuf: ∀b∈s.bufs,∀e∈b,0<=e.1/\e.1<(B.m:Int)):
 Calls Tryz.prog 75 #[.agg #[.pointer (some ⟨B.mb,0,none⟩),.int .i64 (t:Int)]] W fun e W'=>(∃u,e= .returned u)/\Moves (MInv tsoL B) (tflush t s) own W W':=by
 cases hb:s.bufs.getD t []with
 |nil=>
  refine tflush_gen B s own W hI hev t ht [] hb (0,0) [] false (fun cs W' h=>?_) (fun _=>tflush_nil hb) (fun h=>by cases h)
  exact (pop_none cs B.room h W').mono fun e w' ⟨h1,h2⟩=>⟨cs,h,h1,h2⟩
 |cons x l=>
  refine tflush_gen B s own W hI hev t ht (x::l) hb x l true (fun cs W' h=>pop_some cs x l B.room h W') (fun h=>by cases h) (fun _=>?_)
  have :=hbuf _ (getD_mem ht) x (by rw [hb];simp)
  exact ⟨this.1,this.2,tflush_cons hb⟩
theorem tflush_len (t:Nat) (s:Mst):((tflush t s).bufs.getD t []).length=(s.bufs.getD t []).length-1:=by
 cases hb:s.bufs.getD t []with
 |nil=>rw [tflush_nil hb,hb];rfl
 |cons x l=>
  have ht:t<s.bufs.length:=by
   rcases Nat.lt_or_ge t s.bufs.length with h1|h1
   ·exact h1
   ·rw [getD_nil_of_ge _ _ _ h1]at hb;cases hb
  rw [tflush_cons hb]
  show ((s.bufs.set t l).getD t []).length=_
  simp [List.getD_eq_getElem?_getD,List.getElem?_set_self ht]
set_option maxHeartbeats 4000000 in
theorem tremote_any (B:MB) (s:Mst) (own:Nat->Prop) (W:World) (hI:MInv tsoL B s own W) (hc:mCan B 1 s) (t:Nat):
 Calls Tryz.prog 161 #[.agg #[.pointer (some ⟨B.mb,0,none⟩),.int .i64 (t:Int)]] W fun e W'=>(∃u,e= .returned u)/\Moves (MInv tsoL B) (tremote s) own W W':=by
 have hX0:=(MovesX.start hI).alloc 161 #[.pointer (some ⟨B.mb,0,none⟩),.int .i64 (t:Int)]
 obtain ⟨sb,hsb⟩: ∃sb,W.heap.size=sb:=⟨_,rfl⟩
 rw [hsb]at hX0
 have s0:(W.alloc (.cells #[.pointer (some ⟨B.mb,0,none⟩),.int .i64 (t:Int)] 161)).cell? ⟨sb,0,none⟩=some (.pointer (some ⟨B.mb,0,none⟩)):=hX0.blk.cell 0
 obtain ⟨own1,V,bcs,h1⟩:=hX0.parts
 obtain ⟨bA,cap,e2,hgc,hgm⟩:=own_cap (h1.rows 2 (by decide))
 have ecn:cnt B s 2=s.bufs.length:=rfl
 rw [ecn]at e2 hgc
 have c2:(W.alloc (.cells #[.pointer (some ⟨B.mb,0,none⟩),.int .i64 (t:Int)] 161)).cell? ⟨B.mb,2,none⟩=some (.slice bA s.bufs.length cap):=by rw [<-e2];exact h1.cell (j:=2) (by decide) rfl
 unfold tremote
 obtain ⟨nb,hnb⟩: ∃nb,s.bufs.length=nb:=⟨_,rfl⟩
 rw [hnb]at c2 hgc⊢
 have hmx:nb≤9223372036854775807:=by have :maxLen≤9223372036854775807:=by decide
                                     omega
 have HX:=Lib.hid (And.intro hX0 (And.intro hc hnb))
 clear h1 e2 ecn hgc hgm hX0 hI hc hnb
 go_enter Tryz.func161,Tryz.ntmps161
 go_wp2_with fail
 try rw [hsb]
 clear hsb
 generalize (W.alloc (.cells #[.pointer (some ⟨B.mb,0,none⟩),.int .i64 (t:Int)] 161))=W1 at s0 c2 HX⊢
 go_wp2
 clear s0 c2
 go_loopw [2,3,10] (fun _ _ i wr=> ∃k:Nat,k<=nb/\i= .int .i64 (k:Int)/\MovesX tsoL B ((List.range k).foldl tdrain s) own W wr [⟨sb,161,#[.pointer (some ⟨B.mb,0,none⟩),.int .i64 (t:Int)]⟩]/\mCan B 1 ((List.range k).foldl tdrain s)/\Hid (((List.range k).foldl tdrain s).bufs.length=nb)) (fun _ _ i _=>nb-(intOf i).toNat)
 case atStart=>exact ⟨0,Nat.zero_le _,rfl,HX.out.1,HX.out.2.1,Lib.hid HX.out.2.2⟩
 case round=>
  obtain ⟨k,hk,rfl,hM,hcan,HNB⟩:=hrel
  by_cases hkn:k<nb
  ·have hk0:(0:Int)<=(k:Int):=by omega
   have hk1:(k:Int)<(nb:Int):=by omega
   have s0:wr.cell? ⟨sb,0,none⟩=some (.pointer (some ⟨B.mb,0,none⟩)):=hM.blk.cell 0
   have hsucc:(List.range (k+1)).foldl tdrain s=tdrain ((List.range k).foldl tdrain s) k:=by rw [List.range_succ,List.foldl_append];rfl
   obtain ⟨s1,hs1⟩: ∃s1,(List.range k).foldl tdrain s=s1:=⟨_,rfl⟩
   rw [hs1]at hM hcan HNB hsucc
   have hM2:=hM.alloc 161 #[.pointer (some ⟨B.mb,0,none⟩),.int .i64 (k:Int)]
   have HM:=Lib.hid (And.intro hM2 (And.intro hcan hsucc))
   have HK:=Lib.hid hkn
   clear hM hcan hM2 hs1 hsucc
   go_wp2_with fail
   obtain ⟨ob,hob⟩: ∃ob,wr.heap.size=ob:=⟨_,rfl⟩
   rw [hob]at HM
   try rw [hob]
   clear hob s0
   generalize wr.alloc (.cells #[.pointer (some ⟨B.mb,0,none⟩),.int .i64 (k:Int)] 161)=W2 at HM⊢
   obtain ⟨wo,rfl⟩: ∃wo:World,wo=wr:=⟨_,rfl⟩
   go_loopg [3] ((s1.bufs.getD k []).length) (fun gk o wr=> ∃(ob:Nat) (sj:Mst),o= .pointer (some ⟨ob,0,none⟩)/\MovesX tsoL B sj own W wr [⟨ob,161,#[.pointer (some ⟨B.mb,0,none⟩),.int .i64 (k:Int)]⟩,⟨sb,161,#[.pointer (some ⟨B.mb,0,none⟩),.int .i64 (t:Int)]⟩]/\Hid ((sj.bufs.getD k []).length=gk/\tflushN k gk sj=tdrain s1 k/\mCan B 1 sj/\sj.bufs.length=nb))
   case atStart=>exact ⟨ob,s1,rfl,HM.out.1,Lib.hid ⟨rfl,rfl,HM.out.2.1,HNB.out⟩⟩
   case round=>
    obtain ⟨ob,sj,rfl,hM,HJ⟩:=hrel
    have o0:wr.cell? ⟨ob,0,none⟩=some (.pointer (some ⟨B.mb,0,none⟩)):=hM.blk.cell 0
    have o1:wr.cell? ⟨ob,1,none⟩=some (.int .i64 (k:Int)):=hM.blk.cell 1
    have hE:Calls Tryz.prog 157 #[.agg #[.pointer (some ⟨B.mb,0,none⟩),.int .i64 (k:Int)]] wr _:=hM.call (s':=sj) (R:=fun e=>e= .returned (.bool (decide ((sj.bufs.getD k []).length=0)))) (fun own1 h1=>tempty_any B sj own1 wr h1 k (by rw [HJ.out.2.2.2];exact hkn) _ rfl)
    rw [HJ.out.1]at hE
    clear hM
    by_cases hg:gk=0
    ·subst hg
     rw [decide_eq_true rfl]at hE
     go_wp2_with fail
     with_reducible refine hE.mono ?_
     rintro e W3 ⟨rfl,hM3⟩
     have HM3:=Lib.hid hM3
     clear hE hM3 o0 o1
     go_wp2
     go_roundw
     case rel=>
      have e1:sj=tdrain s1 k:=HJ.out.2.1
      refine ⟨k+1,HK.out,by go_num,?_,?_,?_⟩
      ·rw [HM.out.2.2,<-e1];exact HM3.out.tail
      ·rw [HM.out.2.2,<-e1];exact HJ.out.2.2.1
      ·rw [HM.out.2.2,<-e1];exact Lib.hid HJ.out.2.2.2
     case measure=>
      have h9:=HK.out
      simp [intOf]
      omega
    ·rw [decide_eq_false hg]at hE
     go_wp2_with fail
     with_reducible refine hE.mono ?_
     rintro e W3 ⟨rfl,hM3⟩
     have o0:W3.cell? ⟨ob,0,none⟩=some (.pointer (some ⟨B.mb,0,none⟩)):=hM3.blk.cell 0
     have o1:W3.cell? ⟨ob,1,none⟩=some (.int .i64 (k:Int)):=hM3.blk.cell 1
     have hF:Calls Tryz.prog 75 #[.agg #[.pointer (some ⟨B.mb,0,none⟩),.int .i64 (k:Int)]] W3 _:=hM3.call (s':=tflush k sj) (R:=fun e=> ∃u,e= .returned u) (fun own1 h1=>tflush_any B sj own1 W3 h1 (by have :=HJ.out.2.2.1.evs;omega) k (by rw [HJ.out.2.2.2];exact hkn) HJ.out.2.2.1.buf)
     clear hE hM3
     go_wp2_with fail
     with_reducible refine hF.mono ?_
     rintro e W4 ⟨⟨u,rfl⟩,hM4⟩
     have o0:W4.cell? ⟨ob,0,none⟩=some (.pointer (some ⟨B.mb,0,none⟩)):=hM4.blk.cell 0
     have o1:W4.cell? ⟨ob,1,none⟩=some (.int .i64 (k:Int)):=hM4.blk.cell 1
     have HM5:=Lib.hid ((hM4.tail).alloc 161 #[.pointer (some ⟨B.mb,0,none⟩),.int .i64 (k:Int)])
     clear hF hM4
     go_wp2
     go_roundg (gk-1)
     case measure=>omega
     case rel=>
      refine ⟨_,tflush k sj,rfl,HM5.out,Lib.hid ⟨?_,?_,HJ.out.2.2.1.flush k,?_⟩⟩
      ·rw [tflush_len,HJ.out.1]
      ·have :=HJ.out.2.1
       rw [show gk=(gk-1)+1 by omega]at this
       exact this
      ·rw [(tflush_same k sj).2.2.2.1];exact HJ.out.2.2.2
  ·obtain rfl:nb=k:=by omega
   have hk1: ¬(nb:Int)<(nb:Int):=by omega
   have HM:=Lib.hid hM.moves
   clear hM
   go_wp2
   go_end0
   exact ⟨⟨_,rfl⟩,HM.out⟩
end Go.Proofs.YtmhfpjnkjlhbpaaGreatDoor
