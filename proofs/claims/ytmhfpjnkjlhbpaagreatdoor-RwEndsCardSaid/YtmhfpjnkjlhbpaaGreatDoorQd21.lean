/- tso.New. tso.Machine: Run, Events, Threads, Mem. -/
import Derived.Test.YtmhfpjnkjlhbpaaGreatDoorQd20
import Derived.Great.BuildSlice
namespace Go.Proofs.YtmhfpjnkjlhbpaaGreatDoor
open Go.ChangeShapes Go.WideShapes Go.ChangeAt Go.RowKit Go.Deep
set_option linter.unusedVariables false
set_option maxRecDepth 100000
set_option linter.unusedSimpArgs false
open List renaming getElem_toArray->zA,getElem_cons_zero->zB,getElem_cons_succ->zC,setIfInBounds_toArray->zD,set_cons_zero->zE,set_cons_succ->zF
def t0 (p:Pg):Mst:=⟨List.replicate p.n tha,List.replicate p.n [],(List.range p.m).map p.Z,[],[],0⟩
theorem fill_one {s:Nat} (hs:0<s) (cs zs:Array Value) (hc:cs.size=s) (hz:zs.size=s):Instr.fill (fun i=>some (i*s,s)) zs [(0,.agg cs)]=some cs:=by
 obtain ⟨r,h1,h2,h3⟩:=Great.fill_dense hs [Value.agg cs] 0 zs (fun v hv=>by rw [List.mem_singleton.1 hv];exact hc) (by simp [hz])
 have e:r=cs:=Array.ext_getElem? fun k=>by
  rw [h3 k]
  by_cases hk:k<s
  ·rw [if_pos (by simp;exact hk),Nat.div_eq_of_lt hk,Nat.mod_eq_of_lt hk]
   rfl
  ·rw [if_neg (by simp;omega),Array.getElem?_eq_none (by omega),Array.getElem?_eq_none (by omega)]
 subst e
 exact h1
theorem fill_at {s:Nat} (hs:0<s) (cs zs:Array Value) (hc:cs.size=s) (hz:zs.size=s) (l:List (Nat×Value)) (hl:l=[(0,.agg cs)]):Instr.fill (fun i=>some (i*s,s)) zs l=some cs:=by
 rw [hl];exact fill_one hs cs zs hc hz
theorem buf_info5:(Tryz.prog.info? 114).map (fun i=>(i.zero,i.size,i.bytes))=some (some (.agg #[.int .i64 0,.int .u32 0,.int .i64 0,.int .u32 0,.int .i64 0,.int .u32 0,.int .i64 0,.int .u32 0,.int .i64 0,.int .u32 0,.int .i64 0,.int .u32 0,.int .i64 0,.int .u32 0,.int .i64 0,.int .u32 0,.int .i64 0,.int .u32 0,.int .i64 0,.int .u32 0,.int .i64 0,.int .u32 0,.int .i64 0,.int .u32 0,.int .i64 0,.int .u32 0,.int .i64 0,.int .u32 0,.int .i64 0,.int .u32 0,.int .i64 0,.int .u32 0,.int .i64 0,.int .i64 0,.int .i64 0]),35,280):=by kernel_rfl
theorem newT_of (A:Option Addr) (n cap:Nat) (mA:Option Addr) (m mcap:Nat) (room:Int) (Z:Nat->Int) (N:Nat) (hN:2<=N) (M:Array Value) (hM:((List.replicate n tha).flatMap Th.cells).toArray=M) (tb:Nat) (htb:N<=tb) (hn:n<=8) (mvA:Option Addr) (mvc:Nat) {W:World}
 (hmr:W.ownsRow N 42 1 (.slice mvA m mvc) m ((List.range (m*1)).map fun i=> .int .u32 (Z i))) (hU:Blk W tb 124 M) (mb:Nat) (hmb:N<=mb)
 (hX:Blk W mb 109 #[.slice none 0 0,.slice (some ⟨tb,0,none⟩) n n,.slice none 0 0,.slice mvA m mvc,.slice none 0 0,.slice none 0 0]):
 MNew tsoL ⟨mb,[],room,m⟩ ⟨List.replicate n tha,[],(List.range m).map Z,[],[],0⟩ N W (fun j=>if j=1 then .slice (some ⟨tb,0,none⟩) n n else if j=3 then .slice mvA m mvc else .slice none 0 0) [] where
 hN:=hN
 mb:=hmb
 blk:=hX
 rows:=fun j hj=>by
  rcases (by omega:j=0∨j=1∨j=2∨j=3∨j=4∨j=5)with rfl|rfl|rfl|rfl|rfl|rfl
  ·exact ⟨rfl,.inl ⟨rfl,rfl⟩⟩
  ·have e1:(List.replicate n tha).length=n:=List.length_replicate
   show W.ownsRow N 124 10 (.slice (some ⟨tb,0,none⟩) n n) (List.replicate n tha).length ((List.replicate n tha).flatMap Th.cells)
   have hl:((List.replicate n tha).flatMap Th.cells).length=n*10:=by rw [flat_len Th.cells 10 th_len10,e1]
   rw [e1]
   exact ⟨hl,.inr ⟨tb,n,M,rfl,htb,hU,Nat.le_refl _,by unfold maxLen;omega,by rw [<-hM,List.size_toArray,hl],by rw [<-hM,List.take_of_length_le (by rw [hl];exact Nat.le_refl _)]⟩⟩
  ·exact ⟨rfl,.inl ⟨rfl,rfl⟩⟩
  ·show W.ownsRow N 42 1 (.slice mvA m mvc) ((List.range m).map Z).length (((List.range m).map Z).map fun z=> .int .u32 z)
   rw [List.length_map,List.length_range,List.map_map]
   rw [Nat.mul_one]at hmr
   exact hmr
  ·exact ⟨rfl,.inl ⟨rfl,rfl⟩⟩
  ·exact ⟨rfl,.inl ⟨rfl,rfl⟩⟩
 codes:=fun c hc=>by cases hc
 bufs:=⟨rfl,fun t ht=>absurd ht (by simp)⟩
 mem:=by show ((List.range m).map Z).length=m;simp
set_option maxHeartbeats 4000000 in
theorem tsoNew_ok (p:Pg) (ho:p.Ok) (t j:Int) (h:Chk p t j 0) (w:World) (ht:Tab w) (ha:p.At w):
 Calls Tryz.prog 16 #[p.val] w fun r w'=> ∃B,r= .returned (.tuple #[.pointer (some ⟨B.mb,0,none⟩),.int .i64 0])/\NewM p B/\B.room=p.room/\MInv tsoL B (t0 p) (fun i=>w.heap.size<=i/\i<w'.heap.size) w'/\Below w.heap.size w w':=by
 have hal:=(Below.refl w.heap.size w).alloc (Nat.le_refl _) (.cells #[.slice p.A p.n p.cap,.slice p.mA p.m p.mcap,.int .i64 p.room] 29)
 have cC:=check_any p ho t j 0 h _ (ht.step hal) (ha.step hal)
 have hq:=Blk.new w 29 #[.slice p.A p.n p.cap,.slice p.mA p.m p.mcap,.int .i64 p.room]
 have hsm:=h.small
 have hN:=ht.1
 have hw:=ha
 have HA:=Lib.hid ha
 clear h ht ha
 obtain ⟨A,n,cap,cd,mA,m,mcap,Z,room⟩:=p
 unfold Pg.val at cC⊢
 unfold t0
 dsimp only at*
 have hha:=hw.step hal
 obtain ⟨hcodes,hcode,hmem⟩:=hha
 dsimp only at hcodes hcode hmem
 obtain ⟨xb,hxb⟩: ∃xb,w.heap.size=xb:=⟨_,rfl⟩
 have HXB:=Lib.hid hxb
 have HO:=Lib.hid ho
 have HP:=Lib.hid (And.intro hcodes (And.intro hcode hmem))
 have HB:=Lib.hid hal
 have HSM:=Lib.hid hsm
 have HXN:=Lib.hid (show 2<=xb from by omega)
 obtain ⟨sm1,sm2,sm3,sm4,sm5,sm6⟩:=hsm
 rw [hxb]at hq
 clear hcodes hcode hmem hal ho hw sm6
 go_enter Tryz.func16,Tryz.ntmps16
 go_wp2_with (refine wpList_load_row rfl 29 (.tmp 1) rfl _ rfl 29 #[.slice A n cap,.slice mA m mcap,.int .i64 room] (0,0) _ (by rw [hxb];exact hq) Tryz.underlying29 rfl pgz_info ?_)
 try rw [hxb]
 refine cC.mono ?_
 rintro r w1 ⟨rfl,hb1⟩
 have hq1:=hq.below hb1 hq.lt
 have HW:=Lib.hid (And.intro (step_below HB.out hb1) (And.intro (HP.out.1.step hb1) (And.intro (fun t ht=>(HP.out.2.1 t ht).step hb1) (HP.out.2.2.step hb1))))
 clear cC hq hb1 HB HP hxb
 go_wp2_with fail
 obtain ⟨M,hM⟩: ∃M,((List.replicate n tha).flatMap Th.cells).toArray=M:=⟨_,rfl⟩
 have hmk: ∀w:World,(Instr.makeSlice 103 (.int .i64 (n:Int)) (.int .i64 (n:Int))).run Tryz.prog w= .ok (.slice (some ⟨w.heap.size,0,none⟩) n n) (w.alloc (.cells M 124)):=fun w=>hM▸makeT n (by omega) w
 have HM:=Lib.hid hM
 clear hM
 go_cut [7] (fun v wx=> ∃mb V,v= .pointer (some ⟨mb,0,none⟩)/\MNew tsoL ⟨mb,[],room,m⟩ ⟨List.replicate n tha,[],(List.range m).map Z,[],[],0⟩ xb wx V []/\Blk wx xb 29 #[.slice A n cap,.slice mA m mcap,.int .i64 room]/\mb≠xb/\Below xb w wx)
 case first=>
  obtain ⟨hB1,hcodes,hcode,hmem⟩:=HW.out
  have hq2:=hq1.drew
  have hmem2:Sl w1.drew mA m (fun i=> .int .u32 (Z i)):=hmem
  rw [HXB.out]at hB1
  have hB2:Below xb w w1.drew:=hB1.drew
  clear hcodes hcode hmem hB1 hq1
  refine startG (fun W'=>Below w1.drew.heap.size w1.drew W') 9 (by kernel_rfl) ?_
  generalize w1.drew=W0 at hq2 hmem2 hB2⊢
  have HF:=Lib.hid (And.intro hq2 (And.intro hq2.lt (And.intro hmem2 hB2)))
  have hH:Below W0.heap.size W0 W0:=Below.refl _ _
  clear hq2 hmem2 hB2
  refine takeA (i:=0) (v:= .pointer (some ⟨xb,1,none⟩)) rfl hH ?_
  simp only [Act.put,zA,zB,zC,zD,zE,zF]
  refine takeT (i:=1) (v:= .slice mA m mcap) rfl (by kernel_rfl) (by kernel_rfl) (by kernel_rfl) (by kernel_rfl) (fun _ _ _ h=>h) (Or.inl ⟨by rfl,fun W hW=>by have q0:=(HF.out.1.below hW HF.out.2.1).cell 1;go_simp⟩) hH ?_
  simp only [Act.put,zA,zB,zC,zD,zE,zF]
  refine takeA (i:=3) (v:= .pointer (some ⟨xb,0,none⟩)) rfl hH ?_
  simp only [Act.put,zA,zB,zC,zD,zE,zF]
  refine takeT (i:=4) (v:= .slice A n cap) rfl (by kernel_rfl) (by kernel_rfl) (by kernel_rfl) (by kernel_rfl) (fun _ _ _ h=>h) (Or.inl ⟨by rfl,fun W hW=>by have q0:=(HF.out.1.below hW HF.out.2.1).cell 0;go_simp⟩) hH ?_
  simp only [Act.put,zA,zB,zC,zD,zE,zF]
  refine takeA (i:=5) (v:= .int .i64 (n:Int)) rfl hH ?_
  simp only [Act.put,zA,zB,zC,zD,zE,zF]
  refine manyG (rs:=[2,6]) (by kernel_rfl) (by simp) (AllG.cons (i:=2) rfl (fun K hK=>?_) (AllG.cons (i:=6) rfl (fun K hK=>?_) AllG.nil))
  ·go_simp
   have hC:=clone_words mA m mcap (fun i=> .int .u32 (Z i)) W0 (pg_nonil HF.out.2.2.1) (by rw [Nat.mul_one];exact HF.out.2.2.1.below (Nat.le_refl _) hH) (fun k hk=>rfl) (by omega)
   with_reducible refine hC.mono ?_
   rintro e W5 ⟨mv,rfl,hmr,hbm⟩
   clear hC
   have hb5:Below W0.heap.size W0 W5:=hbm
   refine hK.out _ _ hb5 (fun _=>?_)
   clear hK K hbm hH
   try simp only [Act.put,zA,zB,zC,zD,zE,zF]
   refine onlyG (i:=6) (by kernel_rfl) rfl (fun K hK=>?_)
   go_simp
   have hb6:=hb5.alloc hb5.size (.cells M 124)
   have hU:=Blk.new W5 124 M
   obtain ⟨tb,htb⟩: ∃tb,W5.heap.size=tb:=⟨_,rfl⟩
   have htl:W0.heap.size<=tb:=by rw [<-htb];exact hb5.size
   rw [htb]at hU
   try rw [htb]
   clear htb
   have hmr2:=own_below hmr (Nat.le_refl _) ((Below.refl W5.heap.size W5).alloc (Nat.le_refl _) (.cells M 124))
   refine hK.out _ _ hb6 (fun _=>?_)
   clear hK K hmr hb5
   try simp only [Act.put,zA,zB,zC,zD,zE,zF]
   generalize W5.alloc (.cells M 124)=W6 at hb6 hU hmr2⊢
   have hmr:=hmr2
   clear hmr2
   obtain ⟨mvA,mvc,rfl,_,_⟩:=own_sl hmr
   refine takeA (i:=7) (v:= .agg #[.slice none 0 0,.slice (some ⟨tb,0,none⟩) n n,.slice none 0 0,.slice mvA m mvc,.slice none 0 0,.slice none 0 0]) rfl hb6 ?_
   simp only [Act.put,zA,zB,zC,zD,zE,zF]
   refine onlyG (i:=8) (by kernel_rfl) rfl (fun K hK=>?_)
   go_simp
   have hb9:=hb6.alloc hb6.size (.cells #[.slice none 0 0,.slice (some ⟨tb,0,none⟩) n n,.slice none 0 0,.slice mvA m mvc,.slice none 0 0,.slice none 0 0] 109)
   have hal:=(Below.refl W6.heap.size W6).alloc (Nat.le_refl _) (.cells #[.slice none 0 0,.slice (some ⟨tb,0,none⟩) n n,.slice none 0 0,.slice mvA m mvc,.slice none 0 0,.slice none 0 0] 109)
   have hX:=Blk.new W6 109 #[.slice none 0 0,.slice (some ⟨tb,0,none⟩) n n,.slice none 0 0,.slice mvA m mvc,.slice none 0 0,.slice none 0 0]
   obtain ⟨mb,hmb⟩: ∃mb,W6.heap.size=mb:=⟨_,rfl⟩
   have hml:xb<=mb/\mb≠xb:=by have h1:=HF.out.2.1;have h2:=hb6.size;omega
   rw [hmb]at hX
   try rw [hmb]
   have hU9:=hU.below hal hU.lt
   have hmr9:=own_below hmr (Nat.le_refl _) hal
   have hNN:=HXN.out
   have HQ:=Lib.hid (newT_of A n cap mA m mcap room Z xb hNN M HM.out tb (by have :=HF.out.2.1;omega) sm2 mvA mvc (own_base hmr9 (by have :=HF.out.2.1;omega)) hU9 mb hml.1 hX)
   have HZ:=Lib.hid (And.intro (HF.out.1.below hb9 HF.out.2.1) (step_belowN HF.out.2.2.2 hb9 (Nat.le_of_lt HF.out.2.1)))
   refine hK.out _ _ hb9 (fun _=>?_)
   clear hK K hal hX hU hmr hU9 hmr9 hb9 hmb
   try simp only [Act.put,zA,zB,zC,zD,zE,zF]
   refine lastG (by kernel_rfl) rfl (by kernel_rfl) (fun K hK=>?_)
   go_simp
   refine hK.out _ _ ?_
   clear hK K
   go_wp2_with fail
   go_meet
   case rel=>exact ⟨mb,_,rfl,HQ.out,HZ.out.1,hml.2,HZ.out.2⟩
  ·go_simp
   have hb5:=hH.alloc hH.size (.cells M 124)
   have hU:=Blk.new W0 124 M
   obtain ⟨tb,htb⟩: ∃tb,W0.heap.size=tb:=⟨_,rfl⟩
   have htl:W0.heap.size<=tb:=by rw [<-htb];exact hH.size
   rw [htb]at hU
   try rw [htb]
   clear htb
   refine hK.out _ _ hb5 (fun _=>?_)
   clear hK K hH
   try simp only [Act.put,zA,zB,zC,zD,zE,zF]
   generalize W0.alloc (.cells M 124)=W5 at hb5 hU⊢
   refine onlyG (i:=2) (by kernel_rfl) rfl (fun K hK=>?_)
   go_simp
   have hC:=clone_words mA m mcap (fun i=> .int .u32 (Z i)) W5 (pg_nonil HF.out.2.2.1) (by rw [Nat.mul_one];exact HF.out.2.2.1.below (Nat.le_refl _) hb5) (fun k hk=>rfl) (by omega)
   with_reducible refine hC.mono ?_
   rintro e W6 ⟨mv,rfl,hmr,hbm⟩
   clear hC
   have hb6:Below W0.heap.size W0 W6:=step_below hb5 hbm
   have hU2:=hU.below hbm hU.lt
   have hmr2:=own_base hmr hb5.size
   refine hK.out _ _ hb6 (fun _=>?_)
   clear hK K hbm hU hmr hb5
   try simp only [Act.put,zA,zB,zC,zD,zE,zF]
   have hU:=hU2
   have hmr:=hmr2
   clear hU2 hmr2
   obtain ⟨mvA,mvc,rfl,_,_⟩:=own_sl hmr
   refine takeA (i:=7) (v:= .agg #[.slice none 0 0,.slice (some ⟨tb,0,none⟩) n n,.slice none 0 0,.slice mvA m mvc,.slice none 0 0,.slice none 0 0]) rfl hb6 ?_
   simp only [Act.put,zA,zB,zC,zD,zE,zF]
   refine onlyG (i:=8) (by kernel_rfl) rfl (fun K hK=>?_)
   go_simp
   have hb9:=hb6.alloc hb6.size (.cells #[.slice none 0 0,.slice (some ⟨tb,0,none⟩) n n,.slice none 0 0,.slice mvA m mvc,.slice none 0 0,.slice none 0 0] 109)
   have hal:=(Below.refl W6.heap.size W6).alloc (Nat.le_refl _) (.cells #[.slice none 0 0,.slice (some ⟨tb,0,none⟩) n n,.slice none 0 0,.slice mvA m mvc,.slice none 0 0,.slice none 0 0] 109)
   have hX:=Blk.new W6 109 #[.slice none 0 0,.slice (some ⟨tb,0,none⟩) n n,.slice none 0 0,.slice mvA m mvc,.slice none 0 0,.slice none 0 0]
   obtain ⟨mb,hmb⟩: ∃mb,W6.heap.size=mb:=⟨_,rfl⟩
   have hml:xb<=mb/\mb≠xb:=by have h1:=HF.out.2.1;have h2:=hb6.size;omega
   rw [hmb]at hX
   try rw [hmb]
   have hU9:=hU.below hal hU.lt
   have hmr9:=own_below hmr (Nat.le_refl _) hal
   have hNN:=HXN.out
   have HQ:=Lib.hid (newT_of A n cap mA m mcap room Z xb hNN M HM.out tb (by have :=HF.out.2.1;omega) sm2 mvA mvc (own_base hmr9 (by have :=HF.out.2.1;omega)) hU9 mb hml.1 hX)
   have HZ:=Lib.hid (And.intro (HF.out.1.below hb9 HF.out.2.1) (step_belowN HF.out.2.2.2 hb9 (Nat.le_of_lt HF.out.2.1)))
   refine hK.out _ _ hb9 (fun _=>?_)
   clear hK K hal hX hU hmr hU9 hmr9 hb9 hmb
   try simp only [Act.put,zA,zB,zC,zD,zE,zF]
   refine lastG (by kernel_rfl) rfl (by kernel_rfl) (fun K hK=>?_)
   go_simp
   refine hK.out _ _ ?_
   clear hK K
   go_wp2_with fail
   go_meet
   case rel=>exact ⟨mb,_,rfl,HQ.out,HZ.out.1,hml.2,HZ.out.2⟩
 case rest=>
  obtain ⟨mb,V,rfl,hM0,hq0,hmx,hB0⟩:=hcut
  have a0:wc.cell? ⟨xb,0,none⟩=some (.slice A n cap):=hq0.cell 0
  have H0:=Lib.hid (And.intro hM0 (And.intro hq0 hB0))
  have hBW:=Lib.hid HW.out.1
  clear hM0 hq0 hB0 hq1 HW hmk HM
  go_wp2_with fail
  go_loopw [33] (fun i wr=> ∃(k:Nat) (cds:List Cd) (V:Nat->Value) (bcs:List (Array Value)),k<=n/\i= .int .i64 (k:Int)/\MNew tsoL ⟨mb,cds,room,m⟩ ⟨List.replicate n tha,List.replicate k [],(List.range m).map Z,[],[],0⟩ xb wr V bcs/\cds.length=k/\Hid (∀t,t<k->(cds.getD t cdd).len=(cd t).len/\(cds.getD t cdd).F=(cd t).F/\(cds.getD t cdd).Ok)/\Below xb w wr/\Blk wr xb 29 #[.slice A n cap,.slice mA m mcap,.int .i64 room]) (fun i _=>n-(intOf i).toNat)
  case atStart=>exact ⟨0,[],V,[],Nat.zero_le _,rfl,H0.out.1,rfl,Lib.hid (fun t ht=>absurd ht (by omega)),H0.out.2.2,H0.out.2.1⟩
  case round=>
   obtain ⟨k,cds,V1,bcs1,hk,rfl,hM1,hcl,HC1,hB1,hQ1⟩:=hrel
   by_cases hkn:k<n
   ·have hk0:(0:Int)<=(k:Int):=by omega
    have hk1:(k:Int)<(n:Int):=by omega
    have hcodes:=HA.out.codes
    have hcodek:=HA.out.code k hkn
    have hoc:=HO.out.cds k hkn
    have hsm6:=HSM.out.2.2.2.2.2 k hkn
    dsimp only at hcodes hcodek hoc hsm6
    obtain ⟨b,off,rfl,hlt,hcc⟩:=hcodes (by omega)
    rw [HXB.out]at hlt
    have hck:wr.cell? ⟨b,off+k,none⟩=some (cd k).val:=(hB1.cell (p:=⟨b,_,none⟩) hlt).trans (hcc k hkn)
    have hat:(cd k).At wr:=by
     have :=hcodek.below (B:=xb) (by rw [HXB.out];exact Nat.le_refl _) hB1
     exact this
    obtain ⟨cdk,hcdk⟩: ∃c,cd k=c:=⟨_,rfl⟩
    have HCD:=Lib.hid hcdk
    rw [hcdk]at hck hat hoc hsm6
    obtain ⟨cA,cl,cc,cF⟩:=cdk
    unfold Cd.val at hck
    dsimp only at hck hsm6
    have HR:=Lib.hid (And.intro hM1 (And.intro hB1 (And.intro hat (And.intro hoc (And.intro hcl hQ1)))))
    clear hcodes hcodek hcc hM1 hB1 hat hoc hcl hcdk hQ1
    have hq8:=HR.out.2.2.2.2.2
    have x2:wr.cell? ⟨xb,2,none⟩=some (.int .i64 room):=hq8.cell 2
    have hN:Calls Tryz.prog 44 #[.int .i64 room] wr _:=new_any room wr
    rw [if_pos ⟨sm4,sm5⟩,if_pos ⟨sm4,sm5⟩]at hN
    go_wp2_with fail
    with_reducible refine hN.mono ?_
    rintro e W3 ⟨rfl,hb3⟩
    obtain ⟨bs,hbs⟩: ∃cs,emptyCells room=cs:=⟨_,rfl⟩
    have hbuf:Buf bs [] room:=hbs▸empty_buf room (by omega) (by omega)
    rw [hbs]
    have hal3:=(Below.refl wr.heap.size wr).trans (hb3.alloc hb3.size (.cells #[.int .i64 0,.int .u32 0,.int .i64 0,.int .u32 0,.int .i64 0,.int .u32 0,.int .i64 0,.int .u32 0,.int .i64 0,.int .u32 0,.int .i64 0,.int .u32 0,.int .i64 0,.int .u32 0,.int .i64 0,.int .u32 0,.int .i64 0,.int .u32 0,.int .i64 0,.int .u32 0,.int .i64 0,.int .u32 0,.int .i64 0,.int .u32 0,.int .i64 0,.int .u32 0,.int .i64 0,.int .u32 0,.int .i64 0,.int .u32 0,.int .i64 0,.int .u32 0,.int .i64 0,.int .i64 0,.int .i64 0] 114))
    have hX:=Blk.new W3 114 #[.int .i64 0,.int .u32 0,.int .i64 0,.int .u32 0,.int .i64 0,.int .u32 0,.int .i64 0,.int .u32 0,.int .i64 0,.int .u32 0,.int .i64 0,.int .u32 0,.int .i64 0,.int .u32 0,.int .i64 0,.int .u32 0,.int .i64 0,.int .u32 0,.int .i64 0,.int .u32 0,.int .i64 0,.int .u32 0,.int .i64 0,.int .u32 0,.int .i64 0,.int .u32 0,.int .i64 0,.int .u32 0,.int .i64 0,.int .u32 0,.int .i64 0,.int .u32 0,.int .i64 0,.int .i64 0,.int .i64 0]
    obtain ⟨bb,hbb⟩: ∃bb,W3.heap.size=bb:=⟨_,rfl⟩
    rw [hbb]at hX
    have hbw:wr.heap.size<=bb:=by rw [<-hbb];exact hb3.size
    have HBF:=Lib.hid hbuf
    have HBS:=Lib.hid hbs
    clear hq8 x2 hN hck
    go_upto_region 9 with (refine wpList_store_row rfl 114 (.tmp 10) (.tmp 41) rfl _ rfl bs rfl 114 _ hX hbuf.size35 hbuf.info hbuf.all ?_;intro W4 hb4 hg4)
    have hB4:Below wr.heap.size wr W4:=below_row hal3 hg4 hal3.size hbw
    have hM4:=HR.out.1.below hB4
    have hOB:=fun g hg=>own_in (HR.out.1.rows 2 (by decide)) g hg
    have hQ4:=HR.out.2.2.2.2.2.below hB4 HR.out.2.2.2.2.2.lt
    have hat4:(⟨cA,cl,cc,cF⟩:Cd).At W4:=HR.out.2.2.1.step hB4
    have hxw:xb<=wr.heap.size:=Nat.le_of_lt HR.out.2.2.2.2.2.lt
    have hB5:=step_belowN HR.out.2.1 hB4 hxw
    have hoc:=HR.out.2.2.2.1
    have hcl:=HR.out.2.2.2.2.1
    have HOB:=Lib.hid (show∀g,(V1 2).ownBlock=some g->g<bb from fun g hg=>Nat.lt_of_lt_of_le (hOB g hg).2 hbw)
    have hxb2:xb≠bb/\mb≠bb:=by
     have h1:=HR.out.2.2.2.2.2.lt
     have h2:=HR.out.1.blk.lt
     dsimp only at h2
     omega
    have HNE:=Lib.hid (And.intro hxb2.1 (And.intro hxb2.2 hmx))
    clear hb3 hbs hal3 hX hbb hbw hg4 hB4 hOB hxb2 HR
    have hr0:W4.ownsRow xb 50 1 (V1 0) cds.length (cds.map Cd.val):=hM4.rows 0 (by decide)
    obtain ⟨vA,vc,ev,_,hvm⟩:=own_cap hr0
    have hc0:W4.cell? ⟨mb,0,none⟩=some (V1 0):=(hM4.blk.cell 0).trans rfl
    rw [ev,hcl]at hc0
    obtain ⟨i0,hi,hy0,hy1,hy2⟩:=info_parts slc_info5
    have HR:=Lib.hid (And.intro hM4 (And.intro hB5 (And.intro hat4 (And.intro hoc (And.intro hcl (And.intro hQ4 hb4))))))
    have HEV:=Lib.hid (show V1 0= .slice vA k vc from by rw [ev,hcl])
    clear hM4 hB5 hat4 hoc hcl hr0 ev hQ4 hb4 hxw hmx
    refine startG (fun W'=>W'.cell? ⟨mb,0,none⟩=some (.slice vA k vc)) 11 (by kernel_rfl) ?_
    have hc0':W4.drew.cell? ⟨mb,0,none⟩=some (.slice vA k vc):=hc0
    have HRM:=Lib.hid (HR.out.1.below (W':=W4.drew) (below_drew W4))
    have HRB:=Lib.hid (show Below xb w W4.drew from HR.out.2.1.drew)
    have HRA:=Lib.hid (show (⟨cA,cl,cc,cF⟩:Cd).At W4.drew from HR.out.2.2.1)
    have HRQ:=Lib.hid (And.intro HR.out.2.2.2.2.2.1.drew HR.out.2.2.2.2.2.2.drew)
    clear hc0
    generalize W4.drew=W0 at hc0' HRM HRB HRA HRQ⊢
    refine takeA (i:=0) (v:= .pointer (some ⟨mb,0,none⟩)) rfl hc0' ?_
    simp only [Act.put,zA,zB,zC,zD,zE,zF]
    refine takeA (i:=1) (v:= .pointer (some ⟨mb,0,none⟩)) rfl hc0' ?_
    simp only [Act.put,zA,zB,zC,zD,zE,zF]
    refine takeA (i:=2) (v:= .pointer (some ⟨mb,0,none⟩)) rfl hc0' ?_
    simp only [Act.put,zA,zB,zC,zD,zE,zF]
    refine takeA (i:=3) (v:= .pointer (some ⟨mb,0,none⟩)) rfl hc0' ?_
    simp only [Act.put,zA,zB,zC,zD,zE,zF]
    refine takeT (i:=4) (v:= .slice vA k vc) rfl (by kernel_rfl) (by kernel_rfl) (by kernel_rfl) (by kernel_rfl) (fun _ _ _ h=>h) (Or.inl ⟨by rfl,fun W hW=>by have q0:=hW;go_simp⟩) hc0' ?_
    simp only [Act.put,zA,zB,zC,zD,zE,zF]
    refine takeA (i:=5) (v:= .slice cA cl cc) rfl hc0' ?_
    simp only [Act.put,zA,zB,zC,zD,zE,zF]
    refine onlyG (i:=6) (by kernel_rfl) rfl (fun K hK=>?_)
    go_simp
    have hC:=clone_instrs cA cl cc _ W0 (pge_nonil HRA.out) (slE_sl (fun i=>(cF i).cells) (fun _=>rfl) HRA.out) (fun q hq=>ins_one cF cl q hq) (by omega)
    with_reducible refine hC.mono ?_
    rintro e W5 ⟨nv,rfl,hnr,hbn⟩
    clear hC
    rw [range_getD _ (cl*5) (flat_len (fun i=>(cF i).cells) 5 (fun _=>rfl) (List.range cl)|>.trans (by rw [List.length_range]))]at hnr
    obtain ⟨nA,nc,rfl,hnc,_⟩:=own_sl hnr
    have hxw:xb<=W0.heap.size:=by have h1:=HRM.out.blk.lt;have h2:=HRM.out.mb;omega
    have HM5:=Lib.hid (HRM.out.below hbn)
    have HB5:=Lib.hid (step_belowN HRB.out hbn hxw)
    have HC5:=Lib.hid (own_base hnr hxw)
    have HQ5:=Lib.hid (And.intro (HRQ.out.1.below hbn HRQ.out.1.lt) (HRQ.out.2.below hbn HRQ.out.2.lt))
    have hc5:W5.cell? ⟨mb,0,none⟩=some (.slice vA k vc):=(hbn.cell (p:=⟨mb,0,none⟩) HRM.out.blk.lt).trans hc0'
    refine hK.out _ _ hc5 (fun _=>?_)
    clear hK K hnr hbn hc0' HRM HRB HRA HRQ hxw
    try simp only [Act.put,zA,zB,zC,zD,zE,zF]
    refine onlyG (i:=7) (by kernel_rfl) rfl (fun K hK=>?_)
    go_simp
    have hal:=(Below.refl W5.heap.size W5).alloc (Nat.le_refl _) (.cells #[.slice nA cl nc] 50)
    have HM6:=Lib.hid (HM5.out.below hal)
    have HB6:=Lib.hid (step_belowN HB5.out hal (by have h1:=HM5.out.blk.lt;have h2:=HM5.out.mb;omega))
    have HC6:=Lib.hid (own_below HC5.out (Nat.le_refl _) hal)
    have HQ6:=Lib.hid (And.intro (HQ5.out.1.below hal HQ5.out.1.lt) (HQ5.out.2.below hal HQ5.out.2.lt))
    have src:=sl_new W5 50 [.slice nA cl nc]
    have hc6:(W5.alloc (.cells #[.slice nA cl nc] 50)).cell? ⟨mb,0,none⟩=some (.slice vA k vc):=(hal.cell (p:=⟨mb,0,none⟩) HM5.out.blk.lt).trans hc5
    refine hK.out _ _ hc6 (fun _=>?_)
    clear hK K hal hc5
    try simp only [Act.put,zA,zB,zC,zD,zE,zF]
    have own2':=own2_of HM6.out HEV.out HR.out.2.2.2.2.1
    have hone: ∀q,q<1*1->([Value.slice nA cl nc].getD q undef).oneCell'=true:=fun q hq=>by
     obtain rfl:q=0:=by omega
     rfl
    refine onlyG (i:=8) (by kernel_rfl) rfl (fun K hK=>?_)
    rw [if_pos (by rfl)]
    refine wp_append_sl _ (.tmp 47) (.tmp 50) 26 rfl xb 50 i0 _ 1 24 Tryz.underlying26 hi hy0 hy1 hy2 rfl (by omega) _ k _ rfl own2' _ 1 _ (fun i=>[Value.slice nA cl nc].getD i undef) rfl src hone (by unfold maxLen;omega) (by omega) (by have h1:=HM6.out.blk.lt;have h2:=HM6.out.mb;omega) ?_
    intro v4 W8 own4 hg4 _
    rw [range_getD [Value.slice nA cl nc] (1*1) rfl]at own4
    have hb4:=HM6.out.blk.grown hg4 (row_ne HM6.out.blk own2' (tsoL.ne 0 (by decide)))
    have hc4:W8.cell? ⟨mb,0,none⟩=some (.slice vA k vc):=(hb4.cell 0).trans (by rw [<-HEV.out];rfl)
    have f4:=hb4.frozen 0
    have HN4:=Lib.hid (HM6.out.addCode rfl (c:=⟨nA,cl,nc,cF⟩) HC6.out (v':=v4) (W4:=W8) (by rw [HEV.out];exact hg4) (by rw [HR.out.2.2.2.2.1];exact own4))
    have HB4:=Lib.hid (HB6.out.grown hg4 (by have h1:=HM6.out.blk.lt;have h2:=HM6.out.mb;omega) (fun q hq=>own_ge own2' q hq))
    have HQ4:=Lib.hid (And.intro (HQ6.out.1.grown hg4 (row_ne HQ6.out.1 own2' (by decide))) (HQ6.out.2.grown hg4 (row_ne HQ6.out.2 own2' (by decide))))
    obtain ⟨v4A,v4c,rfl,_,hv4⟩:=own_cap own4
    refine hK.out _ _ hc4 (fun _=>?_)
    clear hK K src hc6 own2' own4 hg4
    try simp only [Act.put,zA,zB,zC,zD,zE,zF]
    refine takeA (i:=9) (v:= .pointer (some ⟨mb,0,none⟩)) rfl hc4 ?_
    simp only [Act.put,zA,zB,zC,zD,zE,zF]
    refine takeA (i:=10) (v:= .pointer (some ⟨mb,0,none⟩)) rfl hc4 ?_
    simp only [Act.put,zA,zB,zC,zD,zE,zF]
    refine lastG (by kernel_rfl) rfl (by kernel_rfl) (fun K hK=>?_)
    go_simp
    clear f4 hc4 hb4
    have HB7:=Lib.hid (HB4.out.setCell (p:=⟨mb,0,none⟩) HM6.out.mb (.slice v4A (k+1) v4c))
    have HQ7:=Lib.hid (And.intro (HQ4.out.1.grown (show W8.grownBy (W8.setCell ⟨mb,0,none⟩ (.slice v4A (k+1) v4c)) (some mb) from set_only _) (by have h3:=HNE.out.2.2;intro e;injection e with e;omega)) (HQ4.out.2.grown (show W8.grownBy (W8.setCell ⟨mb,0,none⟩ (.slice v4A (k+1) v4c)) (some mb) from set_only _) (by have h3:=HNE.out.2.1;intro e;injection e with e;omega)))
    have HN7:=Lib.hid (show MNew tsoL ⟨mb,cds++[⟨nA,cl,nc,cF⟩],room,m⟩ ⟨List.replicate n tha,List.replicate k [],(List.range m).map Z,[],[],0⟩ xb (W8.setCell ⟨mb,0,none⟩ (.slice v4A (k+1) v4c)) (updV V1 0 (.slice v4A (k+1) v4c)) bcs1 from HN4.out)
    have HCR:=Lib.hid (And.intro HR.out.2.2.2.1 (And.intro HR.out.2.2.2.2.1 (And.intro hnc (own_capm HC6.out))))
    refine hK.out _ _ ?_
    clear hK K HN4 HB4 HQ4 HM6 HB6 HC6 HQ6 HM5 HB5 HC5 HQ5 HR hi hy0 hy1 hy2 hone
    generalize W8.setCell ⟨mb,0,none⟩ (.slice v4A (k+1) v4c)=W9 at HB7 HQ7 HN7⊢
    obtain ⟨V2,hV2⟩: ∃V,updV V1 0 (.slice v4A (k+1) v4c)=V:=⟨_,rfl⟩
    have hV22:V2 2=V1 2:=by rw [<-hV2];rfl
    rw [hV2]at HN7
    clear hV2
    rw [<-hV22]at HOB
    clear hV22 HEV
    skip
    have hr2:W9.ownsRow xb 114 35 (V2 2) (List.replicate k ([]:List Ent)).length (bcs1.flatMap Array.toList):=HN7.out.rows 2 (by decide)
    rw [List.length_replicate]at hr2
    obtain ⟨uA,uc,eu,_,hum⟩:=own_cap hr2
    have hc2:W9.cell? ⟨mb,2,none⟩=some (V2 2):=(HN7.out.blk.cell 2).trans rfl
    rw [eu]at hc2
    have HEU:=Lib.hid eu
    clear hr2 eu
    go_upto_region 10 with fail
    obtain ⟨i1,hj,hz0,hz1,hz2⟩:=info_parts buf_info5
    refine startG (fun W'=>W'.cell? ⟨mb,2,none⟩=some (.slice uA k uc)/\Blk W' bb 114 bs) 10 (by kernel_rfl) ?_
    have hc2':W9.drew.cell? ⟨mb,2,none⟩=some (.slice uA k uc)/\Blk W9.drew bb 114 bs:=⟨hc2,HQ7.out.2.drew⟩
    have HN8:=Lib.hid (HN7.out.below (W':=W9.drew) (below_drew W9))
    have HB8:=Lib.hid (show Below xb w W9.drew from HB7.out.drew)
    have HQ8:=Lib.hid (show Blk W9.drew xb 29 #[.slice (some ⟨b,off,none⟩) n cap,.slice mA m mcap,.int .i64 room] from HQ7.out.1.drew)
    clear hc2 HN7 HB7 HQ7
    generalize W9.drew=W0 at hc2' HN8 HB8 HQ8⊢
    refine takeA (i:=0) (v:= .pointer (some ⟨mb,0,none⟩)) rfl hc2' ?_
    simp only [Act.put,zA,zB,zC,zD,zE,zF]
    refine takeA (i:=1) (v:= .pointer (some ⟨mb,0,none⟩)) rfl hc2' ?_
    simp only [Act.put,zA,zB,zC,zD,zE,zF]
    refine takeA (i:=2) (v:= .pointer (some ⟨mb,0,none⟩)) rfl hc2' ?_
    simp only [Act.put,zA,zB,zC,zD,zE,zF]
    refine takeA (i:=3) (v:= .pointer (some ⟨mb,2,none⟩)) rfl hc2' ?_
    simp only [Act.put,zA,zB,zC,zD,zE,zF]
    refine takeT (i:=4) (v:= .slice uA k uc) rfl (by kernel_rfl) (by kernel_rfl) (by kernel_rfl) (by kernel_rfl) (fun _ _ _ h=>h) (Or.inl ⟨by rfl,fun W hW=>by have q0:=hW.1;go_simp⟩) hc2' ?_
    simp only [Act.put,zA,zB,zC,zD,zE,zF]
    refine takeT (i:=5) (v:= .agg bs) rfl (by kernel_rfl) (by kernel_rfl) (by kernel_rfl) (by kernel_rfl) (fun _ _ _ h=>h) (yields_row (by rfl) 114 (.tmp 10) rfl bb rfl bs (fun _ hS=>run_buf HBF.out hS.2)) hc2' ?_
    simp only [Act.put,zA,zB,zC,zD,zE,zF]
    refine onlyG (i:=6) (by kernel_rfl) rfl (fun K hK=>?_)
    obtain ⟨hc2a,hc2b⟩:=hc2'
    rw [if_pos (by rfl)]
    refine wp_buildSlice 104 114 1 _ rfl bs i1 _ Tryz.underlying104 hj hz0 (by rw [hz1];decide) (by rw [hz1];decide) (by rw [hz1];refine fill_at (by decide) bs _ HBF.out.size (by rw [Array.size_map,Array.size_range]) _ ?_;simp only [List.map_toArray,List.map_cons,List.map_nil];rfl) ?_
    have hal:=(Below.refl W0.heap.size W0).alloc (Nat.le_refl _) (.cells bs 114)
    have HM6:=Lib.hid (HN8.out.below hal)
    have HB6:=Lib.hid (step_belowN HB8.out hal (by have h1:=HN8.out.blk.lt;have h2:=HN8.out.mb;omega))
    have HQ6:=Lib.hid (HQ8.out.below hal HQ8.out.lt)
    have src:Sl (W0.alloc (.cells bs 114)) (some ⟨W0.heap.size,0,none⟩) bs.toList.length (fun i=>bs.toList.getD i undef):=sl_new W0 114 bs.toList
    have hc6:(W0.alloc (.cells bs 114)).cell? ⟨mb,2,none⟩=some (.slice uA k uc)/\Blk (W0.alloc (.cells bs 114)) bb 114 bs:=⟨(hal.cell (p:=⟨mb,2,none⟩) HN8.out.blk.lt).trans hc2a,hc2b.below hal hc2b.lt⟩
    refine hK.out _ (W0.alloc (.cells bs 114)) hc6 (fun _=>?_)
    clear hK K hal hc2a hc2b
    try simp only [Act.put,zA,zB,zC,zD,zE,zF]
    obtain ⟨sx,hsx⟩: ∃sx,W0.heap.size=sx:=⟨_,rfl⟩
    rw [hsx]at src
    try rw [hsx]
    clear hsx
    generalize W0.alloc (.cells bs 114)=W5 at hc6 src HM6 HB6 HQ6⊢
    have own2':W5.ownsRow xb 114 35 (.slice uA k uc) k (bcs1.flatMap Array.toList):=by
     have h:W5.ownsRow xb 114 35 (V2 2) (List.replicate k ([]:List Ent)).length (bcs1.flatMap Array.toList):=HM6.out.rows 2 (by decide)
     rw [List.length_replicate,HEU.out]at h
     exact h
    have hone: ∀q,q<1*35->(bs.toList.getD q undef).oneCell'=true:=fun q hq=>by
     have hz:=HBF.out.size
     have hm:bs.toList.getD q undef∈bs.toList:=getD_mem (by rw [Array.length_toList];omega)
     exact Array.all_eq_true_iff_forall_mem.1 HBF.out.all _ (Array.mem_toList_iff.1 hm)
    refine onlyG (i:=7) (by kernel_rfl) rfl (fun K hK=>?_)
    rw [if_pos (by rfl)]
    rw [show bs.toList.length=1*35 from by rw [Array.length_toList,HBF.out.size]]at src
    refine wp_append_sl _ (.tmp 58) (.tmp 60) 104 rfl xb 114 i1 _ 35 280 Tryz.underlying104 hj hz0 hz1 hz2 rfl (by omega) _ k _ rfl own2' _ 1 _ (fun i=>bs.toList.getD i undef) rfl src hone (by unfold maxLen;omega) (by omega) (by have h1:=HM6.out.blk.lt;have h2:=HM6.out.mb;omega) ?_
    intro v4 W8 own4 hg4 _
    rw [range_getD bs.toList (1*35) (by rw [Array.length_toList,HBF.out.size])]at own4
    have hb4:=HM6.out.blk.grown hg4 (row_ne HM6.out.blk own2' (tsoL.ne 2 (by decide)))
    have hc4:W8.cell? ⟨mb,2,none⟩=some (.slice uA k uc)/\Blk W8 bb 114 bs:=⟨(hb4.cell 2).trans (by rw [<-HEU.out];rfl),hc6.2.grown hg4 (fun e=>by have :=HOB.out bb (by rw [HEU.out];exact e.symm);omega)⟩
    have f4:=hb4.frozen 2
    have HN4:=Lib.hid (HM6.out.addBuf rfl (cs:=bs) HBF.out (v':=v4) (W4:=W8) (by rw [HEU.out];exact hg4) (by show W8.ownsRow xb 114 35 v4 ((List.replicate k ([]:List Ent)).length+1) _;rw [List.length_replicate];exact own4))
    have HB4:=Lib.hid (HB6.out.grown hg4 (by have h1:=HM6.out.blk.lt;have h2:=HM6.out.mb;omega) (fun q hq=>own_ge own2' q hq))
    have HQ4:=Lib.hid (HQ6.out.grown hg4 (row_ne HQ6.out own2' (by decide)))
    obtain ⟨v4A,v4c,rfl,_,hv4⟩:=own_cap own4
    refine hK.out _ _ hc4 (fun _=>?_)
    clear hK K src hc6 own2' own4 hg4
    try simp only [Act.put,zA,zB,zC,zD,zE,zF]
    refine takeA (i:=8) (v:= .pointer (some ⟨mb,0,none⟩)) rfl hc4 ?_
    simp only [Act.put,zA,zB,zC,zD,zE,zF]
    refine takeA (i:=9) (v:= .pointer (some ⟨mb,2,none⟩)) rfl hc4 ?_
    simp only [Act.put,zA,zB,zC,zD,zE,zF]
    refine lastG (by kernel_rfl) rfl (by kernel_rfl) (fun K hK=>?_)
    go_simp
    clear f4 hc4 hb4
    have HB7:=Lib.hid (HB4.out.setCell (p:=⟨mb,2,none⟩) HM6.out.mb (.slice v4A (k+1) v4c))
    have HQ9:=Lib.hid (HQ4.out.grown (show W8.grownBy (W8.setCell ⟨mb,2,none⟩ (.slice v4A (k+1) v4c)) (some mb) from set_only _) (by have h3:=HNE.out.2.2;intro e;injection e with e;omega))
    have HN7:=Lib.hid (show MNew tsoL ⟨mb,cds++[⟨nA,cl,nc,cF⟩],room,m⟩ ⟨List.replicate n tha,List.replicate k []++[[]],(List.range m).map Z,[],[],0⟩ xb (W8.setCell ⟨mb,2,none⟩ (.slice v4A (k+1) v4c)) (updV V2 2 (.slice v4A (k+1) v4c)) (bcs1++[bs]) from HN4.out)
    refine hK.out _ _ ?_
    clear hK K HN4 HB4 HQ4
    generalize W8.setCell ⟨mb,2,none⟩ (.slice v4A (k+1) v4c)=W10 at HB7 HQ9 HN7⊢
    go_wp2
    go_roundw
    case rel=>
     refine ⟨k+1,cds++[⟨nA,cl,nc,cF⟩],_,_,by omega,by go_num,by rw [List.replicate_succ'];exact HN7.out,by rw [List.length_append,HCR.out.2.1];rfl,Lib.hid (fun t ht=>?_),HB7.out,HQ9.out⟩
     rcases getD_snoc cds ⟨nA,cl,nc,cF⟩ cdd t (by rw [List.length_append,HCR.out.2.1];simpa using ht)with ⟨h1,h2⟩|⟨h1,h2⟩
     ·rw [h2];exact HC1.out t (by rw [HCR.out.2.1]at h1;exact h1)
     ·rw [h2,h1,HCR.out.2.1,HCD.out];exact ⟨rfl,rfl,⟨HCR.out.2.2.1,HCR.out.2.2.2,HCR.out.1.ins⟩⟩
    case measure=>simp [intOf];omega
   ·obtain rfl:n=k:=by omega
    have hk1: ¬(n:Int)<(n:Int):=by omega
    have HF:=Lib.hid (And.intro hM1 (And.intro hcl hB1))
    clear hM1 hcl hB1 hQ1
    go_wp2
    go_ret2
    refine ⟨⟨mb,cds,room,m⟩,rfl,⟨rfl,HF.out.2.1,HC1.out⟩,rfl,?_,by rw [HXB.out];exact HF.out.2.2⟩
    have :=HF.out.1.inv
    rw [HXB.out]
    exact this
def tRun (B:MB) (s:Mst) (l:List (Int×Int)):Mst:=l.foldl (tPick B) s
theorem tRun_ok {B:MB} (hB:MBok B): ∀(l:List (Int×Int)) (s:Mst),TOk B s->TOk B (tRun B s l)
 |[],s,h=>h
 |x::l,s,h=>tRun_ok hB l _ (tPick_ok hB h x)
theorem tRun_can {B:MB} (hB:MBok B) (hr16:B.room<=16): ∀(l:List (Int×Int)) (s:Mst) (n:Nat),TOk B s->mCan B (n+3*l.length) s->mCan B n (tRun B s l)
 |[],s,n,_,h=>h
 |x::l,s,n,ho,h=>tRun_can hB hr16 l _ n (tPick_ok hB ho x) (tPick_can hr16 (n:=n+3*l.length) (by rw [List.length_cons]at h;rw [show n+3*l.length+3=n+3*(l.length+1) by omega];exact h) (by have h1:=ho.bl;have h2:=ho.ok.nt;omega) x)
theorem tRun_snoc (B:MB) (s:Mst) (l:List (Int×Int)) (x:Int×Int):tRun B s (l++[x])=tPick B (tRun B s l) x:=by unfold tRun;rw [List.foldl_append];rfl
set_option maxHeartbeats 1000000 in
theorem tevents_any (B:MB) (s:Mst) (own:Nat->Prop) (W:World) (hI:MInv tsoL B s own W) (hn:s.evs.length<=2000000000):
 Calls Tryz.prog 20 #[.pointer (some ⟨B.mb,0,none⟩)] W fun e W'=> ∃v,e= .returned v/\W'.ownsRow W.heap.size 65 8 v s.evs.length (s.evs.flatMap Evt.cells)/\Below W.heap.size W W':=by
 obtain ⟨V,bcs,h⟩:=hI
 have hr:W.ownsRow 0 65 8 (V 5) s.evs.length (s.evs.flatMap Evt.cells):=h.rows 5 (by decide)
 have cC:=clone_events_own (V 5) s.evs.length 0 _ W hr (evt_cells_one s.evs) hn
 obtain ⟨A,cap,e5,_,_⟩:=own_cap hr
 have c4:W.cell? ⟨B.mb,5,none⟩=some (V 5):=h.cell (j:=5) (by decide) rfl
 rw [e5]at c4 cC
 clear h hr e5
 go_enter Tryz.func20,Tryz.ntmps20
 go_wp2_with fail
 refine cC.mono ?_
 rintro e W2 ⟨v,rfl,hv,hb⟩
 have HF:=Lib.hid (And.intro hv hb)
 obtain ⟨vA,vc,rfl,_,_⟩:=own_cap hv
 clear cC hv hb
 go_wp2
 go_ret
 exact ⟨_,rfl,HF.out.1,HF.out.2⟩
set_option maxHeartbeats 1000000 in
theorem tmem_any (B:MB) (s:Mst) (own:Nat->Prop) (W:World) (hI:MInv tsoL B s own W) (hn:s.mem.length<=2000000000):
 Calls Tryz.prog 22 #[.pointer (some ⟨B.mb,0,none⟩)] W fun e W'=> ∃v,e= .returned v/\W'.ownsRow W.heap.size 42 1 v s.mem.length (s.mem.map fun z=> .int .u32 z)/\Below W.heap.size W W':=by
 obtain ⟨V,bcs,h⟩:=hI
 have hr:W.ownsRow 0 42 1 (V 3) s.mem.length (s.mem.map fun z=> .int .u32 z):=h.rows 3 (by decide)
 have cC:=clone_words_own (V 3) s.mem.length 0 _ W hr (fun x hx=>by obtain ⟨z,_,rfl⟩:=List.mem_map.1 hx;rfl) hn
 obtain ⟨A,cap,e5,_,_⟩:=own_cap hr
 have c4:W.cell? ⟨B.mb,3,none⟩=some (V 3):=h.cell (j:=3) (by decide) rfl
 rw [e5]at c4 cC
 clear h hr e5
 go_enter Tryz.func22,Tryz.ntmps22
 go_wp2_with fail
 refine cC.mono ?_
 rintro e W2 ⟨v,rfl,hv,hb⟩
 have HF:=Lib.hid (And.intro hv hb)
 obtain ⟨vA,vc,rfl,_,_⟩:=own_cap hv
 clear cC hv hb
 go_wp2
 go_ret
 exact ⟨_,rfl,HF.out.1,HF.out.2⟩
end Go.Proofs.YtmhfpjnkjlhbpaaGreatDoor
