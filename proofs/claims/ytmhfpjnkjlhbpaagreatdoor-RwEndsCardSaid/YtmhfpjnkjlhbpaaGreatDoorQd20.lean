/- tso.Machine as a port: port; what picks keep (plain). tso.Machine.step. tso.Machine.Pick. -/
import Derived.Test.YtmhfpjnkjlhbpaaGreatDoorQd19
namespace Go.Proofs.YtmhfpjnkjlhbpaaGreatDoor
open Go.ChangeShapes Go.WideShapes Go.ChangeAt Go.RowKit Go.Deep
set_option linter.unusedVariables false
set_option maxRecDepth 100000
set_option linter.unusedSimpArgs false
open List renaming getElem_toArray->zA,getElem_cons_zero->zB,getElem_cons_succ->zC,setIfInBounds_toArray->zD,set_cons_zero->zE,set_cons_succ->zF
def tPv (B:MB) (t:Nat):Pv where
 load:=⟨154,#[.agg #[.pointer (some ⟨B.mb,0,none⟩),.int .i64 (t:Int)]],#[]⟩
 room:=⟨155,#[.agg #[.pointer (some ⟨B.mb,0,none⟩),.int .i64 (t:Int)]],#[]⟩
 store:=⟨156,#[.agg #[.pointer (some ⟨B.mb,0,none⟩),.int .i64 (t:Int)]],#[]⟩
 empty:=⟨157,#[.agg #[.pointer (some ⟨B.mb,0,none⟩),.int .i64 (t:Int)]],#[]⟩
 flush:=⟨75,#[.agg #[.pointer (some ⟨B.mb,0,none⟩),.int .i64 (t:Int)]],#[]⟩
 swap:=⟨158,#[.agg #[.pointer (some ⟨B.mb,0,none⟩),.int .i64 (t:Int)]],#[]⟩
 sleep:=⟨159,#[.agg #[.pointer (some ⟨B.mb,0,none⟩),.int .i64 (t:Int)]],#[]⟩
 wake:=⟨160,#[.agg #[.pointer (some ⟨B.mb,0,none⟩),.int .i64 (t:Int)]],#[]⟩
 remote:=⟨161,#[.agg #[.pointer (some ⟨B.mb,0,none⟩),.int .i64 (t:Int)]],#[]⟩
 note:=⟨77,#[.agg #[.pointer (some ⟨B.mb,0,none⟩),.int .i64 (t:Int)]],#[]⟩
theorem pv_one (V:Pv) (n:Nat):(V.arr n).all (·.oneCell')=true:=by
 simp [Pv.arr,Value.oneCell',Fv.val]
set_option maxHeartbeats 4000000 in
theorem tport_any (B:MB) (s:Mst) (own:Nat->Prop) (W:World) (hI:MInv tsoL B s own W) (t:Nat):
 Calls Tryz.prog 127 #[.agg #[.pointer (some ⟨B.mb,0,none⟩),.int .i64 (t:Int)]] W fun e W'=>e= .returned (.agg ((tPv B t).arr B.m))/\Below W.heap.size W W':=by
 have hX0:=((MovesX.start hI).alloc 161 #[.pointer (some ⟨B.mb,0,none⟩),.int .i64 (t:Int)]).alloc 205 #[.int .i64 0,.nilFunc,.nilFunc,.nilFunc,.nilFunc,.nilFunc,.nilFunc,.nilFunc,.nilFunc,.nilFunc,.nilFunc]
 have hz:(W.alloc (.cells #[.pointer (some ⟨B.mb,0,none⟩),.int .i64 (t:Int)] 161)).heap.size=W.heap.size+1:=by simp
 rw [hz]at hX0
 obtain ⟨sb,hsb⟩: ∃sb,W.heap.size=sb:=⟨_,rfl⟩
 rw [hsb]at hX0
 have hWs:=hsb
 obtain ⟨pb,hpb⟩: ∃pb,sb+1=pb:=⟨_,rfl⟩
 rw [hpb]at hX0
 obtain ⟨own1,V,bcs,h1⟩:=hX0.parts
 have hbm:=h1.blt
 obtain ⟨mA,mcap,e3,hmc,hmm⟩:=h1.memv
 have c3:((W.alloc (.cells #[.pointer (some ⟨B.mb,0,none⟩),.int .i64 (t:Int)] 161)).alloc (.cells #[.int .i64 0,.nilFunc,.nilFunc,.nilFunc,.nilFunc,.nilFunc,.nilFunc,.nilFunc,.nilFunc,.nilFunc,.nilFunc] 205)).cell? ⟨B.mb,3,none⟩=some (.slice mA B.m mcap):=by rw [<-e3];exact h1.cell (j:=3) (by decide) rfl
 have hX1:=hX0.drew
 have hal:=((Below.refl W.heap.size W).alloc (Nat.le_refl _) (.cells #[.pointer (some ⟨B.mb,0,none⟩),.int .i64 (t:Int)] 161)).alloc (by rw [hz];omega) (.cells #[.int .i64 0,.nilFunc,.nilFunc,.nilFunc,.nilFunc,.nilFunc,.nilFunc,.nilFunc,.nilFunc,.nilFunc,.nilFunc] 205)
 have c3':((W.alloc (.cells #[.pointer (some ⟨B.mb,0,none⟩),.int .i64 (t:Int)] 161)).alloc (.cells #[.int .i64 0,.nilFunc,.nilFunc,.nilFunc,.nilFunc,.nilFunc,.nilFunc,.nilFunc,.nilFunc,.nilFunc,.nilFunc] 205)).drew.cell? ⟨B.mb,3,none⟩=some (.slice mA B.m mcap):=c3
 have HF:=Lib.hid (And.intro hX1 (And.intro (c3') (And.intro (show B.mb<((W.alloc (.cells #[.pointer (some ⟨B.mb,0,none⟩),.int .i64 (t:Int)] 161)).alloc (.cells #[.int .i64 0,.nilFunc,.nilFunc,.nilFunc,.nilFunc,.nilFunc,.nilFunc,.nilFunc,.nilFunc,.nilFunc,.nilFunc] 205)).drew.heap.size from hbm) (And.intro (hX1.tail.blk.lt) (And.intro (hX1.blk.lt) hal.drew)))))
 have hwp:W.heap.size<=pb:=by omega
 clear hal h1 e3 hmc hmm hX0 hX1 c3 c3' hbm hI
 go_enter Tryz.func127,Tryz.ntmps127
 go_upto_region 1 with fail
 try rw [hz]
 try rw [hsb]
 try rw [hpb]
 clear hz hsb hpb hWs
 refine startG (fun W'=>Below ((W.alloc (.cells #[.pointer (some ⟨B.mb,0,none⟩),.int .i64 (t:Int)] 161)).alloc (.cells #[.int .i64 0,.nilFunc,.nilFunc,.nilFunc,.nilFunc,.nilFunc,.nilFunc,.nilFunc,.nilFunc,.nilFunc,.nilFunc] 205)).drew.heap.size ((W.alloc (.cells #[.pointer (some ⟨B.mb,0,none⟩),.int .i64 (t:Int)] 161)).alloc (.cells #[.int .i64 0,.nilFunc,.nilFunc,.nilFunc,.nilFunc,.nilFunc,.nilFunc,.nilFunc,.nilFunc,.nilFunc,.nilFunc] 205)).drew W') 27 (by kernel_rfl) ?_
 generalize ((W.alloc (.cells #[.pointer (some ⟨B.mb,0,none⟩),.int .i64 (t:Int)] 161)).alloc (.cells #[.int .i64 0,.nilFunc,.nilFunc,.nilFunc,.nilFunc,.nilFunc,.nilFunc,.nilFunc,.nilFunc,.nilFunc,.nilFunc] 205)).drew=W0 at HF⊢
 have hH:Below W0.heap.size W0 W0:=Below.refl _ _
 refine takeA (i:=0) (v:= .pointer (some ⟨sb,0,none⟩)) rfl hH ?_
 simp only [Act.put,zA,zB,zC,zD,zE,zF]
 refine takeT (i:=1) (v:= .pointer (some ⟨B.mb,0,none⟩)) rfl (by kernel_rfl) (by kernel_rfl) (by kernel_rfl) (by kernel_rfl) (fun _ _ _ h=>h) (Or.inl ⟨by rfl,fun W hW=>by have q0:=(HF.out.1.tail.blk.below hW HF.out.2.2.2.1).cell 0;go_simp⟩) hH ?_
 simp only [Act.put,zA,zB,zC,zD,zE,zF]
 refine takeA (i:=2) (v:= .pointer (some ⟨B.mb,0,none⟩)) rfl hH ?_
 simp only [Act.put,zA,zB,zC,zD,zE,zF]
 refine takeA (i:=3) (v:= .pointer (some ⟨B.mb,3,none⟩)) rfl hH ?_
 simp only [Act.put,zA,zB,zC,zD,zE,zF]
 refine takeT (i:=4) (v:= .slice mA B.m mcap) rfl (by kernel_rfl) (by kernel_rfl) (by kernel_rfl) (by kernel_rfl) (fun _ _ _ h=>h) (Or.inl ⟨by rfl,fun W hW=>by have q0:=keepAt hW HF.out.2.2.1 HF.out.2.1;go_simp⟩) hH ?_
 simp only [Act.put,zA,zB,zC,zD,zE,zF]
 refine takeA (i:=5) (v:= .int .i64 (B.m:Int)) rfl hH ?_
 simp only [Act.put,zA,zB,zC,zD,zE,zF]
 refine takeT (i:=6) (v:= .agg #[.pointer (some ⟨B.mb,0,none⟩),.int .i64 (t:Int)]) rfl (by kernel_rfl) (by kernel_rfl) (by kernel_rfl) (by kernel_rfl) (fun _ _ _ h=>h) (yields_row (by rfl) 161 (.tmp 1) rfl sb rfl #[.pointer (some ⟨B.mb,0,none⟩),.int .i64 (t:Int)] (fun _ hS=>run_row _ _ _ _ _ _ (HF.out.1.tail.blk.below hS HF.out.2.2.2.1) Tryz.underlying161 rfl side_info)) hH ?_
 simp only [Act.put,zA,zB,zC,zD,zE,zF]
 refine takeA (i := 7) (v := .func (.func 154) #[.agg #[.pointer (some ⟨B.mb, 0, none⟩), .int .i64 (t : Int)]] #[]) rfl hH ?_
 simp only [Act.put,zA,zB,zC,zD,zE,zF]
 refine takeT (i:=8) (v:= .agg #[.pointer (some ⟨B.mb,0,none⟩),.int .i64 (t:Int)]) rfl (by kernel_rfl) (by kernel_rfl) (by kernel_rfl) (by kernel_rfl) (fun _ _ _ h=>h) (yields_row (by rfl) 161 (.tmp 1) rfl sb rfl #[.pointer (some ⟨B.mb,0,none⟩),.int .i64 (t:Int)] (fun _ hS=>run_row _ _ _ _ _ _ (HF.out.1.tail.blk.below hS HF.out.2.2.2.1) Tryz.underlying161 rfl side_info)) hH ?_
 simp only [Act.put,zA,zB,zC,zD,zE,zF]
 refine takeA (i := 9) (v := .func (.func 155) #[.agg #[.pointer (some ⟨B.mb, 0, none⟩), .int .i64 (t : Int)]] #[]) rfl hH ?_
 simp only [Act.put,zA,zB,zC,zD,zE,zF]
 refine takeT (i:=10) (v:= .agg #[.pointer (some ⟨B.mb,0,none⟩),.int .i64 (t:Int)]) rfl (by kernel_rfl) (by kernel_rfl) (by kernel_rfl) (by kernel_rfl) (fun _ _ _ h=>h) (yields_row (by rfl) 161 (.tmp 1) rfl sb rfl #[.pointer (some ⟨B.mb,0,none⟩),.int .i64 (t:Int)] (fun _ hS=>run_row _ _ _ _ _ _ (HF.out.1.tail.blk.below hS HF.out.2.2.2.1) Tryz.underlying161 rfl side_info)) hH ?_
 simp only [Act.put,zA,zB,zC,zD,zE,zF]
 refine takeA (i := 11) (v := .func (.func 156) #[.agg #[.pointer (some ⟨B.mb, 0, none⟩), .int .i64 (t : Int)]] #[]) rfl hH ?_
 simp only [Act.put,zA,zB,zC,zD,zE,zF]
 refine takeT (i:=12) (v:= .agg #[.pointer (some ⟨B.mb,0,none⟩),.int .i64 (t:Int)]) rfl (by kernel_rfl) (by kernel_rfl) (by kernel_rfl) (by kernel_rfl) (fun _ _ _ h=>h) (yields_row (by rfl) 161 (.tmp 1) rfl sb rfl #[.pointer (some ⟨B.mb,0,none⟩),.int .i64 (t:Int)] (fun _ hS=>run_row _ _ _ _ _ _ (HF.out.1.tail.blk.below hS HF.out.2.2.2.1) Tryz.underlying161 rfl side_info)) hH ?_
 simp only [Act.put,zA,zB,zC,zD,zE,zF]
 refine takeA (i := 13) (v := .func (.func 157) #[.agg #[.pointer (some ⟨B.mb, 0, none⟩), .int .i64 (t : Int)]] #[]) rfl hH ?_
 simp only [Act.put,zA,zB,zC,zD,zE,zF]
 refine takeT (i:=14) (v:= .agg #[.pointer (some ⟨B.mb,0,none⟩),.int .i64 (t:Int)]) rfl (by kernel_rfl) (by kernel_rfl) (by kernel_rfl) (by kernel_rfl) (fun _ _ _ h=>h) (yields_row (by rfl) 161 (.tmp 1) rfl sb rfl #[.pointer (some ⟨B.mb,0,none⟩),.int .i64 (t:Int)] (fun _ hS=>run_row _ _ _ _ _ _ (HF.out.1.tail.blk.below hS HF.out.2.2.2.1) Tryz.underlying161 rfl side_info)) hH ?_
 simp only [Act.put,zA,zB,zC,zD,zE,zF]
 refine takeA (i := 15) (v := .func (.func 75) #[.agg #[.pointer (some ⟨B.mb, 0, none⟩), .int .i64 (t : Int)]] #[]) rfl hH ?_
 simp only [Act.put,zA,zB,zC,zD,zE,zF]
 refine takeT (i:=16) (v:= .agg #[.pointer (some ⟨B.mb,0,none⟩),.int .i64 (t:Int)]) rfl (by kernel_rfl) (by kernel_rfl) (by kernel_rfl) (by kernel_rfl) (fun _ _ _ h=>h) (yields_row (by rfl) 161 (.tmp 1) rfl sb rfl #[.pointer (some ⟨B.mb,0,none⟩),.int .i64 (t:Int)] (fun _ hS=>run_row _ _ _ _ _ _ (HF.out.1.tail.blk.below hS HF.out.2.2.2.1) Tryz.underlying161 rfl side_info)) hH ?_
 simp only [Act.put,zA,zB,zC,zD,zE,zF]
 refine takeA (i := 17) (v := .func (.func 158) #[.agg #[.pointer (some ⟨B.mb, 0, none⟩), .int .i64 (t : Int)]] #[]) rfl hH ?_
 simp only [Act.put,zA,zB,zC,zD,zE,zF]
 refine takeT (i:=18) (v:= .agg #[.pointer (some ⟨B.mb,0,none⟩),.int .i64 (t:Int)]) rfl (by kernel_rfl) (by kernel_rfl) (by kernel_rfl) (by kernel_rfl) (fun _ _ _ h=>h) (yields_row (by rfl) 161 (.tmp 1) rfl sb rfl #[.pointer (some ⟨B.mb,0,none⟩),.int .i64 (t:Int)] (fun _ hS=>run_row _ _ _ _ _ _ (HF.out.1.tail.blk.below hS HF.out.2.2.2.1) Tryz.underlying161 rfl side_info)) hH ?_
 simp only [Act.put,zA,zB,zC,zD,zE,zF]
 refine takeA (i := 19) (v := .func (.func 159) #[.agg #[.pointer (some ⟨B.mb, 0, none⟩), .int .i64 (t : Int)]] #[]) rfl hH ?_
 simp only [Act.put,zA,zB,zC,zD,zE,zF]
 refine takeT (i:=20) (v:= .agg #[.pointer (some ⟨B.mb,0,none⟩),.int .i64 (t:Int)]) rfl (by kernel_rfl) (by kernel_rfl) (by kernel_rfl) (by kernel_rfl) (fun _ _ _ h=>h) (yields_row (by rfl) 161 (.tmp 1) rfl sb rfl #[.pointer (some ⟨B.mb,0,none⟩),.int .i64 (t:Int)] (fun _ hS=>run_row _ _ _ _ _ _ (HF.out.1.tail.blk.below hS HF.out.2.2.2.1) Tryz.underlying161 rfl side_info)) hH ?_
 simp only [Act.put,zA,zB,zC,zD,zE,zF]
 refine takeA (i := 21) (v := .func (.func 160) #[.agg #[.pointer (some ⟨B.mb, 0, none⟩), .int .i64 (t : Int)]] #[]) rfl hH ?_
 simp only [Act.put,zA,zB,zC,zD,zE,zF]
 refine takeT (i:=22) (v:= .agg #[.pointer (some ⟨B.mb,0,none⟩),.int .i64 (t:Int)]) rfl (by kernel_rfl) (by kernel_rfl) (by kernel_rfl) (by kernel_rfl) (fun _ _ _ h=>h) (yields_row (by rfl) 161 (.tmp 1) rfl sb rfl #[.pointer (some ⟨B.mb,0,none⟩),.int .i64 (t:Int)] (fun _ hS=>run_row _ _ _ _ _ _ (HF.out.1.tail.blk.below hS HF.out.2.2.2.1) Tryz.underlying161 rfl side_info)) hH ?_
 simp only [Act.put,zA,zB,zC,zD,zE,zF]
 refine takeA (i := 23) (v := .func (.func 161) #[.agg #[.pointer (some ⟨B.mb, 0, none⟩), .int .i64 (t : Int)]] #[]) rfl hH ?_
 simp only [Act.put,zA,zB,zC,zD,zE,zF]
 refine takeT (i:=24) (v:= .agg #[.pointer (some ⟨B.mb,0,none⟩),.int .i64 (t:Int)]) rfl (by kernel_rfl) (by kernel_rfl) (by kernel_rfl) (by kernel_rfl) (fun _ _ _ h=>h) (yields_row (by rfl) 161 (.tmp 1) rfl sb rfl #[.pointer (some ⟨B.mb,0,none⟩),.int .i64 (t:Int)] (fun _ hS=>run_row _ _ _ _ _ _ (HF.out.1.tail.blk.below hS HF.out.2.2.2.1) Tryz.underlying161 rfl side_info)) hH ?_
 simp only [Act.put,zA,zB,zC,zD,zE,zF]
 refine takeA (i := 25) (v := .func (.func 77) #[.agg #[.pointer (some ⟨B.mb, 0, none⟩), .int .i64 (t : Int)]] #[]) rfl hH ?_
 simp only [Act.put,zA,zB,zC,zD,zE,zF]
 refine takeA (i := 26) (v := .agg #[.int .i64 (B.m : Int), .func (.func 154) #[.agg #[.pointer (some ⟨B.mb, 0, none⟩), .int .i64 (t : Int)]] #[], .func (.func 155) #[.agg #[.pointer (some ⟨B.mb, 0, none⟩), .int .i64 (t : Int)]] #[], .func (.func 156) #[.agg #[.pointer (some ⟨B.mb, 0, none⟩), .int .i64 (t : Int)]] #[], .func (.func 157) #[.agg #[.pointer (some ⟨B.mb, 0, none⟩), .int .i64 (t : Int)]] #[], .func (.func 75) #[.agg #[.pointer (some ⟨B.mb, 0, none⟩), .int .i64 (t : Int)]] #[], .func (.func 158) #[.agg #[.pointer (some ⟨B.mb, 0, none⟩), .int .i64 (t : Int)]] #[], .func (.func 159) #[.agg #[.pointer (some ⟨B.mb, 0, none⟩), .int .i64 (t : Int)]] #[], .func (.func 160) #[.agg #[.pointer (some ⟨B.mb, 0, none⟩), .int .i64 (t : Int)]] #[], .func (.func 161) #[.agg #[.pointer (some ⟨B.mb, 0, none⟩), .int .i64 (t : Int)]] #[], .func (.func 77) #[.agg #[.pointer (some ⟨B.mb, 0, none⟩), .int .i64 (t : Int)]] #[]]) rfl hH ?_
 simp only [Act.put,zA,zB,zC,zD,zE,zF]
 refine lastG (by kernel_rfl) rfl (by kernel_rfl) (fun K hK=>?_)
 refine step_store_row rfl 205 (.tmp 2) (.tmp 29) rfl _ rfl ((tPv B t).arr B.m) rfl 205 _ HF.out.1.blk rfl port_info (pv_one _ _) ?_
 intro W9 hb9 hg9
 have HP:=Lib.hid (below_row HF.out.2.2.2.2.2 hg9 HF.out.2.2.2.2.2.size (by omega))
 refine hK.out _ _ ?_
 clear hK K
 go_wp2_with fail
 exact bodyPost_ret (results_cell Tryz.results127 _ _ _ _ rfl (run_row _ _ _ _ _ _ hb9 Tryz.underlying205 rfl port_info)) rfl ⟨rfl,HP.out⟩
theorem tso_port (B:MB) (t:Nat) (hr16:B.room<=16):PortOk (tOps B t) (tPv B t) (MInv tsoL B) (tCan B t) where
 lt:=fun s own W i h hi=>h.lt i hi
 hi:=fun s own W i h hi=>h.lo i hi
 keep:=MInv.keep tsoL B
 less:=fun n s h=>h.less
 cload:=fun n s a h=>h.less
 cstore:=fun n s a v h=>h.store a v
 cflush:=fun n s h=>h.flush
 cswap:=fun n s a v h=>h.swap a v
 csleep:=fun n s a h=>h.sleep a
 cwake:=fun n s a v h=>h.wake a v
 cremote:=fun n s h=>h.remote
 cnote:=fun n s x h=>h.note x
 goes:=⟨fun _ _=>rfl,fun _ _=>rfl,fun _ _=>rfl,fun _ _=>rfl,fun _ _=>rfl,fun _ _=>rfl,fun _ _=>rfl,fun _ _=>rfl,fun _ _=>rfl,fun _ _=>rfl⟩
 load:=fun n s own W a hc h ha=>tload_any B s own W h t (by rw [hc.bl];exact hc.lt) _ rfl a ha
 room:=fun n s own W hc h=>troom_any B s own W h t (by rw [hc.bl];exact hc.lt) _ rfl
 store:=fun n s own W a v hc h ha hr=>by
  have hr':((s.bufs.getD t []).length:Int)<B.room:=of_decide_eq_true hr
  exact tstore_any B s own W h t (by rw [hc.bl];exact hc.lt) _ rfl a ha v hr' (by omega)
 empty:=fun n s own W hc h=>tempty_any B s own W h t (by rw [hc.bl];exact hc.lt) _ rfl
 flush:=fun n s own W hc h=>tflush_any B s own W h (by have :=hc.can.evs;omega) t (by rw [hc.bl];exact hc.lt) hc.can.buf
 swap:=fun n s own W a v hc h ha=>tswap_any B s own W h t a ha v
 sleep:=fun n s own W a hc h=>tsleep_any B s own W h (by have :=hc.can.slp;omega) t a
 wake:=fun n s own W a v hc h h0 h1=>by
  obtain ⟨m,rfl⟩: ∃m:Nat,v=(m:Int):=⟨v.toNat,by omega⟩
  exact twake_any B s own W h (by have :=hc.can.slp;omega) hc.can.who t a m (by omega)
 remote:=fun n s own W hc h=>tremote_any B s own W h (by
  have h1:=hc.can
  exact ⟨by have :=h1.evs;omega,by have :=h1.slp;omega,h1.who,h1.buf,h1.t8⟩) t
 note:=fun n s own W x hc h=>tnote_any B s own W h (by have :=hc.can.evs;omega) t x
theorem fnB_rv (l:List Ent) (a:Int) (h: ∀e∈l,RV e.2):RV (fnB l a).1:=by
 induction l with
 |nil=>exact RV.zero
 |cons x l ih=>
  unfold fnB
  split
  ·exact ih (fun e he=>h e (List.mem_cons_of_mem _ he))
  split
  ·exact h x (by simp)
  ·exact RV.zero
structure TOk (B:MB) (s:Mst):Prop where
 ok:MOk B s
 bl:s.bufs.length=B.codes.length
section
variable {B:MB} {s:Mst}
theorem TOk.flush (h:TOk B s) (t:Nat):TOk B (tflush t s):=by
 refine ⟨?_,by rw [(tflush_same t s).2.2.2.1];exact h.bl⟩
 cases hb:s.bufs.getD t []with
 |nil=>rw [tflush_nil hb];exact h.ok
 |cons x l=>
  rw [tflush_cons hb]
  have hm: ∀e∈x::l,(0<=e.1/\e.1<(B.m:Int))/\RV e.2:=fun e he=>by
   obtain ⟨b,h1,h2⟩:=mem_getD (l:=s.bufs) (t:=t) (e:=e) (by rw [hb];exact he)
   exact h.ok.buf b h1 e h2
  exact ⟨h.ok.nt,h.ok.regs,fun z hz=>(mem_set hz).elim (h.ok.mem z) (fun e=>e▸(hm x (by simp)).2),fun b hb' e he=>by
   rcases mem_set hb' with h1|rfl
   ·exact h.ok.buf b h1 e he
   ·exact hm e (List.mem_cons_of_mem _ he),h.ok.slp⟩
theorem TOk.flushN (t:Nat): ∀(k:Nat) {s:Mst},TOk B s->TOk B (tflushN t k s)
 |0,_,h=>h
 |k+1,_,h=>TOk.flushN t k (h.flush t)
theorem TOk.remote (h:TOk B s):TOk B (tremote s):=by
 unfold tremote
 generalize List.range s.bufs.length=l
 induction l generalizing s with
 |nil=>exact h
 |cons t l ih=>exact ih (h.flushN t _)
theorem TOk.store (h:TOk B s) (t a:Nat) {v:Int} (hv:RV v):TOk B ((tOps B t).store s a v):=by
 show TOk B (if a<B.m then _ else s)
 split
 case isFalse=>exact h
 rename_i ha
 refine ⟨⟨h.ok.nt,h.ok.regs,h.ok.mem,fun b hb e he=>?_,h.ok.slp⟩,by show (s.bufs.set t _).length=_;rw [List.length_set];exact h.bl⟩
 rcases mem_set hb with h1|rfl
 ·exact h.ok.buf b h1 e he
 ·rcases List.mem_append.1 he with he|he
  ·obtain ⟨b,h1,h2⟩:=mem_getD he
   exact h.ok.buf b h1 e h2
  ·rw [List.mem_singleton.1 he]
   exact ⟨⟨by show (0:Int)<=(a:Int);omega,by show (a:Int)<(B.m:Int);omega⟩,hv⟩
theorem TOk.see (h:TOk B s) (t a:Nat):RV (seeM t s a):=by
 unfold seeM
 split
 ·refine fnB_rv _ _ (fun e he=>?_)
  obtain ⟨b,h1,h2⟩:=mem_getD he
  exact (h.ok.buf b h1 e h2).2
 ·exact mem_of_getD h.ok.mem RV.zero
theorem TOk.rouse (h:TOk B s) (t:Nat):TOk B (rouseM t s):=by
 refine ⟨h.ok.rouse t,?_⟩
 unfold rouseM
 split<;>exact h.bl
end
theorem tso_keep (B:MB) (hB:MBok B) (t:Nat) (ht:t<B.codes.length):OpsKeep (tOps B t) (TOk B) where
 load:=fun s a h=>⟨h.see t a,h⟩
 store:=fun s a v h hv=>h.store t a hv
 flush:=fun s h=>h.flush t
 swap:=fun s a v h hv=>⟨h.ok.setMem a hv,h.bl⟩
 sleep:=fun s a h=>⟨h.ok.sleep (t:Int) (by omega) (by have :=h.ok.nt;omega) a,by show (sleepM (t:Int) s a).bufs.length=_;rw [(sleepM_same (t:Int) s a).2.1];exact h.bl⟩
 wake:=fun s a v h=>⟨wakeM_rv s a v (by have h3:=h.ok.slp.len;have h4:=h.ok.nt;have h5:=hB.n8;omega),h.ok.wake a v,h.bl⟩
 remote:=fun s h=>h.remote
 note:=fun s x h=>⟨h.ok.note (t:Int) x,h.bl⟩
theorem tStep_ok {B:MB} (hB:MBok B) {s:Mst} (h:TOk B s) (t:Nat) (ht:t<s.ths.length):RegsOk (stepR (tOps B t) s (s.ths.getD t tha) (B.codes.getD t cdd)).1/\TOk B (stepR (tOps B t) s (s.ths.getD t tha) (B.codes.getD t cdd)).2:=
 keep_step (tso_keep B hB t (by have :=h.ok.nt;omega)) h (h.ok.getTh t) (c:=B.codes.getD t cdd) (by
  have ht:t<B.codes.length:=by have :=h.ok.nt;omega
  exact hB.cods _ (getD_mem ht))
theorem tPick_ok {B:MB} (hB:MBok B) {s:Mst} (h:TOk B s) (x:Int×Int):TOk B (tPick B s x):=by
 unfold tPick
 split
 ·exact h
 rename_i hx
 split
 ·have hk:=tStep_ok hB h x.2.toNat (by omega)
  exact ⟨hk.2.ok.setTh _ hk.1,hk.2.bl⟩
 split
 ·exact h.flush _
 split
 ·exact h.rouse _
 ·exact h
theorem tPick_can {B:MB} (hr16:B.room<=16) {n:Nat} {s:Mst} (h:mCan B (n+3) s) (hb:s.bufs.length=s.ths.length) (x:Int×Int):mCan B n (tPick B s x):=by
 unfold tPick
 split
 ·exact h.less.less.less
 rename_i hx
 split
 ·have :=can_step (tso_port B x.2.toNat hr16) (n:=n) (s:=s) ⟨h,by omega,hb⟩ (s.ths.getD x.2.toNat tha) (B.codes.getD x.2.toNat cdd)
  exact sCan.setTh this.can _ _
 split
 ·exact (h.less.less.less).flush _
 split
 ·exact mCan.rouse h.less.less _
 ·exact h.less.less.less
theorem tso_step {B:MB} (hB:MBok B) (hr16:B.room<=16) {s:Mst} {own:Nat->Prop} {W Wc:World} {X:List Bx} (hX:MovesX tsoL B s own W Wc X) (hs:TOk B s) (t:Nat) (ht:t<B.codes.length) (hc:tCan B t 3 s) (hlo: ∀i,own i->2<=i) (hT:Tab W) (th:Th) (cd:Cd) (hth:s.ths.getD t tha=th) (hcd:B.codes.getD t cdd=cd):
 Calls Tryz.prog 126 #[.agg th.cells.toArray,cd.val,.agg ((tPv B t).arr B.m)] Wc fun e W'=>e= .returned (.agg (thArr (stepR (tOps B t) s th cd).1))/\MovesX tsoL B (stepR (tOps B t) s th cd).2 own W W' X:=by
 subst hth hcd
 have hT':=hX.tab hlo hT
 refine hX.call (R:=fun e=>e= .returned (.agg (thArr _))) (fun own1 h1=>?_)
 have hca:(B.codes.getD t cdd).At Wc:=by
  obtain ⟨V,bcs,hp⟩:=h1
  exact (hp.codeAt ht).choose_spec.choose_spec.2.2.2.2
 exact step_any (tso_port B t hr16) 0 s own1 (s.ths.getD t tha) (B.codes.getD t cdd) Wc h1 hT' hca (hB.cods _ (getD_mem ht)) (by show (B.m:Int)<=_;have :=hB.m;omega) (hs.ok.getTh t) hc
set_option maxHeartbeats 4000000 in
theorem tstep_any (B:MB) (hB:MBok B) (hr16:B.room<=16) (s:Mst) (hs:TOk B s) (hc:mCan B 3 s) (own:Nat->Prop) (W:World) (hI:MInv tsoL B s own W) (hT:Tab W) (w:Nat) (hw:w<s.ths.length):
 Calls Tryz.prog 74 #[.pointer (some ⟨B.mb,0,none⟩),.int .i64 (w:Int)] W fun e W'=>(∃u,e= .returned u)/\Moves (MInv tsoL B) (tStep B s w) own W W':=by
 have hlo:=hI.lo
 have hwc:w<B.codes.length:=by have :=hs.ok.nt;omega
 have htc:tCan B w 3 s:=⟨hc,hw,by have h1:=hs.bl;have h2:=hs.ok.nt;omega⟩
 have HB:=Lib.hid (And.intro hB hr16)
 have HH:=Lib.hid (And.intro hs (And.intro htc (And.intro hlo hT)))
 have HX0:=Lib.hid hI
 obtain ⟨th,hth⟩: ∃th,s.ths.getD w tha=th:=⟨_,rfl⟩
 obtain ⟨cd,hcd⟩: ∃cd,B.codes.getD w cdd=cd:=⟨_,rfl⟩
 have HT:=Lib.hid (And.intro hth hcd)
 clear hB hI hs hc hlo hT hth hcd htc hr16
 go_enter Tryz.func74,Tryz.ntmps74
 go_upto_region 0 with fail
 go_cut [4] (fun v wx=> ∃ub,v= .pointer (some ⟨ub,0,none⟩)/\MovesX tsoL B (stepR (tOps B w) s th cd).2 own W wx [⟨ub,124,thArr (stepR (tOps B w) s th cd).1⟩])
 case first=>
  have hX:=(MovesX.start HX0.out).drew
  obtain ⟨own1,V,bcs,h1⟩:=hX.parts
  have hbm:=h1.blt
  obtain ⟨g,cap,e1,hgc,hgm,hra,_,_,hog,_⟩:=h1.thAt hw
  obtain ⟨gc,cc,e0,hcc,hcm,hcell,_⟩:=h1.codeAt hwc
  have c1:W.drew.cell? ⟨B.mb,1,none⟩=some (.slice (some ⟨g,0,none⟩) s.ths.length cap):=by rw [<-e1];exact h1.cell (j:=1) (by decide) rfl
  have c0:W.drew.cell? ⟨B.mb,0,none⟩=some (.slice (some ⟨gc,0,none⟩) B.codes.length cc):=by rw [<-e0];exact h1.cell (j:=0) (by decide) rfl
  have hgl:=(h1.lo g hog).2
  have hgcl:gc<W.drew.heap.size:=(h1.lo gc (h1.vb 0 (by decide) gc (by rw [e0];rfl))).2
  rw [HT.out.1]at hra
  rw [HT.out.2]at hcell
  have hw0:(0:Int)<=(w:Int):=by omega
  have hw3:(w:Int)<(s.ths.length:Int):=by omega
  have hw4:(w:Int)<(B.codes.length:Int):=by omega
  have HF:=Lib.hid (And.intro c0 (And.intro c1 (And.intro hra (And.intro hcell (And.intro hbm (And.intro hgl hgcl))))))
  have HX3:=Lib.hid hX
  clear h1 e1 e0 hgc hgm hcc hcm c0 c1 hra hcell hbm hgl hgcl hX hog HX0
  refine startG (fun W'=>Below W.drew.heap.size W.drew W') 18 (by kernel_rfl) ?_
  generalize W.drew=W0 at HF HX3⊢
  have hH:Below W0.heap.size W0 W0:=Below.refl _ _
  refine takeA (i:=0) (v:= .pointer (some ⟨B.mb,0,none⟩)) rfl hH ?_
  simp only [Act.put,zA,zB,zC,zD,zE,zF]
  refine takeA (i:=1) (v:= .pointer (some ⟨B.mb,0,none⟩)) rfl hH ?_
  simp only [Act.put,zA,zB,zC,zD,zE,zF]
  refine takeA (i:=2) (v:= .pointer (some ⟨B.mb,1,none⟩)) rfl hH ?_
  simp only [Act.put,zA,zB,zC,zD,zE,zF]
  refine takeT (i:=3) (v:= .slice (some ⟨g,0,none⟩) s.ths.length cap) rfl (by kernel_rfl) (by kernel_rfl) (by kernel_rfl) (by kernel_rfl) (fun _ _ _ h=>h) (Or.inl ⟨by rfl,fun W hW=>by have q0:=keepAt hW HF.out.2.2.2.2.1 HF.out.2.1;go_simp⟩) hH ?_
  simp only [Act.put,zA,zB,zC,zD,zE,zF]
  refine takeA (i:=4) (v:= .int .i64 (w:Int)) rfl hH ?_
  simp only [Act.put,zA,zB,zC,zD,zE,zF]
  refine takeA (i:=5) (v:= .pointer (some ⟨g,w*10,none⟩)) rfl hH ?_
  simp only [Act.put,zA,zB,zC,zD,zE,zF]
  refine takeT (i:=6) (v:= .agg th.cells.toArray) rfl (by kernel_rfl) (by kernel_rfl) (by kernel_rfl) (by kernel_rfl) (fun _ _ _ h=>h) (yieldsIf_load_mid (by rfl) 124 (.tmp 10) rfl g (w*10) rfl th.cells _ (fun W hW=>range_below HF.out.2.2.1 HF.out.2.2.2.2.2.1 hW) Tryz.underlying124 rfl th_infoL) hH ?_
  simp only [Act.put,zA,zB,zC,zD,zE,zF]
  refine takeA (i:=7) (v:= .pointer (some ⟨B.mb,0,none⟩)) rfl hH ?_
  simp only [Act.put,zA,zB,zC,zD,zE,zF]
  refine takeA (i:=8) (v:= .pointer (some ⟨B.mb,0,none⟩)) rfl hH ?_
  simp only [Act.put,zA,zB,zC,zD,zE,zF]
  refine takeA (i:=9) (v:= .pointer (some ⟨B.mb,0,none⟩)) rfl hH ?_
  simp only [Act.put,zA,zB,zC,zD,zE,zF]
  refine takeT (i:=10) (v:= .slice (some ⟨gc,0,none⟩) B.codes.length cc) rfl (by kernel_rfl) (by kernel_rfl) (by kernel_rfl) (by kernel_rfl) (fun _ _ _ h=>h) (Or.inl ⟨by rfl,fun W hW=>by have q0:=keepAt hW HF.out.2.2.2.2.1 HF.out.1;go_simp⟩) hH ?_
  simp only [Act.put,zA,zB,zC,zD,zE,zF]
  refine takeA (i:=11) (v:= .int .i64 (w:Int)) rfl hH ?_
  simp only [Act.put,zA,zB,zC,zD,zE,zF]
  refine takeA (i:=12) (v:= .pointer (some ⟨gc,w,none⟩)) rfl hH ?_
  simp only [Act.put,zA,zB,zC,zD,zE,zF]
  refine takeT (i:=13) (v:=cd.val) rfl (by kernel_rfl) (by kernel_rfl) (by kernel_rfl) (by kernel_rfl) (fun _ _ _ h=>h) (Or.inl ⟨by rfl,fun W hW=>by have q0:=keepAt hW HF.out.2.2.2.2.2.2 HF.out.2.2.2.1;go_simp⟩) hH ?_
  simp only [Act.put,zA,zB,zC,zD,zE,zF]
  refine takeA (i:=14) (v:= .pointer (some ⟨B.mb,0,none⟩)) rfl hH ?_
  simp only [Act.put,zA,zB,zC,zD,zE,zF]
  refine takeA (i:=15) (v:= .int .i64 (w:Int)) rfl hH ?_
  simp only [Act.put,zA,zB,zC,zD,zE,zF]
  refine takeT (i:=16) (v:= .agg #[.pointer (some ⟨B.mb,0,none⟩),.int .i64 (w:Int)]) rfl (by kernel_rfl) (by kernel_rfl) (by kernel_rfl) (by kernel_rfl) (fun _ _ _ h=>h) (Or.inl ⟨by rfl,fun W hW=>by go_simp⟩) hH ?_
  simp only [Act.put,zA,zB,zC,zD,zE,zF]
  refine manyG (rs:=[17,19]) (by kernel_rfl) (by simp) (AllG.cons (i:=17) rfl (fun K hK=>?_) (AllG.cons (i:=19) rfl (fun K hK=>?_) AllG.nil))
  ·go_simp
   have hP:Calls Tryz.prog 127 #[.agg #[.pointer (some ⟨B.mb,0,none⟩),.int .i64 (w:Int)]] W0 _:=tport_any B s _ W0 HX3.out.moves.inv.choose_spec w
   with_reducible refine hP.mono ?_
   rintro e W5 ⟨rfl,hb⟩
   have hX5:=HX3.out.below hb
   have hH5:=step_belowN hH hb hH.size
   refine hK.out _ _ hH5 (fun _=>?_)
   clear hK K hP hb
   try simp only [Act.put,zA,zB,zC,zD,zE,zF]
   refine manyG (rs:=[18,19]) (by kernel_rfl) (by simp) (AllG.consM rfl (fun K hK=>?_) (AllG.cons (i:=19) rfl (fun K hK=>?_) AllG.nil))
   ·go_simp
    have hS:Calls Tryz.prog 126 #[.agg th.cells.toArray,cd.val,.agg ((tPv B w).arr B.m)] W5 _:=tso_step HB.out.1 HB.out.2 hX5 HH.out.1 w hwc HH.out.2.1 HH.out.2.2.1 HH.out.2.2.2 th cd HT.out.1 HT.out.2
    with_reducible refine hS.mono ?_
    rintro e W6 ⟨rfl,hX6⟩
    refine hK.out _ _ ?_
    clear hK K hS
    try simp only [Act.put,zA,zB,zC,zD,zE,zF]
    clear hX5
    refine onlyL (i:=19) (by kernel_rfl) (by kernel_rfl) rfl (fun K hK=>?_)
    go_simp
    have hX7:=hX6.alloc 124 th0
    unfold th0 at hX7
    obtain ⟨ub,hub⟩: ∃ub,W6.heap.size=ub:=⟨_,rfl⟩
    rw [hub]at hX7
    try rw [hub]
    refine hK.out _ _ ?_
    clear hK K hub
    try simp only [Act.put,zA,zB,zC,zD,zE,zF]
    generalize W6.alloc (.cells #[.int .i64 0,.int .u32 0,.int .u32 0,.int .u32 0,.int .u32 0,.int .u32 0,.int .u32 0,.int .u32 0,.int .u32 0,.int .i64 0] 124)=W7 at hX7⊢
    clear hX6
    refine lastL (i:=20) (by kernel_rfl) (by kernel_rfl) rfl (by kernel_rfl) (fun K hK=>?_)
    refine step_store_row rfl 124 (.tmp 4) (.tmp 23) rfl _ rfl (thArr (stepR (tOps B w) s th cd).1) rfl 124 _ hX7.blk rfl th_info (th_one _) ?_
    intro W9 hb9 hg9
    have HP:=Lib.hid (hX7.put (cs:=thArr (stepR (tOps B w) s th cd).1) (fun y hy=>by cases hy) hb9 hg9)
    refine hK.out _ _ ?_
    clear hK K
    go_wp2_with fail
    go_meet
    case rel=>exact ⟨ub,rfl,HP.out⟩
   ·go_simp
    have hX6:=hX5.alloc 124 th0
    unfold th0 at hX6
    obtain ⟨ub,hub⟩: ∃ub,W5.heap.size=ub:=⟨_,rfl⟩
    rw [hub]at hX6
    try rw [hub]
    have hal:=hH5.alloc hH5.size (.cells #[.int .i64 0,.int .u32 0,.int .u32 0,.int .u32 0,.int .u32 0,.int .u32 0,.int .u32 0,.int .u32 0,.int .u32 0,.int .i64 0] 124)
    refine hK.out _ _ hal (fun _=>?_)
    clear hK K hub hal
    try simp only [Act.put,zA,zB,zC,zD,zE,zF]
    generalize W5.alloc (.cells #[.int .i64 0,.int .u32 0,.int .u32 0,.int .u32 0,.int .u32 0,.int .u32 0,.int .u32 0,.int .u32 0,.int .u32 0,.int .i64 0] 124)=W6 at hX6⊢
    clear hX5
    refine onlyM (by kernel_rfl) rfl (fun K hK=>?_)
    go_simp
    have hS:Calls Tryz.prog 126 #[.agg th.cells.toArray,cd.val,.agg ((tPv B w).arr B.m)] W6 _:=tso_step HB.out.1 HB.out.2 hX6 HH.out.1 w hwc HH.out.2.1 HH.out.2.2.1 HH.out.2.2.2 th cd HT.out.1 HT.out.2
    with_reducible refine hS.mono ?_
    rintro e W7 ⟨rfl,hX7⟩
    refine hK.out _ _ ?_
    clear hK K hS
    try simp only [Act.put,zA,zB,zC,zD,zE,zF]
    clear hX6
    refine lastL (i:=20) (by kernel_rfl) (by kernel_rfl) rfl (by kernel_rfl) (fun K hK=>?_)
    refine step_store_row rfl 124 (.tmp 4) (.tmp 23) rfl _ rfl (thArr (stepR (tOps B w) s th cd).1) rfl 124 _ hX7.blk rfl th_info (th_one _) ?_
    intro W9 hb9 hg9
    have HP:=Lib.hid (hX7.put (cs:=thArr (stepR (tOps B w) s th cd).1) (fun y hy=>by cases hy) hb9 hg9)
    refine hK.out _ _ ?_
    clear hK K
    go_wp2_with fail
    go_meet
    case rel=>exact ⟨ub,rfl,HP.out⟩
  ·go_simp
   have hX5:=HX3.out.alloc 124 th0
   unfold th0 at hX5
   obtain ⟨ub,hub⟩: ∃ub,W0.heap.size=ub:=⟨_,rfl⟩
   rw [hub]at hX5
   try rw [hub]
   have hal:=hH.alloc hH.size (.cells #[.int .i64 0,.int .u32 0,.int .u32 0,.int .u32 0,.int .u32 0,.int .u32 0,.int .u32 0,.int .u32 0,.int .u32 0,.int .i64 0] 124)
   refine hK.out _ _ hal (fun _=>?_)
   clear hK K hub
   try simp only [Act.put,zA,zB,zC,zD,zE,zF]
   generalize W0.alloc (.cells #[.int .i64 0,.int .u32 0,.int .u32 0,.int .u32 0,.int .u32 0,.int .u32 0,.int .u32 0,.int .u32 0,.int .u32 0,.int .i64 0] 124)=W5 at hX5 hal⊢
   refine onlyG (i:=17) (by kernel_rfl) rfl (fun K hK=>?_)
   go_simp
   have hP:Calls Tryz.prog 127 #[.agg #[.pointer (some ⟨B.mb,0,none⟩),.int .i64 (w:Int)]] W5 _:=tport_any B s _ W5 hX5.moves.inv.choose_spec w
   with_reducible refine hP.mono ?_
   rintro e W6 ⟨rfl,hb⟩
   have hX6:=hX5.below hb
   have hH6:=step_belowN hal hb hal.size
   refine hK.out _ _ hH6 (fun _=>?_)
   clear hK K hP hb hX5
   try simp only [Act.put,zA,zB,zC,zD,zE,zF]
   refine onlyM (by kernel_rfl) rfl (fun K hK=>?_)
   go_simp
   have hS:Calls Tryz.prog 126 #[.agg th.cells.toArray,cd.val,.agg ((tPv B w).arr B.m)] W6 _:=tso_step HB.out.1 HB.out.2 hX6 HH.out.1 w hwc HH.out.2.1 HH.out.2.2.1 HH.out.2.2.2 th cd HT.out.1 HT.out.2
   with_reducible refine hS.mono ?_
   rintro e W7 ⟨rfl,hX7⟩
   refine hK.out _ _ ?_
   clear hK K hS
   try simp only [Act.put,zA,zB,zC,zD,zE,zF]
   clear hX6
   refine lastL (i:=20) (by kernel_rfl) (by kernel_rfl) rfl (by kernel_rfl) (fun K hK=>?_)
   refine step_store_row rfl 124 (.tmp 4) (.tmp 23) rfl _ rfl (thArr (stepR (tOps B w) s th cd).1) rfl 124 _ hX7.blk rfl th_info (th_one _) ?_
   intro W9 hb9 hg9
   have HP:=Lib.hid (hX7.put (cs:=thArr (stepR (tOps B w) s th cd).1) (fun y hy=>by cases hy) hb9 hg9)
   refine hK.out _ _ ?_
   clear hK K
   go_wp2_with fail
   go_meet
   case rel=>exact ⟨ub,rfl,HP.out⟩
 case rest=>
  obtain ⟨ub,rfl,hX⟩:=hcut
  obtain ⟨s2,hs2⟩: ∃s2,(stepR (tOps B w) s th cd).2=s2:=⟨_,rfl⟩
  obtain ⟨t2,ht2⟩: ∃t2,(stepR (tOps B w) s th cd).1=t2:=⟨_,rfl⟩
  have hnt:s2.ths.length=s.ths.length:=by
   have :=(tStep_ok HB.out.1 HH.out.1 w hw).2.ok.nt
   rw [HT.out.1,HT.out.2,hs2]at this
   rw [this,HH.out.1.ok.nt]
  have HE:=Lib.hid (show tStep B s w={s2 with ths:=s2.ths.set w t2} from by
   unfold tStep
   rw [HT.out.1,HT.out.2]
   show ({(stepR (tOps B w) s th cd).2 with ths:=(stepR (tOps B w) s th cd).2.ths.set w (stepR (tOps B w) s th cd).1}:Mst)=_
   rw [hs2,ht2])
  rw [hs2,ht2]at hX
  replace hX:=hX.drew
  have hw5:w<s2.ths.length:=by omega
  obtain ⟨own1,V,bcs,h1⟩:=hX.parts
  obtain ⟨g,cap,e1,hgc,hgm,hra,_,hgn,hog,_⟩:=h1.thAt hw5
  have hbm:=h1.blt
  have c1:wc.drew.cell? ⟨B.mb,1,none⟩=some (.slice (some ⟨g,0,none⟩) s2.ths.length cap):=by rw [<-e1];exact h1.cell (j:=1) (by decide) rfl
  have hub:=hX.blk
  have hw0:(0:Int)<=(w:Int):=by omega
  have hw3:(w:Int)<(s2.ths.length:Int):=by omega
  have HF:=Lib.hid (And.intro c1 (And.intro hub hbm))
  have HM:=Lib.hid (show∀own1,MInv tsoL B s2 own1 wc.drew->Moves (MInv tsoL B) {s2 with ths:=s2.ths.set w t2} own1 wc.drew (wc.drew.setCells g (w*10) t2.cells)/\wc.drew.there g (w*10) 10 from fun own1 hI=>by
   obtain ⟨V',bcs',h'⟩:=hI
   obtain ⟨g',cap',e',_,_,_,hth',_,_,_,hput',_⟩:=h'.thAt hw5
   have c1':wc.drew.cell? ⟨B.mb,1,none⟩=some (.slice (some ⟨g',0,none⟩) s2.ths.length cap'):=by rw [<-e'];exact h'.cell (j:=1) (by decide) rfl
   have e:=Option.some.inj (c1.symm.trans c1')
   injection e with e _ _
   injection e with e
   injection e with e _ _
   subst e
   exact ⟨hput' t2,hth'⟩)
  have HX4:=Lib.hid hX
  clear h1 e1 hgc hgm hra hgn hog hbm c1 hub hs2 ht2 hnt hX hw5
  go_wp2
  refine startG (fun W'=>Below wc.drew.heap.size wc.drew W') 7 (by kernel_rfl) ?_
  generalize wc.drew=W0 at HF HM HX4⊢
  have hH:Below W0.heap.size W0 W0:=Below.refl _ _
  refine takeA (i:=0) (v:= .pointer (some ⟨B.mb,0,none⟩)) rfl hH ?_
  simp only [Act.put,zA,zB,zC,zD,zE,zF]
  refine takeA (i:=1) (v:= .pointer (some ⟨B.mb,0,none⟩)) rfl hH ?_
  simp only [Act.put,zA,zB,zC,zD,zE,zF]
  refine takeA (i:=2) (v:= .pointer (some ⟨B.mb,1,none⟩)) rfl hH ?_
  simp only [Act.put,zA,zB,zC,zD,zE,zF]
  refine takeT (i:=3) (v:= .slice (some ⟨g,0,none⟩) s2.ths.length cap) rfl (by kernel_rfl) (by kernel_rfl) (by kernel_rfl) (by kernel_rfl) (fun _ _ _ h=>h) (Or.inl ⟨by rfl,fun W hW=>by have q0:=keepAt hW HF.out.2.2 HF.out.1;go_simp⟩) hH ?_
  simp only [Act.put,zA,zB,zC,zD,zE,zF]
  refine takeA (i:=4) (v:= .int .i64 (w:Int)) rfl hH ?_
  simp only [Act.put,zA,zB,zC,zD,zE,zF]
  refine takeT (i:=5) (v:= .agg (thArr t2)) rfl (by kernel_rfl) (by kernel_rfl) (by kernel_rfl) (by kernel_rfl) (fun _ _ _ h=>h) (yields_row (by rfl) 124 (.tmp 4) rfl ub rfl (thArr t2) (fun _ hS=>run_row _ _ _ _ _ _ (HF.out.2.1.below hS HF.out.2.1.lt) Tryz.underlying124 rfl th_info)) hH ?_
  simp only [Act.put,zA,zB,zC,zD,zE,zF]
  refine takeA (i:=6) (v:= .pointer (some ⟨g,w*10,none⟩)) rfl hH ?_
  simp only [Act.put,zA,zB,zC,zD,zE,zF]
  refine lastG (by kernel_rfl) rfl (by kernel_rfl) (fun K hK=>?_)
  obtain ⟨own3,hI3,ho3,hk3,_⟩:=HX4.out
  refine step_store_mid rfl 124 (.tmp 30) (.tmp 29) rfl g (w*10) (thArr t2) rfl rfl (HM.out own3 hI3).2 th_info (th_one _) ?_
  have HP:=Lib.hid (Moves.after ho3 hk3 (HM.out own3 hI3).1)
  clear hI3 ho3 hk3
  refine hK.out _ _ ?_
  clear hK K
  go_wp2
  go_end0
  exact ⟨⟨_,rfl⟩,by rw [HE.out];exact HP.out⟩
set_option maxHeartbeats 1000000 in
theorem tpick_out (B:MB) (s:Mst) (own:Nat->Prop) (W:World) (hI:MInv tsoL B s own W) (k x:Int) (hx:x<0∨(s.ths.length:Int)<=x):
 Calls Tryz.prog 36 #[.pointer (some ⟨B.mb,0,none⟩),.agg #[.int .i64 k,.int .i64 x]] W fun e W'=>(∃u,e= .returned u)/\Moves (MInv tsoL B) s own W W':=by
 have hxx:=hx
 clear hx
 have hlo:=hI.lo
 have hX0:=(MovesX.start hI).alloc 78 #[.int .i64 k,.int .i64 x]
 obtain ⟨own1,V,bcs,h1⟩:=hX0.parts
 obtain ⟨tA,cap,e1,hgc,hgm⟩:=own_cap (h1.rows 1 (by decide))
 have ecn:cnt B s 1=s.ths.length:=rfl
 rw [ecn]at e1
 have c1:(W.alloc (.cells #[.int .i64 k,.int .i64 x] 78)).cell? ⟨B.mb,1,none⟩=some (.slice tA s.ths.length cap):=by rw [<-e1];exact h1.cell (j:=1) (by decide) rfl
 have hx:=hX0.blk
 obtain ⟨xb,hxb⟩: ∃xb,W.heap.size=xb:=⟨_,rfl⟩
 have hne:xb≠B.mb:=by
  have :=hI.lt B.mb (by obtain ⟨V,bcs,h⟩:=hI;exact h.mb)
  omega
 have HX:=Lib.hid hX0
 clear h1 e1 ecn hI hlo hX0 hgc hgm
 go_enter Tryz.func36,Tryz.ntmps36
 go_upto_region 1 with fail
 rw [hxb]at hx HX
 try rw [hxb]
 have x0:(W.alloc (.cells #[.int .i64 k,.int .i64 x] 78)).cell? ⟨xb,0,none⟩=some (.int .i64 k):=hx.cell 0
 have x1:(W.alloc (.cells #[.int .i64 k,.int .i64 x] 78)).cell? ⟨xb,1,none⟩=some (.int .i64 x):=hx.cell 1
 clear hx hxb
 generalize W.alloc (.cells #[.int .i64 k,.int .i64 x] 78)=W1 at c1 x0 x1 HX⊢
 by_cases h0:x<0
 ·clear hxx
  go_quiet (fail)
  go_wp2
  exact bodyPost_ret (results_none rfl _ _ _) rfl ⟨⟨_,rfl⟩,(HX.out.drewN _).moves⟩
 ·have h1:(s.ths.length:Int)<=x:=by omega
  clear hxx
  go_quiet (fail)
  go_wp2
  exact bodyPost_ret (results_none rfl _ _ _) rfl ⟨⟨_,rfl⟩,(HX.out.drewN _).moves⟩
set_option maxHeartbeats 1000000 in
theorem tpick_none (B:MB) (s:Mst) (own:Nat->Prop) (W:World) (hI:MInv tsoL B s own W) (k:Int) (hk0:k≠0) (hk1:k≠1) (hk2:k≠2) (w:Nat) (hw:w<s.ths.length):
 Calls Tryz.prog 36 #[.pointer (some ⟨B.mb,0,none⟩),.agg #[.int .i64 k,.int .i64 (w:Int)]] W fun e W'=>(∃u,e= .returned u)/\Moves (MInv tsoL B) s own W W':=by
 have hlo:=hI.lo
 have hX0:=(MovesX.start hI).alloc 78 #[.int .i64 k,.int .i64 (w:Int)]
 obtain ⟨own1,V,bcs,h1⟩:=hX0.parts
 obtain ⟨tA,cap,e1,hgc,hgm⟩:=own_cap (h1.rows 1 (by decide))
 have ecn:cnt B s 1=s.ths.length:=rfl
 rw [ecn]at e1
 have c1:(W.alloc (.cells #[.int .i64 k,.int .i64 (w:Int)] 78)).cell? ⟨B.mb,1,none⟩=some (.slice tA s.ths.length cap):=by rw [<-e1];exact h1.cell (j:=1) (by decide) rfl
 have hx:=hX0.blk
 obtain ⟨xb,hxb⟩: ∃xb,W.heap.size=xb:=⟨_,rfl⟩
 have hne:xb≠B.mb:=by
  have :=hI.lt B.mb (by obtain ⟨V,bcs,h⟩:=hI;exact h.mb)
  omega
 have HX:=Lib.hid hX0
 clear h1 e1 ecn hI hlo hX0 hgc hgm
 go_enter Tryz.func36,Tryz.ntmps36
 go_upto_region 1 with fail
 rw [hxb]at hx HX
 try rw [hxb]
 have x0:(W.alloc (.cells #[.int .i64 k,.int .i64 (w:Int)] 78)).cell? ⟨xb,0,none⟩=some (.int .i64 k):=hx.cell 0
 have x1:(W.alloc (.cells #[.int .i64 k,.int .i64 (w:Int)] 78)).cell? ⟨xb,1,none⟩=some (.int .i64 (w:Int)):=hx.cell 1
 clear hx hxb
 generalize W.alloc (.cells #[.int .i64 k,.int .i64 (w:Int)] 78)=W1 at c1 x0 x1 HX⊢
 have hw0: ¬(w:Int)<0:=by omega
 have hw1: ¬(s.ths.length:Int)<=(w:Int):=by omega
 have k0:(k==0)=false:=by simpa using hk0
 have k1:(k==1)=false:=by simpa using hk1
 have k2:(k==2)=false:=by simpa using hk2
 clear hk0 hk1 hk2
 go_quiet (fail)
 go_upto_region 2 with fail
 have hX1:=(HX.out.drewN nq).alloc 161 #[.pointer (some ⟨B.mb,0,none⟩),.int .i64 (w:Int)]
 obtain ⟨sb,hsb⟩: ∃sb,W1.heap.size=sb:=⟨_,rfl⟩
 rw [show (W1.drewN nq).heap.size=sb from hsb]at hX1
 go_upto_region 3 with fail
 generalize (W1.drewN nq).alloc (.cells #[.pointer (some ⟨B.mb,0,none⟩),.int .i64 (w:Int)] 161)=Wc at hX1⊢
 have x0:Wc.cell? ⟨xb,0,none⟩=some (.int .i64 k):=hX1.tail.blk.cell 0
 have x1:Wc.cell? ⟨xb,1,none⟩=some (.int .i64 (w:Int)):=hX1.tail.blk.cell 1
 have s0:Wc.cell? ⟨sb,0,none⟩=some (.pointer (some ⟨B.mb,0,none⟩)):=hX1.blk.cell 0
 have s1:Wc.cell? ⟨sb,1,none⟩=some (.int .i64 (w:Int)):=hX1.blk.cell 1
 have HX1:=Lib.hid hX1
 clear c1 HX hne hw0 hw1 hX1 hsb
 go_wp2
 go_end0
 exact ⟨⟨_,rfl⟩,HX1.out.moves⟩
set_option maxHeartbeats 2000000 in
theorem tpick_step (B:MB) (hB:MBok B) (hr16:B.room<=16) (s:Mst) (hs:TOk B s) (hc:mCan B 3 s) (own:Nat->Prop) (W:World) (hI:MInv tsoL B s own W) (hT:Tab W) (w:Nat) (hw:w<s.ths.length):
 Calls Tryz.prog 36 #[.pointer (some ⟨B.mb,0,none⟩),.agg #[.int .i64 0,.int .i64 (w:Int)]] W fun e W'=>(∃u,e= .returned u)/\Moves (MInv tsoL B) (tStep B s w) own W W':=by
 have HH:=Lib.hid (And.intro hB (And.intro hr16 (And.intro hs (And.intro hc (And.intro hI.lo hT)))))
 clear hB hr16 hs hc hT
 have hlo:=hI.lo
 have hX0:=(MovesX.start hI).alloc 78 #[.int .i64 0,.int .i64 (w:Int)]
 obtain ⟨own1,V,bcs,h1⟩:=hX0.parts
 obtain ⟨tA,cap,e1,hgc,hgm⟩:=own_cap (h1.rows 1 (by decide))
 have ecn:cnt B s 1=s.ths.length:=rfl
 rw [ecn]at e1
 have c1:(W.alloc (.cells #[.int .i64 0,.int .i64 (w:Int)] 78)).cell? ⟨B.mb,1,none⟩=some (.slice tA s.ths.length cap):=by rw [<-e1];exact h1.cell (j:=1) (by decide) rfl
 have hx:=hX0.blk
 obtain ⟨xb,hxb⟩: ∃xb,W.heap.size=xb:=⟨_,rfl⟩
 have hne:xb≠B.mb:=by
  have :=hI.lt B.mb (by obtain ⟨V,bcs,h⟩:=hI;exact h.mb)
  omega
 have HX:=Lib.hid hX0
 clear h1 e1 ecn hI hlo hX0 hgc hgm
 go_enter Tryz.func36,Tryz.ntmps36
 go_upto_region 1 with fail
 rw [hxb]at hx HX
 try rw [hxb]
 have x0:(W.alloc (.cells #[.int .i64 0,.int .i64 (w:Int)] 78)).cell? ⟨xb,0,none⟩=some (.int .i64 0):=hx.cell 0
 have x1:(W.alloc (.cells #[.int .i64 0,.int .i64 (w:Int)] 78)).cell? ⟨xb,1,none⟩=some (.int .i64 (w:Int)):=hx.cell 1
 clear hx hxb
 generalize W.alloc (.cells #[.int .i64 0,.int .i64 (w:Int)] 78)=W1 at c1 x0 x1 HX⊢
 have hw0: ¬(w:Int)<0:=by omega
 have hw1: ¬(s.ths.length:Int)<=(w:Int):=by omega
 go_quiet (fail)
 go_upto_region 2 with fail
 have hX1:=(HX.out.drewN nq).alloc 161 #[.pointer (some ⟨B.mb,0,none⟩),.int .i64 (w:Int)]
 obtain ⟨sb,hsb⟩: ∃sb,W1.heap.size=sb:=⟨_,rfl⟩
 rw [show (W1.drewN nq).heap.size=sb from hsb]at hX1
 go_upto_region 3 with fail
 generalize (W1.drewN nq).alloc (.cells #[.pointer (some ⟨B.mb,0,none⟩),.int .i64 (w:Int)] 161)=Wc at hX1⊢
 have x0:Wc.cell? ⟨xb,0,none⟩=some (.int .i64 0):=hX1.tail.blk.cell 0
 have x1:Wc.cell? ⟨xb,1,none⟩=some (.int .i64 (w:Int)):=hX1.tail.blk.cell 1
 have s0:Wc.cell? ⟨sb,0,none⟩=some (.pointer (some ⟨B.mb,0,none⟩)):=hX1.blk.cell 0
 have s1:Wc.cell? ⟨sb,1,none⟩=some (.int .i64 (w:Int)):=hX1.blk.cell 1
 have HX1:=Lib.hid hX1
 clear c1 HX hne hw0 hw1 hX1 hsb
 go_upto_region 5 with fail
 have hS:Calls Tryz.prog 74 #[.pointer (some ⟨B.mb,0,none⟩),.int .i64 (w:Int)] Wc _:=HX1.out.call (s':=tStep B s w) (R:=fun e=> ∃u,e= .returned u) (fun own1 h1=>tstep_any B HH.out.1 HH.out.2.1 s HH.out.2.2.1 HH.out.2.2.2.1 own1 Wc h1 (HX1.out.tab HH.out.2.2.2.2.1 HH.out.2.2.2.2.2) w hw)
 go_wp2_with fail
 with_reducible refine hS.mono ?_
 rintro e W2 ⟨⟨u,rfl⟩,hX2⟩
 have HX2:=Lib.hid hX2
 clear hS hX2 x0 x1 s0 s1
 go_wp2
 go_end0
 exact ⟨⟨_,rfl⟩,HX2.out.moves⟩
set_option maxHeartbeats 2000000 in
theorem tpick_flush (B:MB) (s:Mst) (hs:TOk B s) (hc:mCan B 3 s) (own:Nat->Prop) (W:World) (hI:MInv tsoL B s own W) (w:Nat) (hw:w<s.ths.length):
 Calls Tryz.prog 36 #[.pointer (some ⟨B.mb,0,none⟩),.agg #[.int .i64 1,.int .i64 (w:Int)]] W fun e W'=>(∃u,e= .returned u)/\Moves (MInv tsoL B) (tflush w s) own W W':=by
 have HH:=Lib.hid (And.intro hs hc)
 clear hs hc
 have hlo:=hI.lo
 have hX0:=(MovesX.start hI).alloc 78 #[.int .i64 1,.int .i64 (w:Int)]
 obtain ⟨own1,V,bcs,h1⟩:=hX0.parts
 obtain ⟨tA,cap,e1,hgc,hgm⟩:=own_cap (h1.rows 1 (by decide))
 have ecn:cnt B s 1=s.ths.length:=rfl
 rw [ecn]at e1
 have c1:(W.alloc (.cells #[.int .i64 1,.int .i64 (w:Int)] 78)).cell? ⟨B.mb,1,none⟩=some (.slice tA s.ths.length cap):=by rw [<-e1];exact h1.cell (j:=1) (by decide) rfl
 have hx:=hX0.blk
 obtain ⟨xb,hxb⟩: ∃xb,W.heap.size=xb:=⟨_,rfl⟩
 have hne:xb≠B.mb:=by
  have :=hI.lt B.mb (by obtain ⟨V,bcs,h⟩:=hI;exact h.mb)
  omega
 have HX:=Lib.hid hX0
 clear h1 e1 ecn hI hlo hX0 hgc hgm
 go_enter Tryz.func36,Tryz.ntmps36
 go_upto_region 1 with fail
 rw [hxb]at hx HX
 try rw [hxb]
 have x0:(W.alloc (.cells #[.int .i64 1,.int .i64 (w:Int)] 78)).cell? ⟨xb,0,none⟩=some (.int .i64 1):=hx.cell 0
 have x1:(W.alloc (.cells #[.int .i64 1,.int .i64 (w:Int)] 78)).cell? ⟨xb,1,none⟩=some (.int .i64 (w:Int)):=hx.cell 1
 clear hx hxb
 generalize W.alloc (.cells #[.int .i64 1,.int .i64 (w:Int)] 78)=W1 at c1 x0 x1 HX⊢
 have hw0: ¬(w:Int)<0:=by omega
 have hw1: ¬(s.ths.length:Int)<=(w:Int):=by omega
 go_quiet (fail)
 go_upto_region 2 with fail
 have hX1:=(HX.out.drewN nq).alloc 161 #[.pointer (some ⟨B.mb,0,none⟩),.int .i64 (w:Int)]
 obtain ⟨sb,hsb⟩: ∃sb,W1.heap.size=sb:=⟨_,rfl⟩
 rw [show (W1.drewN nq).heap.size=sb from hsb]at hX1
 go_upto_region 3 with fail
 generalize (W1.drewN nq).alloc (.cells #[.pointer (some ⟨B.mb,0,none⟩),.int .i64 (w:Int)] 161)=Wc at hX1⊢
 have x0:Wc.cell? ⟨xb,0,none⟩=some (.int .i64 1):=hX1.tail.blk.cell 0
 have x1:Wc.cell? ⟨xb,1,none⟩=some (.int .i64 (w:Int)):=hX1.tail.blk.cell 1
 have s0:Wc.cell? ⟨sb,0,none⟩=some (.pointer (some ⟨B.mb,0,none⟩)):=hX1.blk.cell 0
 have s1:Wc.cell? ⟨sb,1,none⟩=some (.int .i64 (w:Int)):=hX1.blk.cell 1
 have HX1:=Lib.hid hX1
 clear c1 HX hne hw0 hw1 hX1 hsb
 go_upto_region 7 with fail
 have hS:Calls Tryz.prog 75 #[.agg #[.pointer (some ⟨B.mb,0,none⟩),.int .i64 (w:Int)]] Wc _:=HX1.out.call (s':=tflush w s) (R:=fun e=> ∃u,e= .returned u) (fun own1 h1=>tflush_any B s own1 Wc h1 (by have :=HH.out.2.evs;omega) w (by have h1:=HH.out.1.bl;have h2:=HH.out.1.ok.nt;omega) HH.out.2.buf)
 go_wp2_with fail
 with_reducible refine hS.mono ?_
 rintro e W2 ⟨⟨u,rfl⟩,hX2⟩
 have HX2:=Lib.hid hX2
 clear hS hX2 x0 x1 s0 s1
 go_wp2
 go_end0
 exact ⟨⟨_,rfl⟩,HX2.out.moves⟩
set_option maxHeartbeats 2000000 in
theorem tpick_rouse (B:MB) (s:Mst) (own:Nat->Prop) (W:World) (hI:MInv tsoL B s own W) (hm:s.slp.length<=10000) (hev:s.evs.length+1<=1000000000) (w:Nat) (hw:w<s.ths.length):
 Calls Tryz.prog 36 #[.pointer (some ⟨B.mb,0,none⟩),.agg #[.int .i64 2,.int .i64 (w:Int)]] W fun e W'=>(∃u,e= .returned u)/\Moves (MInv tsoL B) (rouseM w s) own W W':=by
 have hlo:=hI.lo
 have hX0:=(MovesX.start hI).alloc 78 #[.int .i64 2,.int .i64 (w:Int)]
 obtain ⟨own1,V,bcs,h1⟩:=hX0.parts
 obtain ⟨tA,cap,e1,hgc,hgm⟩:=own_cap (h1.rows 1 (by decide))
 have ecn:cnt B s 1=s.ths.length:=rfl
 rw [ecn]at e1
 have c1:(W.alloc (.cells #[.int .i64 2,.int .i64 (w:Int)] 78)).cell? ⟨B.mb,1,none⟩=some (.slice tA s.ths.length cap):=by rw [<-e1];exact h1.cell (j:=1) (by decide) rfl
 have hx:=hX0.blk
 obtain ⟨xb,hxb⟩: ∃xb,W.heap.size=xb:=⟨_,rfl⟩
 have hne:xb≠B.mb:=by
  have :=hI.lt B.mb (by obtain ⟨V,bcs,h⟩:=hI;exact h.mb)
  omega
 have HX:=Lib.hid hX0
 clear h1 e1 ecn hI hlo hX0 hgc hgm
 go_enter Tryz.func36,Tryz.ntmps36
 go_upto_region 1 with fail
 rw [hxb]at hx HX
 try rw [hxb]
 have x0:(W.alloc (.cells #[.int .i64 2,.int .i64 (w:Int)] 78)).cell? ⟨xb,0,none⟩=some (.int .i64 2):=hx.cell 0
 have x1:(W.alloc (.cells #[.int .i64 2,.int .i64 (w:Int)] 78)).cell? ⟨xb,1,none⟩=some (.int .i64 (w:Int)):=hx.cell 1
 clear hx hxb
 generalize W.alloc (.cells #[.int .i64 2,.int .i64 (w:Int)] 78)=W1 at c1 x0 x1 HX⊢
 have hw0: ¬(w:Int)<0:=by omega
 have hw1: ¬(s.ths.length:Int)<=(w:Int):=by omega
 go_quiet (fail)
 go_upto_region 2 with fail
 have hX1:=(HX.out.drewN nq).alloc 161 #[.pointer (some ⟨B.mb,0,none⟩),.int .i64 (w:Int)]
 obtain ⟨sb,hsb⟩: ∃sb,W1.heap.size=sb:=⟨_,rfl⟩
 rw [show (W1.drewN nq).heap.size=sb from hsb]at hX1
 go_upto_region 3 with fail
 generalize (W1.drewN nq).alloc (.cells #[.pointer (some ⟨B.mb,0,none⟩),.int .i64 (w:Int)] 161)=Wc at hX1⊢
 have x0:Wc.cell? ⟨xb,0,none⟩=some (.int .i64 2):=hX1.tail.blk.cell 0
 have x1:Wc.cell? ⟨xb,1,none⟩=some (.int .i64 (w:Int)):=hX1.tail.blk.cell 1
 have s0:Wc.cell? ⟨sb,0,none⟩=some (.pointer (some ⟨B.mb,0,none⟩)):=hX1.blk.cell 0
 have s1:Wc.cell? ⟨sb,1,none⟩=some (.int .i64 (w:Int)):=hX1.blk.cell 1
 have HX1:=Lib.hid hX1
 clear c1 HX hne hw0 hw1 hX1 hsb
 go_upto_region 9 with fail
 go_still_tail 5,(by kernel_rfl)
 change wpList _ _ _ _ _ Wc.drew
 have hR:Calls Tryz.prog 76 #[.pointer (some ⟨B.mb,4,none⟩),.int .i64 (w:Int)] Wc.drew _:=HX1.out.drew.call (s':=(rouseK w s).2) (R:=fun e=>e= .returned (.bool (rouseK w s).1)) (fun own1 h1=>by obtain ⟨V,bcs,h1⟩:=h1;exact h1.rouses rfl hm w)
 go_wp2_with fail
 with_reducible refine hR.mono ?_
 rintro e W2 ⟨rfl,hX2⟩
 clear hR x0 x1 s0 s1
 unfold rouseK at hX2⊢
 by_cases hf:fnd s.slp (w:Int)<s.slp.length
 ·rw [if_pos hf]at hX2
  rw [if_pos hf]
  have HFN:=Lib.hid hf
  obtain ⟨s2,hs2⟩: ∃s2:Mst,({s with slp:=s.slp.eraseIdx (fnd s.slp (w:Int))}:Mst)=s2:=⟨_,rfl⟩
  have h2t:s2.ths=s.ths:=by rw [<-hs2]
  have h2e:s2.evs=s.evs:=by rw [<-hs2]
  have HS:=Lib.hid (show ({s with slp:=s.slp.eraseIdx (fnd s.slp (w:Int)),ths:=s.ths.set w {s.ths.getD w tha with st:=0}}:Mst)={s2 with ths:=s2.ths.set w {s2.ths.getD w tha with st:=0}} from by rw [<-hs2])
  replace hX2:MovesX tsoL B s2 own W W2 [⟨sb,161,#[.pointer (some ⟨B.mb,0,none⟩),.int .i64 (w:Int)]⟩,⟨xb,78,#[.int .i64 2,.int .i64 (w:Int)]⟩]:=by rw [<-hs2];exact hX2
  clear hs2
  have HX2:=Lib.hid hX2
  have hw5:w<s2.ths.length:=by rw [h2t];exact hw
  have hev2:s2.evs.length+1<=1000000000:=by rw [h2e];exact hev
  have hnt:s2.ths.length=s.ths.length:=by rw [h2t]
  have HV:=Lib.hid hev2
  clear hX2 HX1 hf hev h2t h2e hev2
  go_upto_region 10 with fail
  have hX:=HX2.out.drew
  obtain ⟨own1,V,bcs,h1⟩:=hX.parts
  obtain ⟨g,cap,e1,hgc,hgm,hra,hth,hgn,hog,_⟩:=h1.thAt hw5
  have hbm:=h1.blt
  have c1:W2.drew.cell? ⟨B.mb,1,none⟩=some (.slice (some ⟨g,0,none⟩) s2.ths.length cap):=by rw [<-e1];exact h1.cell (j:=1) (by decide) rfl
  have x1:W2.drew.cell? ⟨xb,1,none⟩=some (.int .i64 (w:Int)):=hX.tail.blk.cell 1
  have hxl:=hX.tail.blk.lt
  have q9:=hra 9 _ rfl
  have f9:=(hth 9 (by decide)).2
  have hgl:=(h1.lo g hog).2
  have hw6:(0:Int)<=(w:Int):=by omega
  have hw3:(w:Int)<(s2.ths.length:Int):=by omega
  have HF:=Lib.hid (And.intro c1 (And.intro x1 (And.intro q9 (And.intro hbm (And.intro hxl (And.intro hgl f9))))))
  have HM:=Lib.hid (show∀own1,MInv tsoL B s2 own1 W2.drew->Moves (MInv tsoL B) {s2 with ths:=s2.ths.set w {s2.ths.getD w tha with st:=0}} own1 W2.drew (W2.drew.setCell ⟨g,w*10+9,none⟩ (.int .i64 0)) from fun own1 hI=>by
   obtain ⟨V',bcs',h'⟩:=hI
   obtain ⟨g',cap',e',_,_,_,hth',_,_,_,_,hput'⟩:=h'.thAt hw5
   have c1':W2.drew.cell? ⟨B.mb,1,none⟩=some (.slice (some ⟨g',0,none⟩) s2.ths.length cap'):=by rw [<-e'];exact h'.cell (j:=1) (by decide) rfl
   have e:=Option.some.inj (c1.symm.trans c1')
   injection e with e _ _
   injection e with e
   injection e with e _ _
   subst e
   exact hput' 0)
  have HX4:=Lib.hid hX
  clear h1 e1 hgc hgm hra hth hgn hog hbm c1 x1 hxl hX hw5 q9 f9 hgl HX2
  refine startG (fun W'=>Below W2.drew.heap.size W2.drew W') 8 (by kernel_rfl) ?_
  generalize W2.drew=W0 at HF HM HX4⊢
  have hH:Below W0.heap.size W0 W0:=Below.refl _ _
  refine takeA (i:=0) (v:= .pointer (some ⟨B.mb,0,none⟩)) rfl hH ?_
  simp only [Act.put,zA,zB,zC,zD,zE,zF]
  refine takeA (i:=1) (v:= .pointer (some ⟨B.mb,0,none⟩)) rfl hH ?_
  simp only [Act.put,zA,zB,zC,zD,zE,zF]
  refine takeA (i:=2) (v:= .pointer (some ⟨B.mb,1,none⟩)) rfl hH ?_
  simp only [Act.put,zA,zB,zC,zD,zE,zF]
  refine takeT (i:=3) (v:= .slice (some ⟨g,0,none⟩) s2.ths.length cap) rfl (by kernel_rfl) (by kernel_rfl) (by kernel_rfl) (by kernel_rfl) (fun _ _ _ h=>h) (Or.inl ⟨by rfl,fun W hW=>by have q0:=keepAt hW HF.out.2.2.2.1 HF.out.1;go_simp⟩) hH ?_
  simp only [Act.put,zA,zB,zC,zD,zE,zF]
  refine takeA (i:=4) (v:= .pointer (some ⟨xb,1,none⟩)) rfl hH ?_
  simp only [Act.put,zA,zB,zC,zD,zE,zF]
  refine takeT (i:=5) (v:= .int .i64 (w:Int)) rfl (by kernel_rfl) (by kernel_rfl) (by kernel_rfl) (by kernel_rfl) (fun _ _ _ h=>h) (Or.inl ⟨by rfl,fun W hW=>by have q0:=keepAt hW HF.out.2.2.2.2.1 HF.out.2.1;go_simp⟩) hH ?_
  simp only [Act.put,zA,zB,zC,zD,zE,zF]
  refine takeA (i:=6) (v:= .pointer (some ⟨g,w*10,none⟩)) rfl hH ?_
  simp only [Act.put,zA,zB,zC,zD,zE,zF]
  refine takeA (i:=7) (v:= .pointer (some ⟨g,w*10+9,none⟩)) rfl hH ?_
  simp only [Act.put,zA,zB,zC,zD,zE,zF]
  refine lastG (by kernel_rfl) rfl (by kernel_rfl) (fun K hK=>?_)
  have q9:=HF.out.2.2.1
  have f9:=HF.out.2.2.2.2.2.2
  go_simp
  clear q9 f9
  have hX5:=HX4.out.bind HM.out
  refine hK.out _ _ ?_
  clear hK K HM HF HX4
  generalize W0.setCell ⟨g,w*10+9,none⟩ (.int .i64 0)=W5 at hX5⊢
  have s0:W5.cell? ⟨sb,0,none⟩=some (.pointer (some ⟨B.mb,0,none⟩)):=hX5.blk.cell 0
  have s1:W5.cell? ⟨sb,1,none⟩=some (.int .i64 (w:Int)):=hX5.blk.cell 1
  have hN:Calls Tryz.prog 77 #[.agg #[.pointer (some ⟨B.mb,0,none⟩),.int .i64 (w:Int)],.agg #[.int .i64 11,.int .i64 0,.int .i64 0,.int .i64 0,.int .u32 0,.int .u32 0,.int .u32 0,.bool false]] W5 _:=hX5.call (s':=noteM (w:Int) {s2 with ths:=s2.ths.set w {s2.ths.getD w tha with st:=0}} ⟨11,0,0,0,0,0,0,false⟩) (R:=fun e=> ∃u,e= .returned u) (fun own1 h1=>by simpa only using (tnote_any B {s2 with ths:=s2.ths.set w {s2.ths.getD w tha with st:=0}} own1 W5 h1 HV.out w ⟨11,0,0,0,0,0,0,false⟩))
  clear hX5
  go_wp2_with fail
  with_reducible refine hN.mono ?_
  rintro e W6 ⟨⟨u,rfl⟩,hX6⟩
  have HX6:=Lib.hid hX6
  clear hN hX6 s0 s1
  go_wp2
  go_end0
  exact ⟨⟨_,rfl⟩,by unfold rouseM;rw [if_pos HFN.out,HS.out];exact HX6.out.moves⟩
 ·rw [if_neg hf]at hX2
  rw [if_neg hf]
  have HFN:=Lib.hid hf
  have HX2:=Lib.hid hX2
  clear hX2 HX1 hf
  go_wp2
  go_end0
  exact ⟨⟨_,rfl⟩,by unfold rouseM;rw [if_neg HFN.out];exact HX2.out.moves⟩
theorem tpick_any (B:MB) (hB:MBok B) (hr16:B.room<=16) (s:Mst) (hs:TOk B s) (hc:mCan B 3 s) (own:Nat->Prop) (W:World) (hI:MInv tsoL B s own W) (hT:Tab W) (x:Int×Int):
 Calls Tryz.prog 36 #[.pointer (some ⟨B.mb,0,none⟩),.agg #[.int .i64 x.1,.int .i64 x.2]] W fun e W'=>(∃u,e= .returned u)/\Moves (MInv tsoL B) (tPick B s x) own W W':=by
 obtain ⟨k,z⟩:=x
 unfold tPick
 dsimp only
 by_cases hz:z<0∨(s.ths.length:Int)<=z
 ·rw [if_pos hz]
  exact tpick_out B s own W hI k z hz
 ·rw [if_neg hz]
  obtain ⟨w,rfl⟩: ∃w:Nat,z=(w:Int):=⟨z.toNat,by omega⟩
  have hw:w<s.ths.length:=by omega
  rw [Int.toNat_natCast]
  by_cases h0:k=0
  ·rw [if_pos h0];subst h0
   exact tpick_step B hB hr16 s hs hc own W hI hT w hw
  rw [if_neg h0]
  by_cases h1:k=1
  ·rw [if_pos h1];subst h1
   exact tpick_flush B s hs hc own W hI w hw
  rw [if_neg h1]
  by_cases h2:k=2
  ·rw [if_pos h2];subst h2
   exact tpick_rouse B s own W hI (by have :=hc.slp;omega) (by have :=hc.evs;omega) w hw
  rw [if_neg h2]
  exact tpick_none B s own W hI k h0 h1 h2 w hw
end Go.Proofs.YtmhfpjnkjlhbpaaGreatDoor
