/- asm.Builder: Code (printed by gen/bldc.py). The state in which a machine with buffers begins is right. A thread alone: what serves its laws (printed by gen/alone.py out of XSeqR, XSeqA). A machine with buffers (plain): the numbers that its events tell are words; how many events there are. -/
import Derived.Test.YtmhfpjnkjlhbpaaGreatDoorQf29
import Derived.Test.YtmhfpjnkjlhbpaaGreatDoorQf18
import Derived.BigQuiet
import Derived.Test.YtmhfpjnkjlhbpaaGreatDoorQf22
import Derived.Laws.OwnMore
import Derived.Test.YtmhfpjnkjlhbpaaGreatDoorQf26
import Derived.Test.YtmhfpjnkjlhbpaaGreatDoorQf24
namespace Go.Proofs.YtmhfpjnkjlhbpaaGreatDoor
open Go.ChangeShapes Go.WideShapes Go.ChangeAt Go.RowKit Go.Deep
set_option linter.unusedVariables false
set_option maxRecDepth 100000
set_option linter.unusedSimpArgs false
open List renaming getElem_toArray->zA,getElem_cons_zero->zB,getElem_cons_succ->zC,setIfInBounds_toArray->zD,set_cons_zero->zE,set_cons_succ->zF
def lnk (ps:List (List UInt8×Nat)) (c:List Ins) (x:Nat×List UInt8):List Ins:=c.set x.1 {c.getD x.1 default with k:=(((ps.lookup x.2).getD 0:Nat):Int)}
def BB.outK (b:BB) (k:Nat):List Ins:=(b.links.take k).foldl (lnk b.places) b.code
def BB.out (b:BB):List Ins:=b.links.foldl (lnk b.places) b.code
def BB.fits (b:BB):Bool:=b.links.all fun x=>decide (x.1<b.code.length)&&jmpB (b.code.getD x.1 default).op&&decide (x.2.length<=20)&&(match b.places.lookup x.2 with|some v=>decide (v<=1000)|none=>false)
theorem lnk_len (ps:List (List UInt8×Nat)) (c:List Ins) (x:Nat×List UInt8):(lnk ps c x).length=c.length:=by simp [lnk]
theorem lnk_op (ps:List (List UInt8×Nat)) (c:List Ins) (x:Nat×List UInt8) (i:Nat):((lnk ps c x).getD i default).op=(c.getD i default).op:=by
 unfold lnk
 simp only [List.getD_eq_getElem?_getD,List.getElem?_set]
 by_cases h:x.1=i
 ·subst h
  by_cases hl:x.1<c.length
  ·simp [hl]
  ·simp [hl]
 ·simp [h]
theorem BB.outK_succ (b:BB) (k:Nat) (h:k<b.links.length):b.outK (k+1)=lnk b.places (b.outK k) (b.links.getD k (0,[])):=by
 unfold BB.outK
 rw [List.take_add_one,List.foldl_append,List.getElem?_eq_getElem h]
 simp [List.getD,List.getElem?_eq_getElem h]
theorem BB.outK_len (b:BB): ∀k,(b.outK k).length=b.code.length:=by
 intro k
 unfold BB.outK
 generalize b.links.take k=l
 generalize b.code=c
 induction l generalizing c with
 |nil=>rfl
 |cons x l ih=>exact (ih _).trans (lnk_len _ _ _)
theorem BB.outK_op (b:BB) (i:Nat): ∀k,((b.outK k).getD i default).op=(b.code.getD i default).op:=by
 intro k
 unfold BB.outK
 generalize b.links.take k=l
 generalize b.code=c
 induction l generalizing c with
 |nil=>rfl
 |cons x l ih=>exact (ih _).trans (lnk_op _ _ _ _)
theorem BB.outK_all (b:BB):b.outK b.links.length=b.out:=by unfold BB.outK BB.out;rw [List.take_length]
theorem BB.fit (b:BB) (h:b.fits=true) (k:Nat) (hk:k<b.links.length): ∃at_ s v,b.links.getD k (0,[])=(at_,s)/\at_<b.code.length/\jmpB (b.code.getD at_ default).op=true/\s.length<=20/\b.places.lookup s=some v/\v<=1000:=by
 have h:=List.all_eq_true.1 h (b.links[k]) (List.getElem_mem _)
 have e:b.links.getD k (0,[])=b.links[k]:=by simp [List.getD,List.getElem?_eq_getElem hk]
 rw [e]
 generalize b.links[k]=x at h⊢
 obtain ⟨a,s⟩:=x
 simp only [Bool.and_eq_true,decide_eq_true_eq]at h
 obtain ⟨⟨⟨h1,h2⟩,h3⟩,h4⟩:=h
 cases hl:b.places.lookup s with
 |none=>rw [hl]at h4;cases h4
 |some v=>rw [hl]at h4;exact ⟨a,s,v,rfl,h1,h2,h3,hl,by simpa using h4⟩
theorem BParts.look {N0:Nat} {W:World} {bb mb:Nat} {b:BB} {vc vl:Value} (h:BParts N0 W bb b vc vl (some mb)) {s:List UInt8} (hs:s.length<=20) {v:Nat} (hv:b.places.lookup s=some v):
 (Instr.lookup 127 (.map (some mb)) (str s) true).run Tryz.prog W= .ok (.tuple #[.int .i64 (v:Int),.bool true]) W:=by
 obtain ⟨DW,hm1,hm2,hm3⟩:=h.looks
 obtain ⟨x,ps,hlk,hx⟩:=hm1.look_ok key_law Tryz.underlying127 (zero_intB W) (plainElem_int Tryz.underlying3 (show (Lit.int .i64 0).wf=true from by decide)) (key_str (s:=s) (by unfold maxLen;omega))
 rw [hm3 s v hv]at hx
 obtain ⟨c,rfl,hc,_⟩:=plainElem_int_inv Tryz.underlying3 hx
 rw [hm2 s,hv]at hlk
 simp only [Prod.mk.injEq,DataW.lit.injEq,Lit.int.injEq]at hc
 rw [<-hc.1.2]at hlk
 exact hlk
def OutI (W:World) (v:Value) (l:List Ins) (W':World):Prop:= ∃og cap cs,v= .slice (some ⟨og,0,none⟩) l.length cap/\Blk W' og 75 cs/\cs.size=cap*5/\l.length<=cap/\cap<=maxLen/\W.heap.size<=og/\ ∀i,i<l.length->InsAt cs i (l.getD i default)
theorem ins_at_row {cs:Array Value} {l:List Ins} {n:Nat} (hl:l.length=n) (h:cs.toList.take (n*5)=l.flatMap Ins.cells) (i:Nat) (hi:i<n):InsAt cs i (l.getD i default):=by
 intro j u hu
 have hj:j<5:=(List.getElem?_eq_some_iff.1 hu).1
 have e:(l.flatMap Ins.cells)[i*5+j]?=some u:=by
  subst hl
  clear h
  induction l generalizing i with
  |nil=>exact absurd hi (by simp)
  |cons x l ih=>
   rw [List.flatMap_cons]
   cases i with
   |zero=>
    rw [List.getElem?_append_left (by show 0*5+j<5;omega)]
    simpa using hu
   |succ i=>
    rw [List.getElem?_append_right (by show 5<=_;omega),show (i+1)*5+j-x.cells.length=i*5+j from by show _-5=_;omega]
    first|exact ih i (by simpa using hi) (by simpa using hu)|exact ih i (by simpa using hu) (by simpa using hi)
 rw [<-h,List.getElem?_take_of_lt (by have :i+1<=n:=hi;have :=Nat.mul_le_mul_right 5 this;omega)]at e
 simpa using e
set_option maxHeartbeats 4000000 in
theorem bcode_any (N0 bb:Nat) (b:BB) (W:World) (h:BI N0 W bb b) (hT:Tab W) (hf:b.fits=true) (hl:b.links.length<=1000) (hn:b.code.length<=1000) (hn0:0<b.code.length):
 Calls Tryz.prog 56 #[.pointer (some ⟨bb,0,none⟩)] W fun e W'=>(∃v,e= .returned (.tuple #[v,.bool true])/\OutI W v b.out W')/\Below W.heap.size W W':=by
 obtain ⟨vc,vl,mo,hP⟩:=h
 have cC:=clone_instrs_own vc b.code.length N0 (b.code.flatMap Ins.cells) W hP.code (fun x hx=>by
  obtain ⟨y,_,hy⟩:=List.mem_flatMap.1 hx
  simp only [Ins.cells,List.mem_cons,List.not_mem_nil,or_false]at hy
  rcases hy with rfl|rfl|rfl|rfl|rfl<;>rfl) (by omega)
 have q0:=(hP.blk.cell 0).trans rfl
 have HP:=Lib.hid hP
 have HF:=Lib.hid (And.intro hf (And.intro hl (And.intro hn (And.intro hn0 hT))))
 clear hP hf hl hn hn0 hT
 go_enter Tryz.func56,Tryz.ntmps56
 go_wp2_with fail
 with_reducible refine cC.mono ?_
 rintro e W1 ⟨v1,rfl,hr1,hB1⟩
 clear cC q0
 obtain ⟨AL,capl,el,_,hsl⟩:=own_sle lkc (fun _=>rfl) (0,[]) b.links HP.out.links
 obtain ⟨nl,hnl⟩: ∃nl,b.links.length=nl:=⟨_,rfl⟩
 have q2:=((HP.out.below hB1).blk.cell 2).trans rfl
 rw [el,hnl]at q2
 rw [hnl]at hsl
 rcases hr1.2 with ⟨_,h0⟩|⟨og,cap,cur,rfl,hog,hblk,hcn,hcm,hcs,htk⟩
 ·exact absurd h0 (by have :=HF.out.2.2.2.1;omega)
 have HS:=Lib.hid hsl
 have HC:=Lib.hid (And.intro hblk (And.intro hcs (And.intro hcn (And.intro hcm (And.intro hog (And.intro htk hB1))))))
 clear hsl hr1 hblk hcs hcn hcm htk hB1
 go_wp2_with fail
 obtain ⟨n,hnn⟩: ∃n,b.code.length=n:=⟨_,rfl⟩
 rw [hnn]at HC⊢
 clear q2 el
 go_loopw [19] (fun v wr=> ∃k:Nat,k<=nl/\v= .int .i64 k/\ ∃cs:Array Value,Blk wr og 75 cs/\cs.size=cap*5/\(∀i,i<n->InsAt cs i ((b.outK k).getD i default))/\Below W.heap.size W wr)
  (fun v _=>nl-(intOf v).toNat)
 case atStart=>
  refine ⟨0,Nat.zero_le _,rfl,cur,HC.out.1,HC.out.2.1,fun i hi=>?_,HC.out.2.2.2.2.2.2⟩
  have :=ins_at_row (l:=b.code) hnn HC.out.2.2.2.2.2.1 i hi
  simpa [BB.outK]using this
 case round=>
  obtain ⟨k,hk,rfl,cs,hblk,hcs,hdone,hB⟩:=hrel
  have HD:=Lib.hid hdone
  have HG:=Lib.hid (And.intro hcs hB)
  clear hdone hcs
  have hlg:=hblk.lt
  have h1000:nl<=1000:=by have :=HF.out.2.1;omega
  have HC0:=Lib.hid hblk
  by_cases hlt:k<nl
  ·obtain ⟨g,off,rfl,hbW,hcW⟩:=HS.out.step hB (by omega)
   have hcj:=hcW k hlt
   dsimp only at hcj
   obtain ⟨at_,s,v,e1,hat,hjm,hsl,hlk,hv⟩:=b.fit HF.out.1 k (by omega)
   rw [e1]at hcj
   have k0:wr.cell? ⟨g,off+k*2,none⟩=some (.int .i64 (at_:Int)):=hcj 0 _ rfl
   have k1:wr.cell? ⟨g,off+k*2+1,none⟩=some (.string ⟨s.toArray⟩):=hcj 1 _ rfl
   have hPr:=HP.out.below hB
   rcases mo with _|mb
   ·have :b.places=[]:=hPr.places
    rw [this]at hlk;cases hlk
   have HJ:=Lib.hid (And.intro e1 (And.intro hat (And.intro hjm (And.intro hlk (And.intro hsl hv)))))
   have HR:=Lib.hid hPr
   have hkl:(k:Int)<(nl:Int):=by omega
   clear hcW hcj e1 hat hjm hsl hlk hv hPr hblk hB hbW
   go_wp2_with fail
   have hal:=(Below.refl wr.heap.size wr).alloc (Nat.le_refl _) (.cells #[.int .i64 (at_:Int),.string ⟨s.toArray⟩] 184)
   have hX:=Blk.new wr 184 #[.int .i64 (at_:Int),.string ⟨s.toArray⟩]
   have HB5:=Lib.hid (HC0.out.alloc (.cells #[.int .i64 (at_:Int),.string ⟨s.toArray⟩] 184))
   have hP5:=HR.out.below hal
   have hB5:=step_below HG.out.2 hal
   clear k0 k1 hkl
   generalize wr.alloc (.cells #[.int .i64 (at_:Int),.string ⟨s.toArray⟩] 184)=W5 at hX HB5 hP5 hB5 hal⊢
   have hxl:=hX.lt
   generalize wr.heap.size=xb at hX hxl hal⊢
   have q1:=(hP5.blk.cell 1).trans rfl
   have x0:=(hX.cell 0).trans rfl
   have x1:=(hX.cell 1).trans rfl
   have hlk:=(hP5.below (below_drewB W5)).look HJ.out.2.2.2.2.1 HJ.out.2.2.2.1
   unfold str at hlk
   have HX:=Lib.hid hX
   have HP5:=Lib.hid (And.intro hP5 hB5)
   have hx6:xb<W5.drew.heap.size:=hxl
   clear hX hP5 hB5 hal hxl
   refine startG (fun W'=>W'=W5.drew) 11 (by kernel_rfl) ?_
   have q1:W5.drew.cell? ⟨bb,1,none⟩=some (.map (some mb)):=q1
   have x0:W5.drew.cell? ⟨xb,0,none⟩=some (.int .i64 (at_:Int)):=x0
   have x1:W5.drew.cell? ⟨xb,1,none⟩=some (.string ⟨s.toArray⟩):=x1
   have HB6:=Lib.hid (show Blk W5.drew og 75 cs from HB5.out)
   have HB0:=Lib.hid (show Below W.heap.size W W5.drew from step_below HP5.out.2 (below_drewB W5))
   clear HB5 HP5 HX
   generalize W5.drew=W6 at q1 x0 x1 hlk HB6 HB0 hx6⊢
   refine takeA (i:=0) (v:= .pointer (some ⟨bb,0,none⟩)) rfl rfl ?_
   simp only [Act.put,zA,zB,zC,zD,zE,zF]
   refine takeA (i:=1) (v:= .pointer (some ⟨bb,0,none⟩)) rfl rfl ?_
   simp only [Act.put,zA,zB,zC,zD,zE,zF]
   refine takeA (i:=2) (v:= .pointer (some ⟨bb,1,none⟩)) rfl rfl ?_
   simp only [Act.put,zA,zB,zC,zD,zE,zF]
   refine takeB (i:=3) (v:= .map (some mb)) rfl (Or.inl ⟨by rfl,fun W hW=>by subst hW;go_simp⟩) rfl ?_
   simp only [Act.put,zA,zB,zC,zD,zE,zF]
   refine takeA (i:=4) (v:= .pointer (some ⟨xb,1,none⟩)) rfl rfl ?_
   simp only [Act.put,zA,zB,zC,zD,zE,zF]
   refine takeB (i:=5) (v:= .string ⟨s.toArray⟩) rfl (Or.inl ⟨by rfl,fun W hW=>by subst hW;go_simp⟩) rfl ?_
   simp only [Act.put,zA,zB,zC,zD,zE,zF]
   refine takeB (i:=6) (v:= .tuple #[.int .i64 (v:Int),.bool true]) rfl (Or.inl ⟨by rfl,fun W hW=>by subst hW;go_simp⟩) rfl ?_
   simp only [Act.put,zA,zB,zC,zD,zE,zF]
   refine takeA (i:=7) (v:= .tuple #[.int .i64 (v:Int),.bool true]) rfl rfl ?_
   simp only [Act.put,zA,zB,zC,zD,zE,zF]
   refine takeA (i:=8) (v:= .int .i64 (v:Int)) rfl rfl ?_
   simp only [Act.put,zA,zB,zC,zD,zE,zF]
   refine takeA (i:=9) (v:= .bool true) rfl rfl ?_
   simp only [Act.put,zA,zB,zC,zD,zE,zF]
   refine takeA (i:=10) (v:= .int .i64 (v:Int)) rfl rfl ?_
   simp only [Act.put,zA,zB,zC,zD,zE,zF]
   refine lastG (by kernel_rfl) rfl (by kernel_rfl) (fun K hK=>?_)
   go_simp
   refine hK.out _ _ ?_
   clear hK K q1 hlk x1
   have hatn:(at_:Int)<(n:Int):=by have :=HJ.out.2.1;omega
   have hin:=HD.out at_ (by omega)
   have hop:((b.outK k).getD at_ default).op=(b.code.getD at_ default).op:=BB.outK_op b at_ k
   obtain ⟨q,hq⟩: ∃q,(b.outK k).getD at_ default=q:=⟨_,rfl⟩
   rw [hq]at hin hop
   have c0:W6.cell? ⟨og,at_*5,none⟩=some (.int .i64 q.op):=(HB6.out.cell (at_*5)).trans (hin 0 _ rfl)
   have hT6:Tab W6:=HF.out.2.2.2.2.step HB0.out
   have cJ:=jumps_any q.op W6 hT6
   rw [show jmpB q.op=true from by rw [hop];exact HJ.out.2.2.1]at cJ
   have HQ:=Lib.hid (And.intro hq hin)
   clear hq hin hop hT6
   go_wp2_with fail
   with_reducible refine cJ.mono ?_
   rintro e W7 ⟨rfl,hb7⟩
   have hB7:=HB6.out.below hb7 HB6.out.lt
   have HB7:=Lib.hid (And.intro hB7 (step_below HB0.out hb7))
   have c4:W7.cell? ⟨og,at_*5+4,none⟩=some (.int .u32 q.k):=(hB7.cell (at_*5+4)).trans (HQ.out.2 4 _ rfl)
   have f4:=hB7.frozen (at_*5+4)
   have x0':W7.cell? ⟨xb,0,none⟩=some (.int .i64 (at_:Int)):=keepAt hb7 hx6 x0
   have hv0:(v:Int)<=1000:=by have :=HJ.out.2.2.2.2.2;omega
   clear cJ c0 x0 hb7 hB7 hx6
   go_wp2
   go_roundw
   case rel=>
    refine ⟨k+1,by omega,by go_num,_,HB7.out.1.set_ (at_*5+4) _,by simp [HG.out.1],fun i hi=>?_,HB7.out.2.setCell hog _⟩
    rw [BB.outK_succ b k (by omega),HJ.out.1]
    show InsAt _ i ((lnk b.places (b.outK k) (at_,s)).getD i default)
    have hlen:at_<(b.outK k).length:=by rw [BB.outK_len];exact HJ.out.2.1
    by_cases hi2:at_=i
    ·subst hi2
     have e:(lnk b.places (b.outK k) (at_,s)).getD at_ default={q with k:=(v:Int)}:=by
      simp only [lnk,HQ.out.1,HJ.out.2.2.2.1,Option.getD_some,List.getD_eq_getElem?_getD,List.getElem?_set_self hlen]
     rw [e]
     exact HQ.out.2.setK _
    ·have e:(lnk b.places (b.outK k) (at_,s)).getD i default=(b.outK k).getD i default:=by
      simp only [lnk,List.getD_eq_getElem?_getD,List.getElem?_set_ne hi2]
     rw [e]
     exact (HD.out i hi).set_other (fun q=>hi2 q.symm) 4 (by decide) _
   case measure=>simp [intOf];omega
  ·obtain rfl:k=nl:=by omega
   have q3:=((HP.out.below hB).blk.cell 3).trans rfl
   clear hlt
   go_wp2
   go_ret2
   have hol:b.out.length=n:=by rw [<-BB.outK_all,BB.outK_len,hnn]
   refine ⟨⟨_,rfl,og,cap,cs,by rw [hol];rfl,HC0.out,HG.out.1,by rw [hol];exact HC.out.2.2.1,HC.out.2.2.2.1,hog,fun i hi=>?_⟩,hB⟩
   have :=HD.out i (by rw [hol]at hi;exact hi)
   rw [hnl.symm,BB.outK_all]at this
   exact this
theorem t0_ok {p:Pg} {B:MB} (ho:p.Ok) (h:NewM p B):TOk B (t0 p) where
 ok:=⟨by show (List.replicate p.n tha).length=_;rw [List.length_replicate,h.n],fun t ht=>by rw [(List.mem_replicate.1 ht).2];exact tha_regs,fun z hz=>by
  obtain ⟨i,hi,rfl⟩:=List.mem_map.1 hz
  exact ho.z0 i (List.mem_range.1 hi),fun b hb e he=>(by rw [(List.mem_replicate.1 hb).2]at he;cases he),⟨List.nodup_nil,fun x hx=>by cases hx⟩⟩
 bl:=by show (List.replicate p.n _).length=_;rw [List.length_replicate,h.n]
theorem tot_nil (n:Nat):tot (List.replicate n [])=0:=by
 induction n with
 |zero=>rfl
 |succ n ih=>rw [List.replicate_succ];simp [tot]at ih⊢
theorem sl_ins {W:World} {g cap:Nat} {cs:Array Value} {l:List Ins} (hb:Blk W g 75 cs) (h: ∀i,i<l.length->InsAt cs i (l.getD i default)):Sl W (some ⟨g,0,none⟩) (l.length*5) (fun k=>(l.flatMap Ins.cells).getD k undef):=fun hpos=>by
 refine ⟨g,0,rfl,hb.lt,fun k hk=>?_⟩
 have hi:k/5<l.length:=by omega
 have hj:k % 5<5:=by omega
 have e:=flat_get Ins.cells 5 (fun _=>rfl) default l (k/5) hi (k % 5) hj
 rw [show k/5*5+k % 5=k by omega]at e
 have hlt:k % 5<((l.getD (k/5) default).cells).length:=hj
 rw [List.getElem?_eq_getElem hlt]at e
 have :=h (k/5) hi (k % 5) _ (List.getElem?_eq_getElem hlt)
 rw [show k/5*5+k % 5=k by omega]at this
 rw [Nat.zero_add,hb.cell,this]
 have e2:(l.flatMap Ins.cells).getD k undef=((l.getD (k/5) default).cells)[k % 5]:=by rw [List.getD_eq_getElem?_getD,e];rfl
 exact congrArg some e2.symm
theorem ins_cells_one (l:List Ins): ∀k,k<l.length*5->((l.flatMap Ins.cells).getD k undef).oneCell'=true:=fun k hk=>by
 have hj:k % 5<5:=by omega
 have e:=flat_get Ins.cells 5 (fun _=>rfl) default l (k/5) (by omega) (k % 5) hj
 rw [show k/5*5+k % 5=k by omega]at e
 rw [List.getD_eq_getElem?_getD,e]
 have :k % 5=0∨k % 5=1∨k % 5=2∨k % 5=3∨k % 5=4:=by omega
 rcases this with h|h|h|h|h<;>rw [h]<;>rfl
theorem wpList_append_ins {w:World} {ops:Array Oper} {rest:List Oper} {o:Oper} {a:Act} {Q:Exit->Act->World->Prop} (hgd:o.guard=none) (s x:Operand)
 (ho:o.op= .call {callee:= .builtin .append,args:= #[s,x],argTypes:= #[50,50]}) (base:Nat) (v:Value) (l l2:List Ins) (hs:a.eval s=v) (hown:w.ownsRow base 75 5 v l.length (l.flatMap Ins.cells))
 (A:Option Addr) (c:Nat) (hx:a.eval x= .slice A l2.length c) (hr:Sl w A (l2.length*5) (fun k=>(l2.flatMap Ins.cells).getD k undef)) (hb:l.length+l2.length<=1000000) (hbase:base<=w.heap.size)
 (h: ∀A' c' w',w'.ownsRow base 75 5 (.slice A' (l++l2).length c') (l++l2).length ((l++l2).flatMap Ins.cells)->w.grownBy w' v.ownBlock->Below base w w'->wpList Tryz.prog ops Q rest (a.put o.dst (.slice A' (l++l2).length c')) w'):wpList Tryz.prog ops Q (o::rest) a w:=by
 obtain ⟨i0,hi,hy0,hy1,hy2⟩:=info_parts insB_info5
 refine wpList_append_sl w hgd s x 50 ho base 75 i0 _ 5 40 Tryz.underlying50 hi hy0 hy1 hy2 rfl (by omega) v l.length _ hs hown A l2.length c (fun k=>(l2.flatMap Ins.cells).getD k undef) hx hr (ins_cells_one l2) (by unfold maxLen;omega) (by omega) hbase ?_
 intro v' w' h1 h2 _
 have hl2:(l2.flatMap Ins.cells).length=l2.length*5:=by
  clear hr hb hx h h1 h2
  induction l2 with
  |nil=>rfl
  |cons y l2 ih=>rw [List.flatMap_cons,List.length_append,ih];show 5+_=_;rw [List.length_cons];omega
 rw [range_getD _ _ hl2,<-List.flatMap_append]at h1
 have hw:=below_of_grown hbase h2 fun g e=>(own_in hown g e).1
 rw [show l.length+l2.length=(l++l2).length from by simp]at h1
 obtain ⟨A',c',rfl,_,_⟩:=own_cap h1
 exact h A' c' w' h1 h2 hw
theorem sle_ins {W:World} {g:Nat} {cs:Array Value} {l:List Ins} (hb:Blk W g 75 cs) (h: ∀i,i<l.length->InsAt cs i (l.getD i default)):SlE W (some ⟨g,0,none⟩) l.length 5 (fun i=>(l.getD i default).cells):=fun hpos=>
 ⟨g,0,rfl,hb.lt,fun i hi j u hu=>by rw [hb.cell,Nat.zero_add];exact h i hi j u hu⟩
theorem sl_one (W:World) (x:Ins):Sl (W.alloc (.cells x.cells.toArray 75)) (some ⟨W.heap.size,0,none⟩) ([x].length*5) (fun k=>([x].flatMap Ins.cells).getD k undef):=
 sl_ins (cap:=0) (Blk.new _ _ _) fun i hi j u hu=>by
  obtain rfl:i=0:=by simp at hi;omega
  rw [Nat.zero_mul,Nat.zero_add]
  simpa using hu
theorem words_infoA:(Tryz.prog.info? 42).map (fun i=>(i.zero,i.size,i.bytes))=some (some (.int .u32 0),1,4):=by kernel_rfl
theorem makeW (m:Nat) (hm:m<=1000) (w:World):(Instr.makeSlice 27 (.int .i64 (m:Int)) (.int .i64 (m:Int))).run Tryz.prog w= .ok (.slice (some ⟨w.heap.size,0,none⟩) m m) (w.alloc (.cells (List.replicate m (Value.int .u32 0)).toArray 42)):=by
 obtain ⟨i,hi,hz,hs,hb⟩:=info_parts words_infoA
 have hr:=run_make (P:=Tryz.prog) w 27 42 i _ Tryz.underlying27 hi hz .i64 .i64 m m (by omega) (by omega) (by rw [hb];omega) (by omega)
 rw [hs]at hr
 simp only [Int.toNat_natCast,Nat.mul_one]at hr
 have e:madeCells (Value.int .u32 0).cells m=(List.replicate m (Value.int .u32 0)).toArray:=by
  exact Array.ext' (toList_madeCells_one _ _)
 rw [e]at hr
 exact hr
def toEv (x:Evt):Ev:=⟨x.kind,x.who,x.pc,x.addr,x.value,x.old,x.k,x.ok⟩
def ev0:Evt:=⟨0,0,0,0,0,0,0,false⟩
theorem oL_evs (l:List Evt) (t:Int):oL (evs (fun i=>toEv (l.getD i ev0)) t l.length)=(l.filter fun x=>x.who==t&&x.kind==6).map fun x=>x.value:=by
 have : ∀k,k<=l.length->oL (evs (fun i=>toEv (l.getD i ev0)) t k)=((l.take k).filter fun x=>x.who==t&&x.kind==6).map fun x=>x.value:=by
  intro k hk
  induction k with
  |zero=>rfl
  |succ k ih=>
   have ih:=ih (by omega)
   unfold oL evs at ih⊢
   rw [List.range_succ,List.map_append,List.filter_append,List.filter_append,List.map_append,ih,List.take_add_one,List.getElem?_eq_getElem (show k<l.length by omega),List.filter_append,List.map_append]
   congr 1
   have e:l.getD k ev0=l[k]:=by simp [List.getD_eq_getElem?_getD,List.getElem?_eq_getElem (show k<l.length by omega)]
   simp only [List.map_cons,List.map_nil,e,Option.toList_some]
   generalize l[k]=x
   unfold toEv
   by_cases c1:x.who==t<;>by_cases c2:x.kind==6<;>simp [c1,c2]
 have h:=this l.length (Nat.le_refl _)
 rw [List.take_length]at h
 exact h
def EvK (l:List Evt):Prop:= ∀x∈l,0<=x.k/\x.k<=4294967295
theorem EvK.snoc {l:List Evt} (h:EvK l) {x:Evt} (hx:0<=x.k/\x.k<=4294967295):EvK (l++[x]):=fun y hy=>by
 rcases List.mem_append.1 hy with hy|hy
 ·exact h y hy
 ·rw [List.mem_singleton.1 hy];exact hx
section
variable {B:MB}
theorem insR_evk (t:Nat) (s:Mst) (th:Th) (i:Ins) (hk:0<=i.k/\i.k<=4294967295) (h:EvK s.evs):EvK (insR (tOps B t) s th i).2.evs:=by
 have z:(0:Int)<=0/\(0:Int)<=4294967295:=by decide
 have hf: ∀(t:Nat) (s:Mst),EvK s.evs->EvK (tflush t s).evs:=fun t s h=>by
  unfold tflush
  split
  ·exact h
  ·exact h.snoc z
 have hfn: ∀(t n:Nat) (s:Mst),EvK s.evs->EvK (tflushN t n s).evs:=fun t n=>by
  induction n with
  |zero=>exact fun _ h=>h
  |succ n ih=>exact fun s h=>ih _ (hf t s h)
 have hrem: ∀(s:Mst),EvK s.evs->EvK (tremote s).evs:=fun s h=>by
  unfold tremote
  generalize List.range s.bufs.length=l
  induction l generalizing s with
  |nil=>exact h
  |cons a l ih=>exact ih _ (hfn a _ _ h)
 have hn: ∀(s:Mst) (x:Evt),EvK s.evs->(0<=x.k/\x.k<=4294967295)->EvK (noteM (t:Int) s x).evs:=fun s x h hx=>h.snoc hx
 have hlock: ∀(s:Mst) (pc:Int) (m:Nat) (old v:Int) (ok:Bool),EvK s.evs->EvK (lockS (tOps B t) s pc m old v ok).evs:=fun s pc m old v ok h=>by
  unfold lockS
  cases ok
  ·exact hn _ _ h z
  ·exact hn _ _ (show EvK ({s with mem:=s.mem.set m v}:Mst).evs from h) z
 have hst: ∀(a:Nat) (v:Int),EvK ((tOps B t).store s a v).evs:=fun a v=>by
  show EvK (if a<B.m then ({s with bufs:=_}:Mst)else s).evs
  split<;>exact h
 have hsl: ∀(s:Mst) (a:Nat),EvK s.evs->EvK ((tOps B t).sleep s a).evs:=fun s a h=>by
  show EvK (sleepM (t:Int) s a).evs
  unfold sleepM
  split<;>exact h
 unfold insR
 split
 ·exact hf _ _ h
 split
 ·exact hf _ _ h
 split
 ·exact hn _ _ h z
 split
 ·exact h
 split
 ·show EvK (asksR (tOps B t) s th _ _ _ _).2.evs
  unfold asksR
  split
  ·exact hn _ _ h z
  split
  ·exact hn _ _ (hst _ _) z
  split
  ·exact hlock _ _ _ _ _ _ h
  split
  ·exact hlock _ _ _ _ _ _ h
  split
  ·exact hlock _ _ _ _ _ _ h
  split
  ·unfold waitR
   split
   ·exact hsl _ _ (hn _ _ h z)
   ·exact hn _ _ h z
  ·exact hn _ _ h z
 ·show EvK (plainR (tOps B t) s th _ _ _ _ _ _).2.evs
  unfold plainR
  repeat' split
  all_goals first
   |exact h
   |exact hn _ _ h z
   |exact hn _ _ h hk
   |exact hn _ _ (hrem _ h) z
theorem tPick_evk {s:Mst} (hB:MBok B) (hs:TOk B s) (h:EvK s.evs) (x:Int×Int):EvK (tPick B s x).evs:=by
 have z:(0:Int)<=0/\(0:Int)<=4294967295:=by decide
 unfold tPick
 split
 ·exact h
 rename_i hin
 split
 ·show EvK (stepR (tOps B x.2.toNat) s _ _).2.evs
  have ht:x.2.toNat<B.codes.length:=by
   have :=hs.ok.nt
   omega
  have hc:B.codes.getD x.2.toNat cdd∈B.codes:=getD_mem ht
  unfold stepR
  split
  ·exact h
  split
  ·exact h.snoc z
  split
  ·exact h.snoc z
  split
  ·exact h.snoc z
  ·rename_i h1 h2 h3 h4
   have :=((hB.cods _ hc).ins (s.ths.getD x.2.toNat tha).pc.toNat (by omega))
   exact insR_evk _ _ _ _ ⟨this.k0,this.k1⟩ h
 split
 ·unfold tflush
  split
  ·exact h
  ·exact h.snoc z
 split
 ·unfold rouseM
  split
  ·exact h.snoc z
  ·exact h
 ·exact h
theorem tRun_evk (hB:MBok B): ∀(l:List (Int×Int)) {s:Mst},TOk B s->EvK s.evs->EvK (tRun B s l).evs
 |[],_,_,h=>h
 |x::l,s,hs,h=>tRun_evk hB l (tPick_ok hB hs x) (tPick_evk hB hs h x)
def EvC (K n:Nat) (s:Mst):Prop:=s.evs.length+tot s.bufs+n<=K
theorem EvC.mono {K n m:Nat} {s:Mst} (h:EvC K n s) (hm:m<=n):EvC K m s:=by unfold EvC at*;omega
theorem EvC.flush {K n:Nat} {s:Mst} (h:EvC K n s) (t:Nat):EvC K n (tflush t s):=by
 cases hb:s.bufs.getD t []with
 |nil=>rw [tflush_nil hb];exact h
 |cons x l=>
  have ht:t<s.bufs.length:=by
   rcases Nat.lt_or_ge t s.bufs.length with h1|h1
   ·exact h1
   ·rw [getD_nil_of_ge _ _ _ h1]at hb;cases hb
  rw [tflush_cons hb]
  have h2:=tot_set s.bufs t l ht
  rw [hb]at h2
  unfold EvC at*
  simp only [List.length_cons]at h2
  simp only [List.length_append,List.length_cons,List.length_nil]
  omega
theorem EvC.note {K n:Nat} {s:Mst} (h:EvC K (n+1) s) (t:Int) (x:Evt):EvC K n (noteM t s x):=by
 unfold EvC at*
 show (s.evs++[_]).length+tot s.bufs+n<=K
 simp only [List.length_append,List.length_cons,List.length_nil]
 omega
theorem insR_evc {K n:Nat} (t:Nat) (s:Mst) (th:Th) (i:Ins) (h:EvC K (n+2) s):EvC K n (insR (tOps B t) s th i).2:=by
 have h1:EvC K (n+1) s:=h.mono (by omega)
 have h0:EvC K n s:=h.mono (by omega)
 have hfn: ∀(t m:Nat) (s:Mst) (k:Nat),EvC K k s->EvC K k (tflushN t m s):=fun t m=>by
  induction m with
  |zero=>exact fun _ _ h=>h
  |succ m ih=>exact fun s k h=>ih _ k (h.flush t)
 have hrem: ∀(s:Mst) (k:Nat),EvC K k s->EvC K k (tremote s):=fun s k h=>by
  unfold tremote
  generalize List.range s.bufs.length=l
  induction l generalizing s with
  |nil=>exact h
  |cons a l ih=>exact ih _ (hfn a _ _ _ h)
 have hlock: ∀(s:Mst) (pc:Int) (m:Nat) (old v:Int) (ok:Bool),EvC K (n+1) s->EvC K n (lockS (tOps B t) s pc m old v ok):=fun s pc m old v ok h=>by
  unfold lockS
  cases ok
  ·exact EvC.note h _ _
  ·exact EvC.note (s:={s with mem:=s.mem.set m v}) h _ _
 have hst: ∀(a:Nat) (v:Int),EvC K (n+1) ((tOps B t).store s a v):=fun a v=>by
  show EvC K (n+1) (if a<B.m then ({s with bufs:=_}:Mst)else s)
  split
  ·unfold EvC at*
   show s.evs.length+tot (s.bufs.set t (s.bufs.getD t []++[((a:Int),v)]))+(n+1)<=K
   rcases Nat.lt_or_ge t s.bufs.length with ht|ht
   ·have :=tot_set s.bufs t (s.bufs.getD t []++[((a:Int),v)]) ht
    simp only [List.length_append,List.length_cons,List.length_nil]at this
    omega
   ·rw [List.set_eq_of_length_le ht];omega
  ·exact h1
 have hsl: ∀(s:Mst) (a:Nat) (k:Nat),EvC K k s->EvC K k ((tOps B t).sleep s a):=fun s a k h=>by
  show EvC K k (sleepM (t:Int) s a)
  unfold sleepM
  split<;>exact h
 unfold insR
 split
 ·exact h0.flush _
 split
 ·exact h0.flush _
 split
 ·exact EvC.note h1 _ _
 split
 ·exact h0
 split
 ·show EvC K n (asksR (tOps B t) s th _ _ _ _).2
  unfold asksR
  split
  ·exact EvC.note h1 _ _
  split
  ·exact EvC.note (hst _ _) _ _
  split
  ·exact hlock _ _ _ _ _ _ h1
  split
  ·exact hlock _ _ _ _ _ _ h1
  split
  ·exact hlock _ _ _ _ _ _ h1
  split
  ·unfold waitR
   split
   ·exact hsl _ _ _ (EvC.note h1 _ _)
   ·exact EvC.note h1 _ _
  ·exact EvC.note (s:=((tOps B t).wake s _ _).2) h1 _ _
 ·show EvC K n (plainR (tOps B t) s th _ _ _ _ _ _).2
  unfold plainR
  repeat' split
  all_goals first
   |exact h0
   |exact EvC.note h1 _ _
   |exact EvC.note (hrem _ _ h1) _ _
theorem tPick_evc {K n:Nat} {s:Mst} (h:EvC K (n+2) s) (x:Int×Int):EvC K n (tPick B s x):=by
 have h1:EvC K (n+1) s:=h.mono (by omega)
 have h0:EvC K n s:=h.mono (by omega)
 unfold tPick
 split
 ·exact h0
 split
 ·show EvC K n (stepR (tOps B x.2.toNat) s _ _).2
  unfold stepR
  split
  ·exact h0
  split
  ·exact EvC.note h1 _ _
  split
  ·exact EvC.note h1 _ _
  split
  ·exact EvC.note h1 _ _
  ·exact insR_evc _ _ _ _ h
 split
 ·exact h0.flush _
 split
 ·unfold rouseM
  split
  ·exact EvC.note (s:={s with slp:=_,ths:=_}) h1 _ _
  ·exact h0
 ·exact h0
theorem tRun_evc {K:Nat}: ∀(l:List (Int×Int)) {n:Nat} {s:Mst},EvC K (n+2*l.length) s->EvC K n (tRun B s l)
 |[],_,_,h=>h
 |x::l,n,s,h=>tRun_evc l (tPick_evc (n:=n+2*l.length) (h.mono (by simp only [List.length_cons];omega)) x)
theorem can_of {s:Mst} (hs:TOk B s) (hB:MBok B) (h:EvC 999999000 0 s):mCan B 3 s:=by
 have hl:s.ths.length<=8:=by rw [hs.ok.nt];exact hB.n8
 have h8:=nodup_le s.ths.length (s.slp.map (·.1)) hs.ok.slp.nd (fun x hx=>by
  obtain ⟨y,hy,e⟩:=List.mem_map.1 hx
  rw [<-e];exact hs.ok.slp.lo y hy)
 rw [List.length_map]at h8
 refine ⟨by unfold EvC at h;omega,by omega,fun x hx=>hs.ok.slp.lo x hx,fun b hb e he=>(hs.ok.buf b hb e he).1,hl⟩
end
end Go.Proofs.YtmhfpjnkjlhbpaaGreatDoor
