/- asm.Builder: Code (printed by gen/bldc.py). The state in which a machine with buffers begins is right. Events without bounds (XEv): as values; a thread's events with their places. trace.Of, as an iterator: its contract for every loop body that keeps old memory. -/
import Derived.Test.YtmhfpjnkjlhbpaaGreatDoorQe28
import Derived.Test.YtmhfpjnkjlhbpaaGreatDoorQe18
import Derived.BigQuiet
import Derived.Test.YtmhfpjnkjlhbpaaGreatDoorQe22
import Derived.Test.YtmhfpjnkjlhbpaaGreatDoorQe02
import Derived.RangeFuncNested
import Derived.RangeFuncBox
import Derived.RangeFuncBound
import Derived.RangeFuncCalls
import Derived.RangeFuncLeaves
import Derived.Shelf.Abstract
import Derived.Shelf.RegionOpen
import Derived.WalkKit
import Derived.OwnWalkIn
import Derived.TacticsInMore
import Derived.LoopNIn
import Derived.LoopIn
namespace Go.Proofs.YtmhfpjnkjlhbpaaGreatDoor
open Go.ChangeShapes Go.WideShapes Go.ChangeAt Go.RowKit Go.Deep
set_option linter.unusedVariables false
set_option maxRecDepth 100000
set_option linter.unusedSimpArgs false
open List renaming getElem_toArray->zA,getElem_cons_zero->zB,getElem_cons_succ->zC,setIfInBounds_toArray->zD,set_cons_zero->zE,set_cons_succ->zF
def lnk (ps:List (List UInt8×Nat)) (c:List Ins) (x:Nat×List UInt8):List Ins:=c.set x.1 {c.getD x.1 default with k:=(((ps.lookup x.2).getD 0:Nat):Int)}
def BB.outK (b:BB) (k:Nat):List Ins:=(b.links.take k).foldl (lnk b.places) b.code
def BB.out (b:BB):List Ins:=b.links.foldl (lnk b.places) b.code
def BB.fits (b:BB):Bool:=b.links.all fun x=>decide (x.1<b.code.length)&&jmpB (b.code.getD x.1 default).op&&decide (x.2.length<=20)&&(match b.places.lookup x.2 with|some v=>decide (v<=1000)|none=>false)
theorem lnk_len (ps:List (List UInt8×Nat)) (c:List Ins) (x:Nat×List UInt8):(lnk ps c x).length=c.length:=by simp [lnk]
theorem lnk_op (ps:List (List UInt8×Nat)) (c:List Ins) (x:Nat×List UInt8) (i:Nat):((lnk ps c x).getD i default).op=(c.getD i default).op:=by
 unfold lnk
 simp only [List.getD_eq_getElem?_getD,List.getElem?_set]
 by_cases h:x.1=i
 ·subst h
  by_cases hl:x.1<c.length
  ·simp [hl]
  ·simp [hl]
 ·simp [h]
theorem BB.outK_succ (b:BB) (k:Nat) (h:k<b.links.length):b.outK (k+1)=lnk b.places (b.outK k) (b.links.getD k (0,[])):=by
 unfold BB.outK
 rw [List.take_add_one,List.foldl_append,List.getElem?_eq_getElem h]
 simp [List.getD,List.getElem?_eq_getElem h]
theorem BB.outK_len (b:BB): ∀k,(b.outK k).length=b.code.length:=by
 intro k
 unfold BB.outK
 generalize b.links.take k=l
 generalize b.code=c
 induction l generalizing c with
 |nil=>rfl
 |cons x l ih=>exact (ih _).trans (lnk_len _ _ _)
theorem BB.outK_op (b:BB) (i:Nat): ∀k,((b.outK k).getD i default).op=(b.code.getD i default).op:=by
 intro k
 unfold BB.outK
 generalize b.links.take k=l
 generalize b.code=c
 induction l generalizing c with
 |nil=>rfl
 |cons x l ih=>exact (ih _).trans (lnk_op _ _ _ _)
theorem BB.outK_all (b:BB):b.outK b.links.length=b.out:=by unfold BB.outK BB.out;rw [List.take_length]
theorem BB.fit (b:BB) (h:b.fits=true) (k:Nat) (hk:k<b.links.length): ∃at_ s v,b.links.getD k (0,[])=(at_,s)/\at_<b.code.length/\jmpB (b.code.getD at_ default).op=true/\s.length<=20/\b.places.lookup s=some v/\v<=1000:=by
 have h:=List.all_eq_true.1 h (b.links[k]) (List.getElem_mem _)
 have e:b.links.getD k (0,[])=b.links[k]:=by simp [List.getD,List.getElem?_eq_getElem hk]
 rw [e]
 generalize b.links[k]=x at h⊢
 obtain ⟨a,s⟩:=x
 simp only [Bool.and_eq_true,decide_eq_true_eq]at h
 obtain ⟨⟨⟨h1,h2⟩,h3⟩,h4⟩:=h
 cases hl:b.places.lookup s with
 |none=>rw [hl]at h4;cases h4
 |some v=>rw [hl]at h4;exact ⟨a,s,v,rfl,h1,h2,h3,hl,by simpa using h4⟩
theorem BParts.look {N0:Nat} {W:World} {bb mb:Nat} {b:BB} {vc vl:Value} (h:BParts N0 W bb b vc vl (some mb)) {s:List UInt8} (hs:s.length<=20) {v:Nat} (hv:b.places.lookup s=some v):
 (Instr.lookup 127 (.map (some mb)) (str s) true).run Tryz.prog W= .ok (.tuple #[.int .i64 (v:Int),.bool true]) W:=by
 obtain ⟨DW,hm1,hm2,hm3⟩:=h.looks
 obtain ⟨x,ps,hlk,hx⟩:=hm1.look_ok key_law Tryz.underlying127 (zero_intB W) (plainElem_int Tryz.underlying3 (show (Lit.int .i64 0).wf=true from by decide)) (key_str (s:=s) (by unfold maxLen;omega))
 rw [hm3 s v hv]at hx
 obtain ⟨c,rfl,hc,_⟩:=plainElem_int_inv Tryz.underlying3 hx
 rw [hm2 s,hv]at hlk
 simp only [Prod.mk.injEq,DataW.lit.injEq,Lit.int.injEq]at hc
 rw [<-hc.1.2]at hlk
 exact hlk
def OutI (W:World) (v:Value) (l:List Ins) (W':World):Prop:= ∃og cap cs,v= .slice (some ⟨og,0,none⟩) l.length cap/\Blk W' og 75 cs/\cs.size=cap*5/\l.length<=cap/\cap<=maxLen/\W.heap.size<=og/\ ∀i,i<l.length->InsAt cs i (l.getD i default)
theorem ins_at_row {cs:Array Value} {l:List Ins} {n:Nat} (hl:l.length=n) (h:cs.toList.take (n*5)=l.flatMap Ins.cells) (i:Nat) (hi:i<n):InsAt cs i (l.getD i default):=by
 intro j u hu
 have hj:j<5:=(List.getElem?_eq_some_iff.1 hu).1
 have e:(l.flatMap Ins.cells)[i*5+j]?=some u:=by
  subst hl
  clear h
  induction l generalizing i with
  |nil=>exact absurd hi (by simp)
  |cons x l ih=>
   rw [List.flatMap_cons]
   cases i with
   |zero=>
    rw [List.getElem?_append_left (by show 0*5+j<5;omega)]
    simpa using hu
   |succ i=>
    rw [List.getElem?_append_right (by show 5<=_;omega),show (i+1)*5+j-x.cells.length=i*5+j from by show _-5=_;omega]
    first|exact ih i (by simpa using hi) (by simpa using hu)|exact ih i (by simpa using hu) (by simpa using hi)
 rw [<-h,List.getElem?_take_of_lt (by have :i+1<=n:=hi;have :=Nat.mul_le_mul_right 5 this;omega)]at e
 simpa using e
set_option maxHeartbeats 4000000 in
theorem bcode_any (N0 bb:Nat) (b:BB) (W:World) (h:BI N0 W bb b) (hT:Tab W) (hf:b.fits=true) (hl:b.links.length<=1000) (hn:b.code.length<=1000) (hn0:0<b.code.length):
 Calls Tryz.prog 56 #[.pointer (some ⟨bb,0,none⟩)] W fun e W'=>(∃v,e= .returned (.tuple #[v,.bool true])/\OutI W v b.out W')/\Below W.heap.size W W':=by
 obtain ⟨vc,vl,mo,hP⟩:=h
 have cC:=clone_instrs_own vc b.code.length N0 (b.code.flatMap Ins.cells) W hP.code (fun x hx=>by
  obtain ⟨y,_,hy⟩:=List.mem_flatMap.1 hx
  simp only [Ins.cells,List.mem_cons,List.not_mem_nil,or_false]at hy
  rcases hy with rfl|rfl|rfl|rfl|rfl<;>rfl) (by omega)
 have q0:=(hP.blk.cell 0).trans rfl
 have HP:=Lib.hid hP
 have HF:=Lib.hid (And.intro hf (And.intro hl (And.intro hn (And.intro hn0 hT))))
 clear hP hf hl hn hn0 hT
 go_enter Tryz.func56,Tryz.ntmps56
 go_wp2_with fail
 with_reducible refine cC.mono ?_
 rintro e W1 ⟨v1,rfl,hr1,hB1⟩
 clear cC q0
 obtain ⟨AL,capl,el,_,hsl⟩:=own_sle lkc (fun _=>rfl) (0,[]) b.links HP.out.links
 obtain ⟨nl,hnl⟩: ∃nl,b.links.length=nl:=⟨_,rfl⟩
 have q2:=((HP.out.below hB1).blk.cell 2).trans rfl
 rw [el,hnl]at q2
 rw [hnl]at hsl
 rcases hr1.2 with ⟨_,h0⟩|⟨og,cap,cur,rfl,hog,hblk,hcn,hcm,hcs,htk⟩
 ·exact absurd h0 (by have :=HF.out.2.2.2.1;omega)
 have HS:=Lib.hid hsl
 have HC:=Lib.hid (And.intro hblk (And.intro hcs (And.intro hcn (And.intro hcm (And.intro hog (And.intro htk hB1))))))
 clear hsl hr1 hblk hcs hcn hcm htk hB1
 go_wp2_with fail
 obtain ⟨n,hnn⟩: ∃n,b.code.length=n:=⟨_,rfl⟩
 rw [hnn]at HC⊢
 clear q2 el
 go_loopw [19] (fun v wr=> ∃k:Nat,k<=nl/\v= .int .i64 k/\ ∃cs:Array Value,Blk wr og 75 cs/\cs.size=cap*5/\(∀i,i<n->InsAt cs i ((b.outK k).getD i default))/\Below W.heap.size W wr)
  (fun v _=>nl-(intOf v).toNat)
 case atStart=>
  refine ⟨0,Nat.zero_le _,rfl,cur,HC.out.1,HC.out.2.1,fun i hi=>?_,HC.out.2.2.2.2.2.2⟩
  have :=ins_at_row (l:=b.code) hnn HC.out.2.2.2.2.2.1 i hi
  simpa [BB.outK]using this
 case round=>
  obtain ⟨k,hk,rfl,cs,hblk,hcs,hdone,hB⟩:=hrel
  have HD:=Lib.hid hdone
  have HG:=Lib.hid (And.intro hcs hB)
  clear hdone hcs
  have hlg:=hblk.lt
  have h1000:nl<=1000:=by have :=HF.out.2.1;omega
  have HC0:=Lib.hid hblk
  by_cases hlt:k<nl
  ·obtain ⟨g,off,rfl,hbW,hcW⟩:=HS.out.step hB (by omega)
   have hcj:=hcW k hlt
   dsimp only at hcj
   obtain ⟨at_,s,v,e1,hat,hjm,hsl,hlk,hv⟩:=b.fit HF.out.1 k (by omega)
   rw [e1]at hcj
   have k0:wr.cell? ⟨g,off+k*2,none⟩=some (.int .i64 (at_:Int)):=hcj 0 _ rfl
   have k1:wr.cell? ⟨g,off+k*2+1,none⟩=some (.string ⟨s.toArray⟩):=hcj 1 _ rfl
   have hPr:=HP.out.below hB
   rcases mo with _|mb
   ·have :b.places=[]:=hPr.places
    rw [this]at hlk;cases hlk
   have HJ:=Lib.hid (And.intro e1 (And.intro hat (And.intro hjm (And.intro hlk (And.intro hsl hv)))))
   have HR:=Lib.hid hPr
   have hkl:(k:Int)<(nl:Int):=by omega
   clear hcW hcj e1 hat hjm hsl hlk hv hPr hblk hB hbW
   go_wp2_with fail
   have hal:=(Below.refl wr.heap.size wr).alloc (Nat.le_refl _) (.cells #[.int .i64 (at_:Int),.string ⟨s.toArray⟩] 184)
   have hX:=Blk.new wr 184 #[.int .i64 (at_:Int),.string ⟨s.toArray⟩]
   have HB5:=Lib.hid (HC0.out.alloc (.cells #[.int .i64 (at_:Int),.string ⟨s.toArray⟩] 184))
   have hP5:=HR.out.below hal
   have hB5:=step_below HG.out.2 hal
   clear k0 k1 hkl
   generalize wr.alloc (.cells #[.int .i64 (at_:Int),.string ⟨s.toArray⟩] 184)=W5 at hX HB5 hP5 hB5 hal⊢
   have hxl:=hX.lt
   generalize wr.heap.size=xb at hX hxl hal⊢
   have q1:=(hP5.blk.cell 1).trans rfl
   have x0:=(hX.cell 0).trans rfl
   have x1:=(hX.cell 1).trans rfl
   have hlk:=(hP5.below (below_drewB W5)).look HJ.out.2.2.2.2.1 HJ.out.2.2.2.1
   unfold str at hlk
   have HX:=Lib.hid hX
   have HP5:=Lib.hid (And.intro hP5 hB5)
   have hx6:xb<W5.drew.heap.size:=hxl
   clear hX hP5 hB5 hal hxl
   refine startG (fun W'=>W'=W5.drew) 11 (by kernel_rfl) ?_
   have q1:W5.drew.cell? ⟨bb,1,none⟩=some (.map (some mb)):=q1
   have x0:W5.drew.cell? ⟨xb,0,none⟩=some (.int .i64 (at_:Int)):=x0
   have x1:W5.drew.cell? ⟨xb,1,none⟩=some (.string ⟨s.toArray⟩):=x1
   have HB6:=Lib.hid (show Blk W5.drew og 75 cs from HB5.out)
   have HB0:=Lib.hid (show Below W.heap.size W W5.drew from step_below HP5.out.2 (below_drewB W5))
   clear HB5 HP5 HX
   generalize W5.drew=W6 at q1 x0 x1 hlk HB6 HB0 hx6⊢
   refine takeA (i:=0) (v:= .pointer (some ⟨bb,0,none⟩)) rfl rfl ?_
   simp only [Act.put,zA,zB,zC,zD,zE,zF]
   refine takeA (i:=1) (v:= .pointer (some ⟨bb,0,none⟩)) rfl rfl ?_
   simp only [Act.put,zA,zB,zC,zD,zE,zF]
   refine takeA (i:=2) (v:= .pointer (some ⟨bb,1,none⟩)) rfl rfl ?_
   simp only [Act.put,zA,zB,zC,zD,zE,zF]
   refine takeB (i:=3) (v:= .map (some mb)) rfl (Or.inl ⟨by rfl,fun W hW=>by subst hW;go_simp⟩) rfl ?_
   simp only [Act.put,zA,zB,zC,zD,zE,zF]
   refine takeA (i:=4) (v:= .pointer (some ⟨xb,1,none⟩)) rfl rfl ?_
   simp only [Act.put,zA,zB,zC,zD,zE,zF]
   refine takeB (i:=5) (v:= .string ⟨s.toArray⟩) rfl (Or.inl ⟨by rfl,fun W hW=>by subst hW;go_simp⟩) rfl ?_
   simp only [Act.put,zA,zB,zC,zD,zE,zF]
   refine takeB (i:=6) (v:= .tuple #[.int .i64 (v:Int),.bool true]) rfl (Or.inl ⟨by rfl,fun W hW=>by subst hW;go_simp⟩) rfl ?_
   simp only [Act.put,zA,zB,zC,zD,zE,zF]
   refine takeA (i:=7) (v:= .tuple #[.int .i64 (v:Int),.bool true]) rfl rfl ?_
   simp only [Act.put,zA,zB,zC,zD,zE,zF]
   refine takeA (i:=8) (v:= .int .i64 (v:Int)) rfl rfl ?_
   simp only [Act.put,zA,zB,zC,zD,zE,zF]
   refine takeA (i:=9) (v:= .bool true) rfl rfl ?_
   simp only [Act.put,zA,zB,zC,zD,zE,zF]
   refine takeA (i:=10) (v:= .int .i64 (v:Int)) rfl rfl ?_
   simp only [Act.put,zA,zB,zC,zD,zE,zF]
   refine lastG (by kernel_rfl) rfl (by kernel_rfl) (fun K hK=>?_)
   go_simp
   refine hK.out _ _ ?_
   clear hK K q1 hlk x1
   have hatn:(at_:Int)<(n:Int):=by have :=HJ.out.2.1;omega
   have hin:=HD.out at_ (by omega)
   have hop:((b.outK k).getD at_ default).op=(b.code.getD at_ default).op:=BB.outK_op b at_ k
   obtain ⟨q,hq⟩: ∃q,(b.outK k).getD at_ default=q:=⟨_,rfl⟩
   rw [hq]at hin hop
   have c0:W6.cell? ⟨og,at_*5,none⟩=some (.int .i64 q.op):=(HB6.out.cell (at_*5)).trans (hin 0 _ rfl)
   have hT6:Tab W6:=HF.out.2.2.2.2.step HB0.out
   have cJ:=jumps_any q.op W6 hT6
   rw [show jmpB q.op=true from by rw [hop];exact HJ.out.2.2.1]at cJ
   have HQ:=Lib.hid (And.intro hq hin)
   clear hq hin hop hT6
   go_wp2_with fail
   with_reducible refine cJ.mono ?_
   rintro e W7 ⟨rfl,hb7⟩
   have hB7:=HB6.out.below hb7 HB6.out.lt
   have HB7:=Lib.hid (And.intro hB7 (step_below HB0.out hb7))
   have c4:W7.cell? ⟨og,at_*5+4,none⟩=some (.int .u32 q.k):=(hB7.cell (at_*5+4)).trans (HQ.out.2 4 _ rfl)
   have f4:=hB7.frozen (at_*5+4)
   have x0':W7.cell? ⟨xb,0,none⟩=some (.int .i64 (at_:Int)):=keepAt hb7 hx6 x0
   have hv0:(v:Int)<=1000:=by have :=HJ.out.2.2.2.2.2;omega
   clear cJ c0 x0 hb7 hB7 hx6
   go_wp2
   go_roundw
   case rel=>
    refine ⟨k+1,by omega,by go_num,_,HB7.out.1.set_ (at_*5+4) _,by simp [HG.out.1],fun i hi=>?_,HB7.out.2.setCell hog _⟩
    rw [BB.outK_succ b k (by omega),HJ.out.1]
    show InsAt _ i ((lnk b.places (b.outK k) (at_,s)).getD i default)
    have hlen:at_<(b.outK k).length:=by rw [BB.outK_len];exact HJ.out.2.1
    by_cases hi2:at_=i
    ·subst hi2
     have e:(lnk b.places (b.outK k) (at_,s)).getD at_ default={q with k:=(v:Int)}:=by
      simp only [lnk,HQ.out.1,HJ.out.2.2.2.1,Option.getD_some,List.getD_eq_getElem?_getD,List.getElem?_set_self hlen]
     rw [e]
     exact HQ.out.2.setK _
    ·have e:(lnk b.places (b.outK k) (at_,s)).getD i default=(b.outK k).getD i default:=by
      simp only [lnk,List.getD_eq_getElem?_getD,List.getElem?_set_ne hi2]
     rw [e]
     exact (HD.out i hi).set_other (fun q=>hi2 q.symm) 4 (by decide) _
   case measure=>simp [intOf];omega
  ·obtain rfl:k=nl:=by omega
   have q3:=((HP.out.below hB).blk.cell 3).trans rfl
   clear hlt
   go_wp2
   go_ret2
   have hol:b.out.length=n:=by rw [<-BB.outK_all,BB.outK_len,hnn]
   refine ⟨⟨_,rfl,og,cap,cs,by rw [hol];rfl,HC0.out,HG.out.1,by rw [hol];exact HC.out.2.2.1,HC.out.2.2.2.1,hog,fun i hi=>?_⟩,hB⟩
   have :=HD.out i (by rw [hol]at hi;exact hi)
   rw [hnl.symm,BB.outK_all]at this
   exact this
theorem t0_ok {p:Pg} {B:MB} (ho:p.Ok) (h:NewM p B):TOk B (t0 p) where
 ok:=⟨by show (List.replicate p.n tha).length=_;rw [List.length_replicate,h.n],fun t ht=>by rw [(List.mem_replicate.1 ht).2];exact tha_regs,fun z hz=>by
  obtain ⟨i,hi,rfl⟩:=List.mem_map.1 hz
  exact ho.z0 i (List.mem_range.1 hi),fun b hb e he=>(by rw [(List.mem_replicate.1 hb).2]at he;cases he),⟨List.nodup_nil,fun x hx=>by cases hx⟩⟩
 bl:=by show (List.replicate p.n _).length=_;rw [List.length_replicate,h.n]
theorem tot_nil (n:Nat):tot (List.replicate n [])=0:=by
 induction n with
 |zero=>rfl
 |succ n ih=>rw [List.replicate_succ];simp [tot]at ih⊢
theorem t0_can {p:Pg} {B:MB} (hn:p.n<=8) (n:Nat) (h:n<=9000):mCan B n (t0 p):=
 ⟨by show 0+tot (List.replicate p.n [])+n<=_;rw [tot_nil];omega,by show 0+n<=_;omega,fun x hx=>(by cases hx),fun b hb e he=>(by rw [(List.mem_replicate.1 hb).2]at he;cases he),by show (List.replicate p.n tha).length<=8;rw [List.length_replicate];exact hn⟩
structure Ev where
 (kind who pc addr value old k:Int)
 ok:Bool
instance:Inhabited Ev:=⟨⟨0,0,0,0,0,0,0,false⟩⟩
def Ev.cells (x:Ev):List Value:=[.int .i64 x.kind,.int .i64 x.who,.int .i64 x.pc,.int .i64 x.addr,.int .u32 x.value,.int .u32 x.old,.int .u32 x.k,.bool x.ok]
def evs (E:Nat->Ev) (t:Int) (k:Nat):List (Nat×Ev):=((List.range k).map fun i=>(i,E i)).filter fun x=>x.2.who==t
theorem evs_hit {E:Nat->Ev} {t:Int} {k:Nat} (h:(E k).who=t):evs E t (k+1)=evs E t k++[(k,E k)]:=by
 unfold evs
 rw [List.range_succ,List.map_append,List.filter_append]
 congr 1
 show List.filter (fun x:Nat×Ev=>x.2.who==t) [(k,E k)]=[(k,E k)]
 rw [List.filter_cons_of_pos (by simpa using h)]
 rfl
theorem evs_miss {E:Nat->Ev} {t:Int} {k:Nat} (h:(E k).who≠t):evs E t (k+1)=evs E t k:=by
 unfold evs
 rw [List.range_succ,List.map_append,List.filter_append]
 show _++List.filter (fun x:Nat×Ev=>x.2.who==t) [(k,E k)]=_
 rw [List.filter_cons_of_neg (by simpa using h)]
 simp
theorem evs_len (E:Nat->Ev) (t:Int) (k:Nat):(evs E t k).length<=k:=by
 unfold evs
 have :=List.length_filter_le (fun x:Nat×Ev=>x.2.who==t) ((List.range k).map fun i=>(i,E i))
 simpa using this
end Go.Proofs.YtmhfpjnkjlhbpaaGreatDoor
namespace Go.Proofs.YtmhfpjnkjlhbpaaGreatDoor
open Go.ChangeShapes Go.WideShapes Go.ChangeAt Go.RowKit Go.Shelf
set_option linter.unusedVariables false
set_option maxRecDepth 100000
set_option linter.unusedSimpArgs false
open List renaming getElem_toArray->zA,getElem_cons_zero->zB,getElem_cons_succ->zC,setIfInBounds_toArray->zD,set_cons_zero->zE,set_cons_succ->zF
attribute [local go_sem] Oper.semAt_some
def evEnc (x:Nat×Ev):Array Value:= #[.int .i64 (x.1:Int),.agg #[.int .i64 x.2.kind,.int .i64 x.2.who,.int .i64 x.2.pc,.int .i64 x.2.addr,.int .u32 x.2.value,.int .u32 x.2.old,.int .u32 x.2.k,.bool x.2.ok]]
structure KpOf (n₀ Bt:Nat) (A B:World):Prop where
 below:Below n₀ A B
 keep: ∀o,A.heap[Bt]?=some o->B.heap[Bt]?=some o
theorem KpOf.refl (n₀ Bt:Nat) (A:World):KpOf n₀ Bt A A:=⟨Below.refl _ _,fun _ h=>h⟩
theorem KpOf.trans {n₀ Bt:Nat} {A B C:World} (h:KpOf n₀ Bt A B) (k:KpOf n₀ Bt B C):KpOf n₀ Bt A C:=⟨h.below.trans k.below,fun o ho=>k.keep o (h.keep o ho)⟩
theorem KpOf.of_below {n₀ Bt:Nat} {A B:World} (h:Below A.heap.size A B) (hn:n₀<=A.heap.size):KpOf n₀ Bt A B:=
 ⟨h.mono hn,fun o ho=>(h.block Bt (Array.getElem?_eq_some_iff.1 ho).1).trans ho⟩
theorem KpOf.of_grown {n₀ Bt:Nat} {A B:World} {row:Option Nat} (hg:A.grownBy B row) (hn:n₀<=A.heap.size) (hr: ∀r,row=some r->n₀<=r/\r≠Bt):KpOf n₀ Bt A B:=
 ⟨(Below.refl n₀ A).grown hg hn (fun k e=>(hr k e).1),fun o ho=>(hg.block Bt (Array.getElem?_eq_some_iff.1 ho).1 (fun e=>(hr Bt e.symm).2 rfl)).trans ho⟩
theorem kpOf_b {n₀ Bt:Nat} {w:World} (hn:n₀<=w.heap.size) (hB:Bt<w.heap.size) (W:World) (l:Nat) (o o':Obj) (hl:w.heap.size<=l) (h:W.heap[l]?=some o) (h1:o.isCells=false) (h2:o.isWalk=false):KpOf n₀ Bt W (W.putObj l o'):=
 KpOf.of_grown (grownBy_putObj' W l o') (by have :=(Array.getElem?_eq_some_iff.1 h).1;omega) (fun r e=>by cases e;exact ⟨by omega,by omega⟩)
def OfEnd (E:Nat->Ev) (t:Int) (len:Nat) (J Jx:List (Nat×Ev)->World->Prop) (e:Ending) (W':World):Prop:=(∃v,e= .returned v)/\((∃ys,ys=evs E t len/\J ys W')∨(∃pre,True/\Jx pre W'))
set_option maxRecDepth 100000 in
set_option maxHeartbeats 2000000 in
theorem of1_in (F:Fence) (n:Nat) (hFn:F.fn 109) (hro:F.round=none) (hn:1<=n) (l Bs Bt n₀ b off len cap:Nat) (E:Nat->Ev) (t:Int) (hl:len<=1000000000) (hb:b<n₀) (J Jx:List (Nat×Ev)->World->Prop) (W:World) (hn₀:n₀<=W.heap.size)
 (hJ:AbidesFrom W.heap.size J)
 (hY: ∀pre x W,J pre W->pre.length<len->YieldAt F (n-1) Tryz.prog l (evEnc x) W fun e W'=>
   (e= .returned (.bool true)/\J (pre++[x]) W'/\KpOf n₀ Bt W W')∨(e= .returned (.bool false)/\Jx (pre++[x]) W'))
 (hBs:W.cell? ⟨Bs,0,none⟩=some (.slice (some ⟨b,off,none⟩) len cap)) (ht:Blk W Bt 3 #[.int .i64 t]) (hc: ∀i,i<len-> ∀j u,(E i).cells[j]?=some u->W.cell? ⟨b,off+i*8+j,none⟩=some u) (h0:J [] W):
 CallsIn F n Tryz.prog 109 #[.func (.yield l) #[] #[], .pointer (some ⟨Bs, 0, none⟩), .pointer (some ⟨Bt, 0, none⟩)] W (OfEnd E t len J Jx) := by
 have hAl: ∀pre W1 o,J pre W1->J pre (W1.alloc o):=fun pre W1 o h=>hJ pre W1 _ none h (World.grownBy_alloc W1 o none) (fun r e=>by cases e)
 refine callsIn_of_wp Tryz.func109 rfl hFn ?_ hro
 simp only [Tryz.ntmps109,List.size_toArray,List.length_cons,List.length_nil,Nat.reduceAdd,Nat.reduceSub,Array.replicate_succ,Array.replicate_zero,List.push_toArray,List.append_toArray,List.nil_append,List.cons_append]
 gi_wp2
 gi_loopw [8] (fun i wr=> ∃k:Nat,k<=len/\i= .int .i64 k/\J (evs E t k) wr/\KpOf n₀ Bt W wr) (fun i _=>len-(intOf i).toNat)
 case atStart=>exact ⟨0,Nat.zero_le _,rfl,h0,KpOf.refl _ _ _⟩
 case round=>
  obtain ⟨k,hk,rfl,hJs,hnx⟩:=hrel
  by_cases hlt:k<len
  ·have hcx: ∀j u,(E k).cells[j]?=some u->wr.cell? ⟨b,off+k*8+j,none⟩=some u:=fun j u hu=>(hnx.below.cell (p:=⟨b,_,none⟩) hb).trans (hc k hlt j u hu)
   have htx:Blk wr Bt 3 #[.int .i64 t]:=hnx.keep _ ht
   have hlt':(k:Int)<(len:Int):=by omega
   obtain ⟨x,hx⟩: ∃x,E k=x:=⟨_,rfl⟩
   rw [hx]at hcx
   have c0:=hcx 0 _ rfl
   have c1:=hcx 1 _ rfl
   have c2:=hcx 2 _ rfl
   have c3:=hcx 3 _ rfl
   have c4:=hcx 4 _ rfl
   have c5:=hcx 5 _ rfl
   have c6:=hcx 6 _ rfl
   have c7:=hcx 7 _ rfl
   rw [Nat.add_zero]at c0
   clear hcx
   have hal:=(Below.refl wr.heap.size wr).alloc (Nat.le_refl _) (.cells #[.int .i64 x.kind,.int .i64 x.who,.int .i64 x.pc,.int .i64 x.addr,.int .u32 x.value,.int .u32 x.old,.int .u32 x.k,.bool x.ok] 65)
   have htz:(wr.alloc (.cells #[.int .i64 x.kind,.int .i64 x.who,.int .i64 x.pc,.int .i64 x.addr,.int .u32 x.value,.int .u32 x.old,.int .u32 x.k,.bool x.ok] 65)).cell? ⟨Bt,0,none⟩=some (.int .i64 t):=((htx.alloc _).cell 0).trans rfl
   have hJ1:=hAl _ wr (.cells #[.int .i64 x.kind,.int .i64 x.who,.int .i64 x.pc,.int .i64 x.addr,.int .u32 x.value,.int .u32 x.old,.int .u32 x.k,.bool x.ok] 65) hJs
   have hn1:KpOf n₀ Bt W (wr.alloc (.cells #[.int .i64 x.kind,.int .i64 x.who,.int .i64 x.pc,.int .i64 x.addr,.int .u32 x.value,.int .u32 x.old,.int .u32 x.k,.bool x.ok] 65)):=hnx.trans (KpOf.of_below hal (Nat.le_trans hn₀ hnx.below.size))
   have HX:=Lib.hid hx
   clear hx hal
   by_cases hw:x.who=t
   ·have hwb:(x.who==t)=true:=by simpa using hw
    have HW:=Lib.hid hw
    clear hw
    obtain ⟨fn,tmps,assign,body,hy,hR⟩:=hY _ (k,x) _ hJ1 (Nat.lt_of_le_of_lt (evs_len E t k) hlt)
    unfold evEnc at hy
    dsimp only at hy
    gi_wp2
    refine hR.mono ?_
    rintro e W3 (⟨rfl,hJ3,hk3⟩|⟨rfl,hJx3⟩)
    ·gi_wp2
     go_roundw
     case rel=>exact ⟨k+1,by omega,by go_num,by rw [evs_hit (by rw [HX.out];exact HW.out),HX.out];exact hJ3,hn1.trans hk3⟩
     case measure=>simp [intOf];omega
    ·gi_wp2
     refine bodyPost_ret (results_none rfl _ _ _) rfl ?_
     exact ⟨⟨_,rfl⟩,.inr ⟨_,trivial,hJx3⟩⟩
   ·have hwb:(x.who==t)=false:=by simpa using hw
    have HW:=Lib.hid hw
    clear hw
    gi_wp2
    refine ⟨fun _ h=>(by cases h),?_⟩
    gi_wp2
    go_roundw
    case rel=>exact ⟨k+1,by omega,by go_num,by rw [evs_miss (by rw [HX.out];exact HW.out)];exact hJ1,hn1⟩
    case measure=>simp [intOf];omega
  ·obtain rfl:k=len:=by omega
   have hlt': ¬(k:Int)<(k:Int):=by omega
   gi_wp2
   go_end0
   exact ⟨⟨_,rfl⟩,.inl ⟨_,rfl,hJs⟩⟩
theorem of_in (F:Fence) (n:Nat) (hFn:F.fn 66) (hro:F.round=none) (A:Option Addr) (len cap:Nat) (t:Int) (w:World):
 CallsIn F n Tryz.prog 66 #[.slice A len cap, .int .i64 t] w fun e w' => e = .returned (.func (.func 109) #[] #[.pointer (some ⟨w.heap.size, 0, none⟩), .pointer (some ⟨w.heap.size + 1, 0, none⟩)]) /\
  w'=(w.alloc (.cells #[.slice A len cap] 40)).alloc (.cells #[.int .i64 t] 3):=by
 refine callsIn_of_wp Tryz.func66 rfl hFn ?_ hro
 simp only [Tryz.ntmps66,List.size_toArray,List.length_cons,List.length_nil,Nat.reduceAdd,Nat.reduceSub,Array.replicate_succ,Array.replicate_zero,List.push_toArray,List.append_toArray,List.nil_append,List.cons_append]
 gi_wp2
 go_ret
 exact ⟨rfl,rfl⟩
set_option maxRecDepth 100000 in
set_option maxHeartbeats 1000000 in
theorem of1_nil_in (F:Fence) (n:Nat) (hFn:F.fn 109) (hro:F.round=none) (l Bs Bt cap:Nat) (A:Option Addr) (E:Nat->Ev) (t:Int) (J Jx:List (Nat×Ev)->World->Prop) (W:World)
 (hBs:W.cell? ⟨Bs,0,none⟩=some (.slice A 0 cap)) (h0:J [] W):
 CallsIn F n Tryz.prog 109 #[.func (.yield l) #[] #[], .pointer (some ⟨Bs, 0, none⟩), .pointer (some ⟨Bt, 0, none⟩)] W (OfEnd E t 0 J Jx) := by
 refine callsIn_of_wp Tryz.func109 rfl hFn ?_ hro
 simp only [Tryz.ntmps109,List.size_toArray,List.length_cons,List.length_nil,Nat.reduceAdd,Nat.reduceSub,Array.replicate_succ,Array.replicate_zero,List.push_toArray,List.append_toArray,List.nil_append,List.cons_append]
 gi_wp2
 gi_loopw [8] (fun i wr=>i= .int .i64 0/\J [] wr) (fun _ _=>0)
 case atStart=>exact ⟨rfl,h0⟩
 case round=>
  obtain ⟨rfl,hJs⟩:=hrel
  gi_wp2
  go_end0
  exact ⟨⟨_,rfl⟩,.inl ⟨_,rfl,hJs⟩⟩
theorem of_stops (F:Fence) (n:Nat) (hFn:F.fn 109) (hro:F.round=none) (hn:1<=n) (Bs Bt n₀:Nat) (A:Option Addr) (len cap:Nat) (E:Nat->Ev) (t:Int) (hl:len<=1000000000) (w:World) (hBs:Bs<w.heap.size) (hn₀:n₀<=w.heap.size)
 (hc:w.cell? ⟨Bs,0,none⟩=some (.slice A len cap)) (ht:Blk w Bt 3 #[.int .i64 t]) (hb:0<len-> ∀b off,A=some ⟨b,off,none⟩->b<n₀) (hs:SlE w A len 8 (fun i=>(E i).cells)):
 SeqStopsK F n Tryz.prog 109 #[.pointer (some ⟨Bs,0,none⟩),.pointer (some ⟨Bt,0,none⟩)] evEnc (KpOf n₀ Bt) (fun ys=>ys=evs E t len) (fun _=>True) len w:=fun l J Jx W hW hJ _ hY h0=>by
 have hc':=(hW.cell (p:=⟨Bs,0,none⟩) hBs).trans hc
 have ht':=ht.below hW ht.lt
 rcases Nat.eq_zero_or_pos len with rfl|hp
 ·exact of1_nil_in F n hFn hro l Bs Bt cap A E t J Jx W hc' h0
 ·obtain ⟨b,off,rfl,hlt,hcc⟩:=hs hp
  exact of1_in F n hFn hro hn l Bs Bt n₀ b off len cap E t hl (hb hp b off rfl) J Jx W (Nat.le_trans hn₀ hW.size) hJ hY hc' ht' (fun i hi j u hu=>(hW.cell (p:=⟨b,_,none⟩) hlt).trans (hcc i hi j u hu)) h0
end Go.Proofs.YtmhfpjnkjlhbpaaGreatDoor
