/- A code that a law puts together, piece by piece. seq: the closure that adds a call to a code: what a law's code in a captured variable comes to. obj.Right, obj.Calls at some kinds; spin.May. A code in a captured variable, and an instruction in a box behind it. -/
import Derived.Test.YtmhfpjnkjlhbpaaGreatDoorQd28
import Derived.Test.YtmhfpjnkjlhbpaaGreatDoorQd07
import Derived.Deep.LoopGhost
namespace Go.Proofs.YtmhfpjnkjlhbpaaGreatDoor
open Go.ChangeShapes Go.WideShapes Go.ChangeAt Go.RowKit Go.Deep
set_option linter.unusedVariables false
set_option maxRecDepth 100000
set_option linter.unusedSimpArgs false
structure CW (W0 W:World) (A:Option Addr) (N c:Nat) (L:List Ins):Prop where
 n:N=L.length
 own:W.ownsRow W0.heap.size 75 5 (.slice A N c) N (L.flatMap Ins.cells)
 below:Below W0.heap.size W0 W
section
variable {W0 W W':World} {A:Option Addr} {N c:Nat} {L:List Ins}
theorem CW.step (h:CW W0 W A N c L) (hb:Below W.heap.size W W'):CW W0 W' A N c L:=⟨h.n,own_below h.own (Nat.le_refl _) hb,step_below h.below hb⟩
theorem CW.app {ops:Array Oper} {rest:List Oper} {o:Oper} {a:Act} {Q:Exit->Act->World->Prop} (h:CW W0 W A N c L) (hgd:o.guard=none) (s x:Operand)
 (ho:o.op= .call {callee:= .builtin .append,args:= #[s,x],argTypes:= #[50,50]}) (l2:List Ins) (m M cx:Nat) (hm:l2.length=m) (hM:M=N+m) (hs:a.eval s= .slice A N c) {Ax:Option Addr} (hx:a.eval x= .slice Ax m cx)
 (hr:Sl W Ax (m*5) (fun k=>(l2.flatMap Ins.cells).getD k undef)) (hb:M<=1000000)
 (K: ∀A' c' w',CW W0 w' A' M c' (L++l2)->wpList Tryz.prog ops Q rest (a.put o.dst (.slice A' M c')) w'):wpList Tryz.prog ops Q (o::rest) a W:=by
 obtain ⟨hn,hown,hbel⟩:=h
 subst hm hn
 refine wpList_append_ins hgd s x ho W0.heap.size (.slice A L.length c) L l2 hs hown Ax cx hx hr (by omega) hbel.size ?_
 intro A' c' w' h1 h2 h3
 have e:(L++l2).length=M:=by rw [List.length_append];exact hM.symm
 rw [e]at h1⊢
 exact K A' c' w' ⟨e.symm,h1,hbel.trans (h3.mono (Nat.le_refl _))⟩
end
structure CodeIn (W:World) (v:Value) (C:List Ins) (m:Nat):Prop where
 is_: ∃og cap,v= .slice (some ⟨og,0,none⟩) m cap/\og<W.heap.size/\m<=cap/\cap<=maxLen/\SlE W (some ⟨og,0,none⟩) m 5 (fun i=>(C.getD i default).cells)
 len:C.length=m
theorem CodeIn.step {W W':World} {v:Value} {C:List Ins} {m:Nat} (h:CodeIn W v C m) (hb:Below W.heap.size W W'):CodeIn W' v C m:=by
 obtain ⟨⟨og,cap,e,hog,hcap,hcm,hs⟩,hl⟩:=h
 exact ⟨⟨og,cap,e,Nat.lt_of_lt_of_le hog hb.size,hcap,hcm,SlE.step hs hb⟩,hl⟩
theorem CodeIn.moved {W:World} {v:Value} {C:List Ins} {m:Nat} (h:CodeIn W v C m) (hok: ∀x∈C,x.Ok) (hm:m<=100000) (z:Int) (hz0:0<=z) (hz1:z<=4294967295) (hT:Tab W):
 Calls Tryz.prog 35 #[v,.int .i64 z] W fun e W'=> ∃cs:Array Value,e= .returned (.slice (some ⟨W.heap.size,0,none⟩) m m)/\Blk W' W.heap.size 75 cs/\(∀i,i<m->InsAt cs i (movedI z (C.getD i default)))/\Below W.heap.size W W':=by
 obtain ⟨⟨og,cap,rfl,hog,hcap,hcm,hs⟩,hl⟩:=h
 have hget: ∀i,i<m->C.getD i default∈C:=fun i hi=>by
  have hi':i<C.length:=by omega
  rw [List.getD_eq_getElem?_getD,List.getElem?_eq_getElem hi'];exact List.getElem_mem hi'
 refine (moved_any ⟨some ⟨og,0,none⟩,m,cap,fun i=>C.getD i default⟩ z ⟨hcap,hcm,fun i hi=>hok _ (hget i hi)⟩ hm hz0 hz1 W hT hs).mono ?_
 rintro e W' ⟨cs,h1,h2,_,h3,h4⟩
 exact ⟨cs,h1,h2,h3,h4⟩
theorem grown_below {W0 W W':World} {r:Option Nat} (h:W0.grownBy W r) (hb:Below W.heap.size W W'):W0.grownBy W' r:=
 ⟨hb.os.trans h.os,hb.tape.trans h.tape,hb.output.trans h.output,Nat.le_trans h.size hb.size,fun i hi hn=>(hb.block i (Nat.lt_of_lt_of_le hi h.size)).trans (h.block i hi hn)⟩
theorem grown_row {W0 W W':World} {r q:Option Nat} (h:W0.grownBy W r) (hg:W.grownBy W' q) (hq: ∀g,q=some g->W0.heap.size<=g∨r=some g):W0.grownBy W' r:=
 ⟨hg.os.trans h.os,hg.tape.trans h.tape,hg.output.trans h.output,Nat.le_trans h.size hg.size,fun i hi hn=>(hg.block i (Nat.lt_of_lt_of_le hi h.size) (fun e=>by
  rcases hq i e.symm with q|q
  ·omega
  ·exact hn q.symm)).trans (h.block i hi hn)⟩
theorem CdRow.far {W W':World} {base:Nat} {v:Value} {L:List (List Ins)} {g:Nat} {t:TypeId} {cs:Array Value} (h:CdRow W base v L) (hb:Blk W g t cs) (h1:t≠50) (h2:t≠75) (hg:W.grownBy W' (some g)):CdRow W' base v L:=by
 obtain ⟨vals,q1,q2,q3⟩:=h
 exact ⟨vals,q1,row_grown q2 hg (row_ne hb q2 h1),fun i hi=>row_grown (q3 i hi) hg (row_ne hb (q3 i hi) h2)⟩
theorem CdRow.cap {W:World} {base:Nat} {v:Value} {L:List (List Ins)} (h:CdRow W base v L): ∃A c,v= .slice A L.length c:=by
 obtain ⟨vals,q1,q2,q3⟩:=h
 obtain ⟨A,c,e,_,_⟩:=own_cap q2
 exact ⟨A,c,e⟩
theorem CdRow.app {W0 W:World} {base:Nat} {A AA:Option Addr} {n N c cv:Nat} {L:List (List Ins)} {l:List Ins} {ops:Array Oper} {rest:List Oper} {o:Oper} {a:Act} {Q:Exit->Act->World->Prop} (h:CdRow W base (.slice A n cv) L) (hn:n=L.length) (hc:CW W0 W AA N c l) (hb0:base<=W0.heap.size) (hgd:o.guard=none) (s x:Operand)
 (ho:o.op= .call {callee:= .builtin .append,args:= #[s,x],argTypes:= #[26,26]}) (hs:a.eval s= .slice A n cv) (hx:a.eval x= .slice (some ⟨W.heap.size,0,none⟩) 1 1) (hL:n<=100)
 (K: ∀A' c' w',CdRow w' base (.slice A' (n+1) c') (L++[l])->(∀pb t cs,Blk W pb t cs->t≠50->Blk w' pb t cs)->(∀(W5:World) (r:Option Nat),W5.heap.size=base->W5.grownBy W r->W5.grownBy w' r)->wpList Tryz.prog ops Q rest (a.put o.dst (.slice A' (n+1) c')) w'):wpList Tryz.prog ops Q (o::rest) a (W.alloc (.cells #[.slice AA N c] 50)):=by
 have hal:=(Below.refl W.heap.size W).alloc (Nat.le_refl _) (.cells #[.slice AA N c] 50)
 obtain ⟨vals,q1,q2,q3⟩:=h.below hal
 have hcs:=hc.step hal
 subst hn
 obtain ⟨i0,hi,hy0,hy1,hy2⟩:=info_parts slc_info5
 have hcn:=hcs.n
 have hbW:base<=W.heap.size:=Nat.le_trans hb0 hc.below.size
 refine wpList_append_sl (W.alloc (.cells #[.slice AA N c] 50)) hgd s x 26 ho base 50 i0 _ 1 24 Tryz.underlying26 hi hy0 hy1 hy2 rfl (by omega) (.slice A L.length cv) L.length vals hs q2 (some ⟨W.heap.size,0,none⟩) 1 1 (fun _=> .slice AA N c) hx (fun _=>⟨_,0,rfl,by simp,fun i hi=>?_⟩) (fun _ _=>rfl) (by unfold maxLen;omega) (by omega) (by simp;omega) ?_
 ·obtain rfl:i=0:=by omega
  exact ((Blk.new W 50 #[.slice AA N c]).cell 0).trans rfl
 intro v' w' h1 h2 _
 have e1:(List.range (1*1)).map (fun _=>Value.slice AA N c)=[Value.slice AA N c]:=rfl
 rw [e1]at h1
 obtain ⟨A',c',rfl,_,_⟩:=own_cap h1
 have hown:(W.alloc (.cells #[.slice AA N c] 50)).ownsRow W0.heap.size 75 5 (.slice AA N c) l.length (l.flatMap Ins.cells):=hcn▸hcs.own
 refine K A' c' w' (CdRow.snoc q1 q2 q3 hown hb0 h2 h1) (fun pb t cs hb ht=>?_) (fun W5 r hz hg=>?_)
 ·exact (hb.alloc _).grown h2 (row_ne (hb.alloc _) q2 ht)
 ·exact grown_row (grown_below hg hal) h2 (fun g e=> .inl (by rw [hz];exact (own_in q2 g e).1))
theorem map_range {C:List Ins} {m:Nat} (h:C.length=m) (f:Ins->Ins):C.map f=(List.range m).map fun i=>f (C.getD i default):=by
 subst h
 refine List.ext_getElem? fun i=>?_
 rw [List.getElem?_map,List.getElem?_map]
 rcases Nat.lt_or_ge i C.length with c|c
 ·rw [List.getElem?_range c,List.getElem?_eq_getElem c]
  simp [List.getD_eq_getElem?_getD,List.getElem?_eq_getElem c]
 ·rw [List.getElem?_eq_none c,List.getElem?_eq_none (l:=List.range C.length) (by simpa using c)];rfl
structure AX (W0 W:World) (okb:Nat) (v:Value) (A:Option Addr) (N c:Nat) (L:List Ins):Prop where
 n:N=L.length
 own:W.ownsRow W0.heap.size 75 5 (.slice A N c) N (L.flatMap Ins.cells)
 box:Blk W W0.heap.size 50 #[v]
 okx:Blk W okb 4 #[.bool true]
 okl:2<=okb/\okb<W0.heap.size
 far:W0.grownBy W (some okb)
 tab0:Tab W0
section
variable {W0 W W':World} {okb:Nat} {v:Value} {A:Option Addr} {N c:Nat} {L:List Ins}
theorem AX.below2 (h:AX W0 W okb v A N c L):Below 2 W0 W:=
 {os:=h.far.os,tape:=h.far.tape,output:=h.far.output,size:=h.far.size,block:=fun i hi=>h.far.block i (by have :=h.okl;omega) (fun e=>by have :=Option.some.inj e;have :=h.okl.1;omega)}
theorem AX.tab (h:AX W0 W okb v A N c L):Tab W:=h.tab0.below h.below2 (Nat.le_refl _)
theorem AX.lt (h:AX W0 W okb v A N c L):W0.heap.size<W.heap.size:=h.box.lt
theorem AX.step (h:AX W0 W okb v A N c L) (hb:Below W.heap.size W W'):AX W0 W' okb v A N c L:=
 ⟨h.n,own_below h.own (Nat.le_refl _) hb,h.box.below hb h.box.lt,h.okx.below hb h.okx.lt,h.okl,grown_below h.far hb,h.tab0⟩
theorem AX.all (h:AX W0 W okb v A N c L) (h0:Blk W0 okb 4 #[.bool true]):Below W0.heap.size W0 W:=
 {os:=h.far.os,tape:=h.far.tape,output:=h.far.output,size:=h.far.size,block:=fun i hi=>by
   by_cases e:i=okb
   ·rw [e];exact h.okx.trans h0.symm
   ·exact h.far.block i hi (fun q=>e (Option.some.inj q))}
theorem AX.cw (h:AX W0 W okb v A N c L) (h0:Blk W0 okb 4 #[.bool true]):CW W0 W A N c L:=⟨h.n,h.own,h.all h0⟩
theorem AX.old {b:Nat} {t:TypeId} {cs:Array Value} (h:AX W0 W okb v A N c L) (hb:Blk W0 b t cs) (hne:b≠okb):Blk W b t cs:=hb.grown h.far (fun e=>hne (Option.some.inj e))
theorem AX.start (W0:World) {okb:Nat} (ho:Blk W0 okb 4 #[.bool true]) (h2:2<=okb) (hT:Tab W0):AX W0 (W0.alloc (.cells #[.slice none 0 0] 50)) okb (.slice none 0 0) none 0 0 []:=
 ⟨rfl,⟨rfl,.inl ⟨rfl,rfl⟩⟩,Blk.new _ _ _,ho.alloc _,⟨h2,ho.lt⟩,grown_below ⟨rfl,rfl,rfl,Nat.le_refl _,fun _ _ _=>rfl⟩ ((Below.refl W0.heap.size W0).alloc (Nat.le_refl _) _),hT⟩
theorem AX.set (h:AX W0 W okb v A N c L) (u:Value):AX W0 (W.setCell ⟨W0.heap.size,0,none⟩ u) okb u A N c L:=
 ⟨h.n,row_grown h.own (set_only u) (row_ne h.box h.own (by decide)),h.box.set_ 0 u,h.okx.far (by have :=h.okl.2;show okb≠W0.heap.size;omega) u,h.okl,grown_row h.far (set_only u) (fun g e=> .inl (by rw [<-Option.some.inj e];exact Nat.le_refl _)),h.tab0⟩
theorem AX.setOk (h:AX W0 W okb v A N c L):AX W0 (W.setCell ⟨okb,0,none⟩ (.bool true)) okb v A N c L:=
 ⟨h.n,row_grown h.own (set_only _) (row_ne h.okx h.own (by decide)),h.box.far (by have :=h.okl.2;show W0.heap.size≠okb;omega) _,h.okx.set_ 0 _,h.okl,grown_row h.far (set_only _) (fun g e=> .inr e),h.tab0⟩
end
theorem wp_append_ins {w:World} {o:Oper} {a:Act} {K:Act->World->Prop} {Q:Exit->Act->World->Prop} (s x:Operand)
 (ho:o.op= .call {callee:= .builtin .append,args:= #[s,x],argTypes:= #[50,50]}) (base:Nat) (v:Value) (l l2:List Ins) (hs:a.eval s=v) (hown:w.ownsRow base 75 5 v l.length (l.flatMap Ins.cells))
 (A:Option Addr) (c:Nat) (hx:a.eval x= .slice A l2.length c) (hr:Sl w A (l2.length*5) (fun k=>(l2.flatMap Ins.cells).getD k undef)) (hb:l.length+l2.length<=1000000) (hbase:base<=w.heap.size)
 (h: ∀A' c' w',w'.ownsRow base 75 5 (.slice A' (l++l2).length c') (l++l2).length ((l++l2).flatMap Ins.cells)->w.grownBy w' v.ownBlock->Below base w w'->K (a.put o.dst (.slice A' (l++l2).length c')) w'):o.wp Tryz.prog a w K Q:=by
 obtain ⟨i0,hi,hy0,hy1,hy2⟩:=info_parts insB_info5
 refine wp_append_sl w s x 50 ho base 75 i0 _ 5 40 Tryz.underlying50 hi hy0 hy1 hy2 rfl (by omega) v l.length _ hs hown A l2.length c (fun k=>(l2.flatMap Ins.cells).getD k undef) hx hr (ins_cells_one l2) (by unfold maxLen;omega) (by omega) hbase ?_
 intro v' w' h1 h2 _
 have hl2:(l2.flatMap Ins.cells).length=l2.length*5:=by
  clear hr hb hx h h1 h2
  induction l2 with
  |nil=>rfl
  |cons y l2 ih=>rw [List.flatMap_cons,List.length_append,ih];show 5+_=_;rw [List.length_cons];omega
 rw [range_getD _ _ hl2,<-List.flatMap_append]at h1
 have hw:=below_of_grown hbase h2 fun g e=>(own_in hown g e).1
 rw [show l.length+l2.length=(l++l2).length from by simp]at h1
 obtain ⟨A',c',rfl,_,_⟩:=own_cap h1
 exact h A' c' w' h1 h2 hw
theorem AX.below3 {W0 W:World} {okb:Nat} {v:Value} {A:Option Addr} {N c:Nat} {L:List Ins} (h:AX W0 W okb v A N c L) (h3:3<=okb):Below 3 W0 W:=
 {os:=h.far.os,tape:=h.far.tape,output:=h.far.output,size:=h.far.size,block:=fun i hi=>h.far.block i (by have :=h.okl;omega) (fun e=>by have :=Option.some.inj e;omega)}
def onL:List ByteArray:=[⟨#[]⟩,⟨#[116,97,115]⟩,⟨#[116,116,97,115]⟩,⟨#[116,105,99,107,101,116]⟩,⟨#[109,99,115]⟩,⟨#[99,108,104]⟩,⟨#[112,101,116,101,114,115,111,110]⟩,⟨#[100,101,107,107,101,114]⟩,⟨#[98,105,97,115]⟩,⟨#[115,101,113]⟩,⟨#[109,117,116,101,120]⟩,⟨#[115,101,109]⟩,⟨#[99,111,110,100]⟩,⟨#[98,97,114,114,105,101,114]⟩,⟨#[114,119]⟩,⟨#[111,110,99,101]⟩]
def onS (i:Nat):ByteArray:=onL.getD i ⟨#[]⟩
def ONam (W:World):Prop:=3<=W.heap.size/\ ∀i,i<16->W.cell? ⟨2,i,none⟩=some (.string (onS i))
theorem ONam.step {w w1:World} (h:ONam w) (hb:Below w.heap.size w w1):ONam w1:=⟨Nat.le_trans h.1 hb.size,fun i hi=>keepAt hb (World.block_lt_of_cell? w _ (h.2 i hi)) (h.2 i hi)⟩
def objA (k n a b:Int):Value:= .agg #[.int .i64 k,.int .i64 n,.int .i64 a,.int .i64 b]
theorem obj_info:(Tryz.prog.info? 46).map (·.size)=some 4:=by kernel_rfl
def mayB (rb:Bool) (cl:List Int) (call threads t:Int):Bool:=decide (0<=t/\t<threads)&&(rb&&cl.contains call)
set_option maxHeartbeats 2000000 in
theorem may_any (k n a b:Int) (rb:Bool) (cl:List Int) (hcl:cl.length<=100) (call threads t:Int) (W:World) (P:World->Prop) (hP: ∀W1 W2,P W1->Below W1.heap.size W1 W2->P W2) (h0:P W)
 (hR: ∀W1,P W1->Calls Tryz.prog 91 #[objA k n a b,.int .i64 threads] W1 fun e W'=>e= .returned (.bool rb)/\Below W1.heap.size W1 W')
 (hC: ∀W1,P W1->Calls Tryz.prog 92 #[.int .i64 k] W1 fun e W'=> ∃g,e= .returned (.slice (some ⟨g,0,none⟩) cl.length cl.length)/\Blk W' g 3 (cl.map (Value.int .i64)).toArray/\Below W1.heap.size W1 W'):
 Calls Tryz.prog 52 #[objA k n a b,.int .i64 call,.int .i64 threads,.int .i64 t] W fun e W'=>e= .returned (.bool (mayB rb cl call threads t))/\Below W.heap.size W W':=by
 have hq:=Blk.new W 46 #[.int .i64 k,.int .i64 n,.int .i64 a,.int .i64 b]
 have hB:=(Below.refl W.heap.size W).alloc (Nat.le_refl _) (.cells #[.int .i64 k,.int .i64 n,.int .i64 a,.int .i64 b] 46)
 have q0:=(hq.cell 0).trans rfl
 have q1:=(hq.cell 1).trans rfl
 have q2:=(hq.cell 2).trans rfl
 have q3:=(hq.cell 3).trans rfl
 unfold objA at*
 have HP:=Lib.hid hP
 have HW:=Lib.hid (hP _ _ h0 hB)
 have HR:=Lib.hid hR
 have HC:=Lib.hid hC
 clear hR hC hP h0
 by_cases h1:t<0
 ·rw [show mayB rb cl call threads t=false from by unfold mayB;rw [decide_eq_false (by omega)];rfl]
  go_enter Tryz.func52,Tryz.ntmps52
  go_wp2
  go_ret
  exact ⟨rfl,hB⟩
 by_cases h2:threads<=t
 ·rw [show mayB rb cl call threads t=false from by unfold mayB;rw [decide_eq_false (by omega)];rfl]
  go_enter Tryz.func52,Tryz.ntmps52
  go_wp2
  go_ret
  exact ⟨rfl,hB⟩
 rw [show mayB rb cl call threads t=(rb&&cl.contains call) from by unfold mayB;rw [decide_eq_true (by omega)];rfl]
 go_enter Tryz.func52,Tryz.ntmps52
 go_wp2_with fail
 refine (HR.out _ HW.out).mono ?_
 rintro e W1 ⟨rfl,hB1⟩
 have hq1:=hq.below hB1 hq.lt
 have hB2:=step_below hB hB1
 have HW1:=Lib.hid (HP.out _ _ HW.out hB1)
 clear q0 q1 q2 q3 hB hB1 hq
 cases rb with
 |false=>
  go_wp2
  go_ret
  exact ⟨rfl,hB2⟩
 |true=>
  have q0:=(hq1.cell 0).trans rfl
  go_wp2_with fail
  refine (HC.out _ HW1.out).mono ?_
  rintro e W2 ⟨g,rfl,hg,hB3⟩
  have hB4:=step_below hB2 hB3
  obtain ⟨m,hm⟩: ∃m,cl.length=m:=⟨_,rfl⟩
  rw [hm]
  rw [hm]at hcl
  clear hB2 hB3 HW1 hq1 q0 HC HR HP HW
  have HG:=Lib.hid hg
  clear hg
  go_wp2
  go_loopw [28] (fun v wr=> ∃j:Nat,j<=m/\v= .int .i64 j/\wr=W2/\ ∀i,i<j->cl[i]?≠some call) (fun v _=>m-(intOf v).toNat)
  case atStart=>exact ⟨0,Nat.zero_le _,rfl,rfl,fun i hi=>absurd hi (by omega)⟩
  case round=>
   obtain ⟨j,hj,rfl,rfl,hno⟩:=hrel
   by_cases hlt:j<m
   ·have hx:cl[j]?=some (cl[j]'(by omega)):=List.getElem?_eq_getElem (by omega)
    generalize cl[j]'(by omega)=x at hx
    have c0:wr.cell? ⟨g,j,none⟩=some (.int .i64 x):=(HG.out.cell j).trans (by simp [hx])
    have hjm:(j:Int)<(m:Int):=by omega
    by_cases hxc:x=call
    ·subst hxc
     have :cl.contains x=true:=by
      rw [List.contains_iff_mem]
      exact List.mem_of_getElem? hx
     have HT:=Lib.hid this
     clear hno hx this
     go_wp2
     go_ret
     exact ⟨by rw [HT.out];rfl,hB4⟩
    ·have HN:=Lib.hid (And.intro hno hx)
     clear hno hx
     go_wp2
     go_roundw
     case rel=>
      refine ⟨j+1,by omega,by go_num,by trivial,fun i hi=>?_⟩
      by_cases hij:i=j
      ·subst hij;rw [HN.out.2];intro e;exact hxc (Option.some.inj e)
      ·exact HN.out.1 i (by omega)
     case measure=>simp [intOf];omega
   ·obtain rfl:j=m:=by omega
    have :cl.contains call=false:=by
     rw [Bool.eq_false_iff]
     intro e
     rw [List.contains_iff_mem]at e
     obtain ⟨i,hi,e⟩:=List.mem_iff_getElem.1 e
     exact hno i (by omega) (by rw [List.getElem?_eq_getElem hi,e])
    have HT:=Lib.hid this
    clear hno this
    go_wp2
    go_ret
    exact ⟨by rw [HT.out];rfl,hB4⟩
theorem oname_any (k:Nat) (h1:1<=k) (h2:k<16) (W:World) (hO:ONam W):Calls Tryz.prog 137 #[.int .i64 (k:Int)] W fun e W'=>e= .returned (.string (onS k))/\W'=W:=by
 have c0:=hO.2 k h2
 have g1: ¬(k:Int)<1:=by omega
 have g2: ¬(16:Int)<=(k:Int):=by omega
 have g3:(k:Int)<16:=by omega
 go_enter Tryz.func137,Tryz.ntmps137
 go_wp2
 go_ret
 exact ⟨rfl,rfl⟩
theorem onS_ne (k:Nat) (h1:1<=k) (h2:k<16): ¬(onS k).toList=[]:=by
 have :=List.all_eq_true.1 (show (List.range 16).all (fun k=>decide (k=0)||!(onS k).toList.isEmpty)=true from by decide+kernel) k (List.mem_range.2 h2)
 intro e
 rw [e]at this
 simp at this
 omega
set_option maxHeartbeats 2000000 in
theorem right_nam (k:Nat) (hk:k=12∨k=14∨k=15) (threads:Int) (ht:1<=threads/\threads<=8) (W:World) (hO:ONam W):Calls Tryz.prog 91 #[objA (k:Int) 0 0 0,.int .i64 threads] W fun e W'=>e= .returned (.bool true)/\Below W.heap.size W W':=by
 have hq:=Blk.new W 46 #[.int .i64 (k:Int),.int .i64 0,.int .i64 0,.int .i64 0]
 have hB:=(Below.refl W.heap.size W).alloc (Nat.le_refl _) (.cells #[.int .i64 (k:Int),.int .i64 0,.int .i64 0,.int .i64 0] 46)
 have q0:=(hq.cell 0).trans rfl
 have q1:=(hq.cell 1).trans rfl
 have q2:=(hq.cell 2).trans rfl
 have q3:=(hq.cell 3).trans rfl
 have cN:=oname_any k (by omega) (by omega) _ (hO.step hB)
 have hne:=onS_ne k (by omega) (by omega)
 have hne2: ¬(onS k).toList.isEmpty=true:=fun e=>hne (List.isEmpty_iff.1 e)
 unfold objA
 rcases hk with rfl|rfl|rfl
 all_goals
  go_enter Tryz.func91,Tryz.ntmps91
  go_wp2_with fail
  refine cN.mono ?_
  rintro e W1 ⟨rfl,rfl⟩
  clear cN
  go_wp2
  go_ret
  exact ⟨rfl,hB⟩
def callsL (k:Nat):List Int:=if k=12 then [5,6,7,8]else if k=13 then [9]else if k=14 then [1,2,3]else [9,10]
set_option maxHeartbeats 2000000 in
theorem calls_of (k:Nat) (hk:k=12∨k=13∨k=14∨k=15) (W:World):Calls Tryz.prog 92 #[.int .i64 (k:Int)] W fun e W'=> ∃g,e= .returned (.slice (some ⟨g,0,none⟩) (callsL k).length (callsL k).length)/\Blk W' g 3 ((callsL k).map (Value.int .i64)).toArray/\Below W.heap.size W W':=by
 have hB:=fun o=>(Below.refl W.heap.size W).alloc (Nat.le_refl _) o
 rcases hk with rfl|rfl|rfl|rfl
 all_goals
  go_enter Tryz.func92,Tryz.ntmps92
  go_wp2
  go_ret
  exact ⟨_,rfl,Blk.new _ _ _,hB _⟩
theorem may_nam (k:Nat) (hk:k=12∨k=14∨k=15) (call threads t:Int) (ht:1<=threads/\threads<=8) (h0:0<=t/\t<threads) (hc:(callsL k).contains call=true) (W:World) (hO:ONam W):
 Calls Tryz.prog 52 #[.agg #[.int .i64 (k:Int),.int .i64 0,.int .i64 0,.int .i64 0],.int .i64 call,.int .i64 threads,.int .i64 t] W fun e W'=>e= .returned (.bool true)/\Below W.heap.size W W':=by
 have e:mayB true (callsL k) call threads t=true:=by unfold mayB;rw [decide_eq_true h0,hc];rfl
 have hl:(callsL k).length<=100:=by rcases hk with rfl|rfl|rfl<;>decide
 have :=may_any (k:Int) 0 0 0 true (callsL k) hl call threads t W ONam (fun _ _ h hb=>h.step hb) hO (fun W1 h=>right_nam k hk threads ht W1 h) (fun W1 _=>calls_of k (by omega) W1)
 rw [e]at this
 exact this
structure AXL (W0 W:World) (okb:Nat) (v:Value) (A:Option Addr) (N c:Nat) (L:List Ins):Prop where
 ax:AX W0 W okb v A N c L
 own:W.ownsRow (W0.heap.size+2) 75 5 (.slice A N c) N (L.flatMap Ins.cells)
 lb:Blk W (W0.heap.size+1) 75 #[.int .i64 16,.int .i64 1,.int .i64 8,.int .i64 0,.int .u32 0]
theorem ONam.below {w w1:World} (h:ONam w) (hb:Below 3 w w1):ONam w1:=⟨Nat.le_trans h.1 hb.size,fun i hi=>keepAt hb (show 2<3 by decide) (h.2 i hi)⟩
section
variable {W0 W W':World} {okb:Nat} {v:Value} {A:Option Addr} {N c:Nat} {L:List Ins}
theorem AXL.n (h:AXL W0 W okb v A N c L):N=L.length:=h.ax.n
theorem AXL.box (h:AXL W0 W okb v A N c L):Blk W W0.heap.size 50 #[v]:=h.ax.box
theorem AXL.okx (h:AXL W0 W okb v A N c L):Blk W okb 4 #[.bool true]:=h.ax.okx
theorem AXL.okl (h:AXL W0 W okb v A N c L):2<=okb/\okb<W0.heap.size:=h.ax.okl
theorem AXL.lt (h:AXL W0 W okb v A N c L):W0.heap.size<W.heap.size:=h.ax.lt
theorem AXL.tab (h:AXL W0 W okb v A N c L):Tab W:=h.ax.tab
theorem AXL.nam (h:AXL W0 W okb v A N c L) (h3:3<=okb) (hO:ONam W0):ONam W:=hO.below (h.ax.below3 h3)
theorem AXL.old {b:Nat} {t:TypeId} {cs:Array Value} (h:AXL W0 W okb v A N c L) (hb:Blk W0 b t cs) (hne:b≠okb):Blk W b t cs:=h.ax.old hb hne
theorem AXL.step (h:AXL W0 W okb v A N c L) (hb:Below W.heap.size W W'):AXL W0 W' okb v A N c L:=⟨h.ax.step hb,own_below h.own (Nat.le_refl _) hb,h.lb.below hb h.lb.lt⟩
theorem AXL.drew (h:AXL W0 W okb v A N c L):AXL W0 W.drew okb v A N c L:=h.step (below_drewB W)
theorem AXL.set (h:AXL W0 W okb v A N c L) (u:Value):AXL W0 (W.setCell ⟨W0.heap.size,0,none⟩ u) okb u A N c L:=
 ⟨h.ax.set u,row_grown h.own (set_only u) (row_ne h.box h.own (by decide)),h.lb.far (by show W0.heap.size+1≠W0.heap.size;omega) u⟩
theorem AXL.setOk (h:AXL W0 W okb v A N c L):AXL W0 (W.setCell ⟨okb,0,none⟩ (.bool true)) okb v A N c L:=
 ⟨h.ax.setOk,row_grown h.own (set_only _) (row_ne h.okx h.own (by decide)),h.lb.far (by have :=h.okl.2;show W0.heap.size+1≠okb;omega) _⟩
theorem AXL.start (W0:World) {okb:Nat} (ho:Blk W0 okb 4 #[.bool true]) (h2:2<=okb) (hT:Tab W0):
 AXL W0 ((W0.alloc (.cells #[.slice none 0 0] 50)).alloc (.cells #[.int .i64 16,.int .i64 1,.int .i64 8,.int .i64 0,.int .u32 0] 75)) okb (.slice none 0 0) none 0 0 []:=by
 have hs:(W0.alloc (.cells #[.slice none 0 0] 50)).heap.size=W0.heap.size+1:=by simp
 have hl:=Blk.new (W0.alloc (.cells #[.slice none 0 0] 50)) 75 #[.int .i64 16,.int .i64 1,.int .i64 8,.int .i64 0,.int .u32 0]
 rw [hs]at hl
 exact ⟨(AX.start W0 ho h2 hT).step ((Below.refl _ _).alloc (Nat.le_refl _) _),⟨rfl,.inl ⟨rfl,rfl⟩⟩,hl⟩
theorem AXL.grown {w':World} {A':Option Addr} {c':Nat} {l2:List Ins} (h:AXL W0 W okb v A N c L) (h1:w'.ownsRow (W0.heap.size+2) 75 5 (.slice A' (L++l2).length c') (L++l2).length ((L++l2).flatMap Ins.cells)) (h2:W.grownBy w' (Value.slice A N c).ownBlock):AXL W0 w' okb v A' (L++l2).length c' (L++l2):=
 ⟨⟨rfl,own_weak h1 (Nat.le_add_right _ _),h.box.grown h2 (row_ne h.box h.own (by decide)),h.okx.grown h2 (row_ne h.okx h.own (by decide)),h.okl,grown_row h.ax.far h2 (fun g e=> .inl (by have :=(own_in h.own g e).1;omega)),h.ax.tab0⟩,h1,
  h.lb.grown h2 (fun e=>by have :=(own_in h.own _ e.symm).1;omega)⟩
theorem AXL.app {ops:Array Oper} {rest:List Oper} {o:Oper} {a:Act} {Q:Exit->Act->World->Prop} (h:AXL W0 W okb v A N c L) (hgd:o.guard=none) (s x:Operand)
 (ho:o.op= .call {callee:= .builtin .append,args:= #[s,x],argTypes:= #[50,50]}) (l2:List Ins) (m M cx:Nat) (hm:l2.length=m) (hM:M=N+m) (hs:a.eval s= .slice A N c) {Ax:Option Addr} (hx:a.eval x= .slice Ax m cx)
 (hr:Sl W Ax (m*5) (fun k=>(l2.flatMap Ins.cells).getD k undef)) (hb:M<=1000000)
 (K: ∀A' c' w',AXL W0 w' okb v A' M c' (L++l2)->(∀b t cs,Blk W b t cs->some b≠(Value.slice A N c).ownBlock->Blk w' b t cs)->wpList Tryz.prog ops Q rest (a.put o.dst (.slice A' M c')) w'):wpList Tryz.prog ops Q (o::rest) a W:=by
 have hn:=h.n
 subst hn hm
 refine wpList_append_ins hgd s x ho (W0.heap.size+2) (.slice A L.length c) L l2 hs h.own Ax cx hx hr (by omega) (by have :=h.lb.lt;omega) ?_
 intro A' c' w' h1 h2 h3
 have e:(L++l2).length=M:=by rw [List.length_append];exact hM.symm
 have h4:=h.grown h1 h2
 rw [e]at h4⊢
 exact K A' c' w' h4 (fun b t cs hb hne=>hb.grown h2 hne)
theorem AXL.app1 {ops:Array Oper} {rest:List Oper} {o:Oper} {a:Act} {Q:Exit->Act->World->Prop} (h:AXL W0 W okb v A N c L) (i:Ins) (M g:Nat) (hM:M=N+1) (hg:W.heap.size=g) (hgd:o.guard=none) (s x:Operand)
 (ho:o.op= .call {callee:= .builtin .append,args:= #[s,x],argTypes:= #[50,50]}) (hs:a.eval s= .slice A N c) (hx:a.eval x= .slice (some ⟨g,0,none⟩) 1 1) (hb:M<=1000000)
 (K: ∀A' c' w',AXL W0 w' okb v A' M c' (L++[i])->(∀b t cs,Blk W b t cs->some b≠(Value.slice A N c).ownBlock->Blk w' b t cs)->wpList Tryz.prog ops Q rest (a.put o.dst (.slice A' M c')) w'):wpList Tryz.prog ops Q (o::rest) a (W.alloc (.cells i.cells.toArray 75)):=
 (h.step ((Below.refl W.heap.size W).alloc (Nat.le_refl _) _)).app hgd s x ho [i] 1 M 1 rfl hM hs hx (by subst hg;exact sl_one W i) hb (fun A' c' w' q1 q2=>K A' c' w' q1 (fun b t cs hb=>q2 b t cs (hb.alloc _)))
theorem sl_four (W:World) (x y z u:Ins):Sl (W.alloc (.cells (x.cells++(y.cells++(z.cells++u.cells))).toArray 75)) (some ⟨W.heap.size,0,none⟩) (4*5) (fun k=>([x,y,z,u].flatMap Ins.cells).getD k undef):=
 sl_ins (l:=[x,y,z,u]) (cap:=0) (Blk.new _ _ _) fun i hi j u hu=>by
  have hi':i<4:=hi
  have hj:j<5:=by
   obtain rfl|rfl|rfl|rfl:i=0∨i=1∨i=2∨i=3:=by omega
   all_goals exact (List.getElem?_eq_some_iff.1 hu).1
  obtain rfl|rfl|rfl|rfl:i=0∨i=1∨i=2∨i=3:=by omega
  all_goals
   obtain rfl|rfl|rfl|rfl|rfl:j=0∨j=1∨j=2∨j=3∨j=4:=by omega
   all_goals exact hu
theorem AXL.app4 {ops:Array Oper} {rest:List Oper} {o:Oper} {a:Act} {Q:Exit->Act->World->Prop} (h:AXL W0 W okb v A N c L) (x1 x2 x3 x4:Ins) (M g:Nat) (hM:M=N+4) (hg:W.heap.size=g) (hgd:o.guard=none) (s x:Operand)
 (ho:o.op= .call {callee:= .builtin .append,args:= #[s,x],argTypes:= #[50,50]}) (hs:a.eval s= .slice A N c) (hx:a.eval x= .slice (some ⟨g,0,none⟩) 4 4) (hb:M<=1000000)
 (K: ∀A' c' w',AXL W0 w' okb v A' M c' (L++[x1,x2,x3,x4])->wpList Tryz.prog ops Q rest (a.put o.dst (.slice A' M c')) w'):wpList Tryz.prog ops Q (o::rest) a (W.alloc (.cells (x1.cells++(x2.cells++(x3.cells++x4.cells))).toArray 75)):=
 (h.step ((Below.refl W.heap.size W).alloc (Nat.le_refl _) _)).app hgd s x ho [x1,x2,x3,x4] 4 M 4 rfl hM hs hx (by subst hg;exact sl_four W x1 x2 x3 x4) hb (fun A' c' w' q1 _=>K A' c' w' q1)
theorem AXL.appO {o:Oper} {a:Act} {K:Act->World->Prop} {Q:Exit->Act->World->Prop} {g:Nat} {cs:Array Value} {m:Nat} {F:Nat->Ins} (h:AXL W0 W okb v A N c L) (hb5:Blk W g 75 cs) (hin: ∀i,i<m->InsAt cs i (F i)) (C:List Ins) (hC:C=(List.range m).map F) (M:Nat) (hM:M=N+m) (s x:Operand)
 (ho:o.op= .call {callee:= .builtin .append,args:= #[s,x],argTypes:= #[50,50]}) (hs:a.eval s= .slice A N c) (hx:a.eval x= .slice (some ⟨g,0,none⟩) m m) (hb:M<=1000000)
 (K': ∀A' c' w',AXL W0 w' okb v A' M c' (L++C)->K (a.put o.dst (.slice A' M c')) w'):o.wp Tryz.prog a W K Q:=by
 have hl:C.length=m:=by rw [hC];simp
 have hs5:=sl_ins (l:=C) (cap:=0) hb5 (fun i hi=>by
  have hi':i<m:=by omega
  have e:C.getD i default=F i:=by rw [hC];simp [List.getD_eq_getElem?_getD,List.getElem?_map,List.getElem?_range hi']
  rw [e];exact hin i hi')
 have hn:=h.n
 clear hC
 subst hl hn
 refine wp_append_ins s x ho (W0.heap.size+2) (.slice A L.length c) L C hs h.own (some ⟨g,0,none⟩) C.length hx hs5 (by omega) (by have :=h.lb.lt;omega) ?_
 intro A' c' w' h1 h2 h3
 have e:(L++C).length=M:=by rw [List.length_append];exact hM.symm
 have h4:=h.grown h1 h2
 rw [e]at h4⊢
 exact K' A' c' w' h4
end
end Go.Proofs.YtmhfpjnkjlhbpaaGreatDoor
