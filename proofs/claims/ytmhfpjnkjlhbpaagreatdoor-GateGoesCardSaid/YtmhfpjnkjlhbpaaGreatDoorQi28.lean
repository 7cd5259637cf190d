/- A code that a law puts together, piece by piece. obj.First: the first words of a barrier. Rows of calls in memory; a code that asks them, one behind the other. -/
import Derived.Test.YtmhfpjnkjlhbpaaGreatDoorQi27
import Derived.Test.YtmhfpjnkjlhbpaaGreatDoorQi07
namespace Go.Proofs.YtmhfpjnkjlhbpaaGreatDoor
open Go.ChangeShapes Go.WideShapes Go.ChangeAt Go.RowKit Go.Deep
set_option linter.unusedVariables false
set_option maxRecDepth 100000
set_option linter.unusedSimpArgs false
structure CW (W0 W:World) (A:Option Addr) (N c:Nat) (L:List Ins):Prop where
 n:N=L.length
 own:W.ownsRow W0.heap.size 75 5 (.slice A N c) N (L.flatMap Ins.cells)
 below:Below W0.heap.size W0 W
section
variable {W0 W W':World} {A:Option Addr} {N c:Nat} {L:List Ins}
theorem CW.start (W0:World):CW W0 W0 none 0 0 []:=⟨rfl,⟨rfl,.inl ⟨rfl,rfl⟩⟩,Below.refl _ _⟩
theorem CW.step (h:CW W0 W A N c L) (hb:Below W.heap.size W W'):CW W0 W' A N c L:=⟨h.n,own_below h.own (Nat.le_refl _) hb,step_below h.below hb⟩
theorem CW.app {ops:Array Oper} {rest:List Oper} {o:Oper} {a:Act} {Q:Exit->Act->World->Prop} (h:CW W0 W A N c L) (hgd:o.guard=none) (s x:Operand)
 (ho:o.op= .call {callee:= .builtin .append,args:= #[s,x],argTypes:= #[50,50]}) (l2:List Ins) (m M cx:Nat) (hm:l2.length=m) (hM:M=N+m) (hs:a.eval s= .slice A N c) {Ax:Option Addr} (hx:a.eval x= .slice Ax m cx)
 (hr:Sl W Ax (m*5) (fun k=>(l2.flatMap Ins.cells).getD k undef)) (hb:M<=1000000)
 (K: ∀A' c' w',CW W0 w' A' M c' (L++l2)->wpList Tryz.prog ops Q rest (a.put o.dst (.slice A' M c')) w'):wpList Tryz.prog ops Q (o::rest) a W:=by
 obtain ⟨hn,hown,hbel⟩:=h
 subst hm hn
 refine wpList_append_ins hgd s x ho W0.heap.size (.slice A L.length c) L l2 hs hown Ax cx hx hr (by omega) hbel.size ?_
 intro A' c' w' h1 h2 h3
 have e:(L++l2).length=M:=by rw [List.length_append];exact hM.symm
 rw [e]at h1⊢
 exact K A' c' w' ⟨e.symm,h1,hbel.trans (h3.mono (Nat.le_refl _))⟩
theorem CW.app1 {ops:Array Oper} {rest:List Oper} {o:Oper} {a:Act} {Q:Exit->Act->World->Prop} (h:CW W0 W A N c L) (i:Ins) (M:Nat) (hM:M=N+1) (hgd:o.guard=none) (s x:Operand)
 (ho:o.op= .call {callee:= .builtin .append,args:= #[s,x],argTypes:= #[50,50]}) (hs:a.eval s= .slice A N c) (hx:a.eval x= .slice (some ⟨W.heap.size,0,none⟩) 1 1) (hb:M<=1000000)
 (K: ∀A' c' w',CW W0 w' A' M c' (L++[i])->wpList Tryz.prog ops Q rest (a.put o.dst (.slice A' M c')) w'):wpList Tryz.prog ops Q (o::rest) a (W.alloc (.cells i.cells.toArray 75)):=
 (h.step ((Below.refl W.heap.size W).alloc (Nat.le_refl _) _)).app hgd s x ho [i] 1 M 1 rfl hM hs hx (sl_one W i) hb K
theorem CW.appM {ops:Array Oper} {rest:List Oper} {o:Oper} {a:Act} {Q:Exit->Act->World->Prop} {g:Nat} {cs:Array Value} {m:Nat} {F:Nat->Ins} (h:CW W0 W A N c L) (hb5:Blk W g 75 cs) (hin: ∀i,i<m->InsAt cs i (F i)) (C:List Ins) (hC:C=(List.range m).map F) (M:Nat) (hM:M=N+m) (hgd:o.guard=none) (s x:Operand)
 (ho:o.op= .call {callee:= .builtin .append,args:= #[s,x],argTypes:= #[50,50]}) (hs:a.eval s= .slice A N c) (hx:a.eval x= .slice (some ⟨g,0,none⟩) m m) (hb:M<=1000000)
 (K: ∀A' c' w',CW W0 w' A' M c' (L++C)->wpList Tryz.prog ops Q rest (a.put o.dst (.slice A' M c')) w'):wpList Tryz.prog ops Q (o::rest) a W:=by
 have hl:C.length=m:=by rw [hC];simp
 have hs5:=sl_ins (l:=C) (cap:=0) hb5 (fun i hi=>by
  have hi':i<m:=by omega
  have e:C.getD i default=F i:=by rw [hC];simp [List.getD_eq_getElem?_getD,List.getElem?_map,List.getElem?_range hi']
  rw [e];exact hin i hi')
 rw [hl]at hs5
 exact h.app hgd s x ho C m M m hl hM hs hx hs5 hb K
end
structure CodeIn (W:World) (v:Value) (C:List Ins) (m:Nat):Prop where
 is_: ∃og cap,v= .slice (some ⟨og,0,none⟩) m cap/\og<W.heap.size/\m<=cap/\cap<=maxLen/\SlE W (some ⟨og,0,none⟩) m 5 (fun i=>(C.getD i default).cells)
 len:C.length=m
theorem CodeIn.step {W W':World} {v:Value} {C:List Ins} {m:Nat} (h:CodeIn W v C m) (hb:Below W.heap.size W W'):CodeIn W' v C m:=by
 obtain ⟨⟨og,cap,e,hog,hcap,hcm,hs⟩,hl⟩:=h
 exact ⟨⟨og,cap,e,Nat.lt_of_lt_of_le hog hb.size,hcap,hcm,SlE.step hs hb⟩,hl⟩
theorem CodeIn.moved {W:World} {v:Value} {C:List Ins} {m:Nat} (h:CodeIn W v C m) (hok: ∀x∈C,x.Ok) (hm:m<=100000) (z:Int) (hz0:0<=z) (hz1:z<=4294967295) (hT:Tab W):
 Calls Tryz.prog 35 #[v,.int .i64 z] W fun e W'=> ∃cs:Array Value,e= .returned (.slice (some ⟨W.heap.size,0,none⟩) m m)/\Blk W' W.heap.size 75 cs/\(∀i,i<m->InsAt cs i (movedI z (C.getD i default)))/\Below W.heap.size W W':=by
 obtain ⟨⟨og,cap,rfl,hog,hcap,hcm,hs⟩,hl⟩:=h
 have hget: ∀i,i<m->C.getD i default∈C:=fun i hi=>by
  have hi':i<C.length:=by omega
  rw [List.getD_eq_getElem?_getD,List.getElem?_eq_getElem hi'];exact List.getElem_mem hi'
 refine (moved_any ⟨some ⟨og,0,none⟩,m,cap,fun i=>C.getD i default⟩ z ⟨hcap,hcm,fun i hi=>hok _ (hget i hi)⟩ hm hz0 hz1 W hT hs).mono ?_
 rintro e W' ⟨cs,h1,h2,_,h3,h4⟩
 exact ⟨cs,h1,h2,h3,h4⟩
theorem grown_below {W0 W W':World} {r:Option Nat} (h:W0.grownBy W r) (hb:Below W.heap.size W W'):W0.grownBy W' r:=
 ⟨hb.os.trans h.os,hb.tape.trans h.tape,hb.output.trans h.output,Nat.le_trans h.size hb.size,fun i hi hn=>(hb.block i (Nat.lt_of_lt_of_le hi h.size)).trans (h.block i hi hn)⟩
theorem grown_row {W0 W W':World} {r q:Option Nat} (h:W0.grownBy W r) (hg:W.grownBy W' q) (hq: ∀g,q=some g->W0.heap.size<=g∨r=some g):W0.grownBy W' r:=
 ⟨hg.os.trans h.os,hg.tape.trans h.tape,hg.output.trans h.output,Nat.le_trans h.size hg.size,fun i hi hn=>(hg.block i (Nat.lt_of_lt_of_le hi h.size) (fun e=>by
  rcases hq i e.symm with q|q
  ·omega
  ·exact hn q.symm)).trans (h.block i hi hn)⟩
theorem CdRow.far {W W':World} {base:Nat} {v:Value} {L:List (List Ins)} {g:Nat} {t:TypeId} {cs:Array Value} (h:CdRow W base v L) (hb:Blk W g t cs) (h1:t≠50) (h2:t≠75) (hg:W.grownBy W' (some g)):CdRow W' base v L:=by
 obtain ⟨vals,q1,q2,q3⟩:=h
 exact ⟨vals,q1,row_grown q2 hg (row_ne hb q2 h1),fun i hi=>row_grown (q3 i hi) hg (row_ne hb (q3 i hi) h2)⟩
theorem CdRow.cap {W:World} {base:Nat} {v:Value} {L:List (List Ins)} (h:CdRow W base v L): ∃A c,v= .slice A L.length c:=by
 obtain ⟨vals,q1,q2,q3⟩:=h
 obtain ⟨A,c,e,_,_⟩:=own_cap q2
 exact ⟨A,c,e⟩
theorem CdRow.app {W0 W:World} {base:Nat} {A AA:Option Addr} {n N c cv:Nat} {L:List (List Ins)} {l:List Ins} {ops:Array Oper} {rest:List Oper} {o:Oper} {a:Act} {Q:Exit->Act->World->Prop} (h:CdRow W base (.slice A n cv) L) (hn:n=L.length) (hc:CW W0 W AA N c l) (hb0:base<=W0.heap.size) (hgd:o.guard=none) (s x:Operand)
 (ho:o.op= .call {callee:= .builtin .append,args:= #[s,x],argTypes:= #[26,26]}) (hs:a.eval s= .slice A n cv) (hx:a.eval x= .slice (some ⟨W.heap.size,0,none⟩) 1 1) (hL:n<=100)
 (K: ∀A' c' w',CdRow w' base (.slice A' (n+1) c') (L++[l])->(∀pb t cs,Blk W pb t cs->t≠50->Blk w' pb t cs)->(∀(W5:World) (r:Option Nat),W5.heap.size=base->W5.grownBy W r->W5.grownBy w' r)->wpList Tryz.prog ops Q rest (a.put o.dst (.slice A' (n+1) c')) w'):wpList Tryz.prog ops Q (o::rest) a (W.alloc (.cells #[.slice AA N c] 50)):=by
 have hal:=(Below.refl W.heap.size W).alloc (Nat.le_refl _) (.cells #[.slice AA N c] 50)
 obtain ⟨vals,q1,q2,q3⟩:=h.below hal
 have hcs:=hc.step hal
 subst hn
 obtain ⟨i0,hi,hy0,hy1,hy2⟩:=info_parts slc_info5
 have hcn:=hcs.n
 have hbW:base<=W.heap.size:=Nat.le_trans hb0 hc.below.size
 refine wpList_append_sl (W.alloc (.cells #[.slice AA N c] 50)) hgd s x 26 ho base 50 i0 _ 1 24 Tryz.underlying26 hi hy0 hy1 hy2 rfl (by omega) (.slice A L.length cv) L.length vals hs q2 (some ⟨W.heap.size,0,none⟩) 1 1 (fun _=> .slice AA N c) hx (fun _=>⟨_,0,rfl,by simp,fun i hi=>?_⟩) (fun _ _=>rfl) (by unfold maxLen;omega) (by omega) (by simp;omega) ?_
 ·obtain rfl:i=0:=by omega
  exact ((Blk.new W 50 #[.slice AA N c]).cell 0).trans rfl
 intro v' w' h1 h2 _
 have e1:(List.range (1*1)).map (fun _=>Value.slice AA N c)=[Value.slice AA N c]:=rfl
 rw [e1]at h1
 obtain ⟨A',c',rfl,_,_⟩:=own_cap h1
 have hown:(W.alloc (.cells #[.slice AA N c] 50)).ownsRow W0.heap.size 75 5 (.slice AA N c) l.length (l.flatMap Ins.cells):=hcn▸hcs.own
 refine K A' c' w' (CdRow.snoc q1 q2 q3 hown hb0 h2 h1) (fun pb t cs hb ht=>?_) (fun W5 r hz hg=>?_)
 ·exact (hb.alloc _).grown h2 (row_ne (hb.alloc _) q2 ht)
 ·exact grown_row (grown_below hg hal) h2 (fun g e=> .inl (by rw [hz];exact (own_in q2 g e).1))
theorem map_range {C:List Ins} {m:Nat} (h:C.length=m) (f:Ins->Ins):C.map f=(List.range m).map fun i=>f (C.getD i default):=by
 subst h
 refine List.ext_getElem? fun i=>?_
 rw [List.getElem?_map,List.getElem?_map]
 rcases Nat.lt_or_ge i C.length with c|c
 ·rw [List.getElem?_range c,List.getElem?_eq_getElem c]
  simp [List.getD_eq_getElem?_getD,List.getElem?_eq_getElem c]
 ·rw [List.getElem?_eq_none c,List.getElem?_eq_none (l:=List.range C.length) (by simpa using c)];rfl
def FirstP (W:World) (m:Nat) (e:Ending) (W':World):Prop:=
 ∃g,e= .returned (.slice (some ⟨g,0,none⟩) m m)/\Blk W' g 42 (List.replicate m (Value.int .u32 0)).toArray/\W.heap.size<=g/\Below W.heap.size W W'
set_option maxHeartbeats 2000000 in
theorem first13 (n th:Int) (hn:1<=n/\n<=th) (ht:1<=th/\th<=8) (W:World):Calls Tryz.prog 81 #[.agg #[.int .i64 13,.int .i64 n,.int .i64 0,.int .i64 0],.int .i64 th] W (FirstP W 2):=by
 have hq:=Blk.new W 46 #[.int .i64 13,.int .i64 n,.int .i64 0,.int .i64 0]
 have hB:=(Below.refl W.heap.size W).alloc (Nat.le_refl _) (.cells #[.int .i64 13,.int .i64 n,.int .i64 0,.int .i64 0] 46)
 have q0:=(hq.cell 0).trans rfl
 have q1:=(hq.cell 1).trans rfl
 have q2:=(hq.cell 2).trans rfl
 have q3:=(hq.cell 3).trans rfl
 have cR:=right_bar n th hn ht (W.alloc (.cells #[.int .i64 13,.int .i64 n,.int .i64 0,.int .i64 0] 46))
 unfold objA at cR
 have hmk: ∀w:World,(Instr.makeSlice 27 (.int .i64 2) (.int .i64 2)).run Tryz.prog w= .ok (.slice (some ⟨w.heap.size,0,none⟩) 2 2) (w.alloc (.cells (List.replicate 2 (Value.int .u32 0)).toArray 42)):=fun w=>makeW 2 (by decide) w
 obtain ⟨mz,hmz⟩: ∃mz,(List.replicate 2 (Value.int .u32 0)).toArray=mz:=⟨_,rfl⟩
 rw [hmz]at hmk
 have HMZ:=Lib.hid hmz
 clear hmz
 go_enter Tryz.func81,Tryz.ntmps81
 go_wp2_with fail
 with_reducible refine cR.mono ?_
 rintro e V0 ⟨rfl,hB0⟩
 clear cR q0 q1 q2 q3
 have hq0:=hq.below hB0 hq.lt
 have q0:=(hq0.cell 0).trans rfl
 have HB:=Lib.hid (step_below hB hB0)
 clear hq hB hB0 hq0
 go_wp2
 go_ret
 refine ⟨V0.heap.size,rfl,?_,HB.out.size,step_below HB.out ((Below.refl V0.heap.size V0).alloc (Nat.le_refl _) _)⟩
 rw [HMZ.out]
 exact Blk.new V0 42 mz
def LRows (W:World) (A:Option Addr) (L:List (List Int)):Prop:=
 ∃F:Nat->Option Addr×Nat,Sl W A L.length (fun t=> .slice (F t).1 (L.getD t []).length (F t).2)/\ ∀t,t<L.length->Sl W (F t).1 (L.getD t []).length (fun j=> .int .i64 ((L.getD t []).getD j 0))
theorem LRows.step {W W':World} {A:Option Addr} {L:List (List Int)} (h:LRows W A L) (hb:Below W.heap.size W W'):LRows W' A L:=by
 obtain ⟨F,h1,h2⟩:=h
 exact ⟨F,h1.step hb,fun t ht=>(h2 t ht).step hb⟩
def LOwn (W:World) (base:Nat) (v:Value) (L:List (List Int)):Prop:=
 ∃vals:List Value,vals.length=L.length/\W.ownsRow base 70 1 v L.length vals/\ ∀t,t<L.length->W.ownsRow base 3 1 (vals.getD t undef) (L.getD t []).length ((L.getD t []).map (Value.int .i64))
theorem LOwn.nil (W:World) (base:Nat):LOwn W base (.slice none 0 0) []:=⟨[],rfl,⟨rfl,.inl ⟨rfl,rfl⟩⟩,fun i hi=>absurd hi (by simp)⟩
theorem LOwn.step {W W':World} {base:Nat} {v:Value} {L:List (List Int)} (h:LOwn W base v L) (hb:Below W.heap.size W W'):LOwn W' base v L:=by
 obtain ⟨vals,h1,h2,h3⟩:=h
 exact ⟨vals,h1,own_below h2 (Nat.le_refl _) hb,fun t ht=>own_below (h3 t ht) (Nat.le_refl _) hb⟩
def slOf (v:Value):Option Addr×Nat:=match v with
 | .slice B _ cc=>(B,cc)
 |_=>(none,0)
theorem LOwn.rows {W:World} {base:Nat} {v:Value} {L:List (List Int)} (h:LOwn W base v L): ∃A c,v= .slice A L.length c/\L.length<=c/\c<=maxLen/\LRows W A L:=by
 obtain ⟨vals,h1,h2,h3⟩:=h
 obtain ⟨A,c,rfl,_,hs⟩:=own_sl h2
 obtain ⟨A',c',e',q1,q2⟩:=own_cap h2
 injection e' with _ _ e'
 subst e'
 rw [Nat.mul_one]at hs
 refine ⟨A,c,rfl,q1,q2,fun t=>slOf (vals.getD t undef),?_,fun t ht=>?_⟩
 ·refine hs.congr (fun t ht=>?_)
  obtain ⟨B,cc,e,_,_⟩:=own_sl (h3 t ht)
  show vals.getD t undef= .slice (slOf (vals.getD t undef)).1 (L.getD t []).length (slOf (vals.getD t undef)).2
  rw [e];rfl
 ·obtain ⟨B,cc,e,_,hq⟩:=own_sl (h3 t ht)
  show Sl W (slOf (vals.getD t undef)).1 _ _
  rw [e]
  show Sl W B _ _
  rw [Nat.mul_one]at hq
  refine hq.congr (fun j hj=>?_)
  obtain ⟨l,hl⟩: ∃l,L.getD t []=l:=⟨_,rfl⟩
  rw [hl]at hj⊢
  simp [List.getD_eq_getElem?_getD,List.getElem?_map,List.getElem?_eq_getElem hj]
theorem int_info5:(Tryz.prog.info? 3).map (fun i=>(i.zero,i.size,i.bytes))=some (some (.int .i64 0),1,8):=by kernel_rfl
theorem ints_info5:(Tryz.prog.info? 70).map (fun i=>(i.zero,i.size,i.bytes))=some (some (.slice none 0 0),1,24):=by kernel_rfl
theorem own_app1 {W:World} {base:Nat} {l:List Int} {n:Nat} {v:Value} {ops:Array Oper} {rest:List Oper} {o:Oper} {a:Act} {Q:Exit->Act->World->Prop} (h:W.ownsRow base 3 1 v n (l.map (Value.int .i64))) (hn:n=l.length) (x:Int) (hgd:o.guard=none) (s y:Operand)
 (ho:o.op= .call {callee:= .builtin .append,args:= #[s,y],argTypes:= #[70,70]}) (hs:a.eval s=v) (hy:a.eval y= .slice (some ⟨W.heap.size,0,none⟩) 1 1) (hb0:base<=W.heap.size) (hL:n<=1000000000)
 (K: ∀v' w',w'.ownsRow base 3 1 v' (n+1) ((l++[x]).map (Value.int .i64))->W.grownBy w' v.ownBlock->wpList Tryz.prog ops Q rest (a.put o.dst v') w'):wpList Tryz.prog ops Q (o::rest) a (W.alloc (.cells #[.int .i64 x] 3)):=by
 have hal:=(Below.refl W.heap.size W).alloc (Nat.le_refl _) (.cells #[.int .i64 x] 3)
 obtain ⟨i0,hi,hy0,hy1,hy2⟩:=info_parts int_info5
 refine wpList_append_sl (W.alloc (.cells #[.int .i64 x] 3)) hgd s y 70 ho base 3 i0 _ 1 8 Tryz.underlying70 hi hy0 hy1 hy2 rfl (by omega) v n _ hs (own_below h (Nat.le_refl _) hal) (some ⟨W.heap.size,0,none⟩) 1 1 (fun _=> .int .i64 x) hy (fun _=>⟨_,0,rfl,by simp,fun i hi=>?_⟩) (fun _ _=>rfl) (by unfold maxLen;omega) (by omega) (by simp;omega) ?_
 ·obtain rfl:i=0:=by omega
  exact ((Blk.new W 3 #[.int .i64 x]).cell 0).trans rfl
 intro v' w' h1 h2 _
 have e1:(l.map (Value.int .i64))++(List.range (1*1)).map (fun _=>Value.int .i64 x)=(l++[x]).map (Value.int .i64):=by simp
 rw [e1]at h1
 exact K v' w' h1 (grown_trans' (grown_below (show W.grownBy W v.ownBlock from ⟨rfl,rfl,rfl,Nat.le_refl _,fun _ _ _=>rfl⟩) hal) h2)
theorem LOwn.app {W:World} {base:Nat} {A AA:Option Addr} {n N c cv:Nat} {L:List (List Int)} {l:List Int} {ops:Array Oper} {rest:List Oper} {o:Oper} {a:Act} {Q:Exit->Act->World->Prop} (h:LOwn W base (.slice A n cv) L) (hn:n=L.length) (hc:W.ownsRow base 3 1 (.slice AA N c) N (l.map (Value.int .i64))) (hN:N=l.length) (hb0:base<=W.heap.size) (hgd:o.guard=none) (s x:Operand)
 (ho:o.op= .call {callee:= .builtin .append,args:= #[s,x],argTypes:= #[94,94]}) (hs:a.eval s= .slice A n cv) (hx:a.eval x= .slice (some ⟨W.heap.size,0,none⟩) 1 1) (hL:n<=100)
 (K: ∀A' c' w',LOwn w' base (.slice A' (n+1) c') (L++[l])->Below base W w'->wpList Tryz.prog ops Q rest (a.put o.dst (.slice A' (n+1) c')) w'):wpList Tryz.prog ops Q (o::rest) a (W.alloc (.cells #[.slice AA N c] 70)):=by
 have hal:=(Below.refl W.heap.size W).alloc (Nat.le_refl _) (.cells #[.slice AA N c] 70)
 obtain ⟨vals,q1,q2,q3⟩:=h.step hal
 have hcs:=own_below hc (Nat.le_refl _) hal
 subst hn hN
 obtain ⟨i0,hi,hy0,hy1,hy2⟩:=info_parts ints_info5
 refine wpList_append_sl (W.alloc (.cells #[.slice AA l.length c] 70)) hgd s x 94 ho base 70 i0 _ 1 24 Tryz.underlying94 hi hy0 hy1 hy2 rfl (by omega) (.slice A L.length cv) L.length vals hs q2 (some ⟨W.heap.size,0,none⟩) 1 1 (fun _=> .slice AA l.length c) hx (fun _=>⟨_,0,rfl,by simp,fun i hi=>?_⟩) (fun _ _=>rfl) (by unfold maxLen;omega) (by omega) (by simp;omega) ?_
 ·obtain rfl:i=0:=by omega
  exact ((Blk.new W 70 #[.slice AA l.length c]).cell 0).trans rfl
 intro v' w' h1 h2 _
 have e1:(List.range (1*1)).map (fun _=>Value.slice AA l.length c)=[Value.slice AA l.length c]:=rfl
 rw [e1]at h1
 obtain ⟨A',c',rfl,_,_⟩:=own_cap h1
 refine K A' c' w' ⟨vals++[.slice AA l.length c],by rw [List.length_append,List.length_append,q1];rfl,by rw [List.length_append];exact h1,fun t ht=>?_⟩ ?_
 ·have keep: ∀{v:Value} {m:Nat} {xs:List Value},(W.alloc (.cells #[.slice AA l.length c] 70)).ownsRow base 3 1 v m xs->w'.ownsRow base 3 1 v m xs:=fun q=>own_apart q q2 (by decide) h2
  rw [List.length_append,List.length_singleton]at ht
  rcases Nat.lt_or_ge t L.length with z|z
  ·rw [List.getD_eq_getElem?_getD,List.getD_eq_getElem?_getD,List.getElem?_append_left (by omega),List.getElem?_append_left z,<-List.getD_eq_getElem?_getD,<-List.getD_eq_getElem?_getD]
   exact keep (q3 t z)
  ·obtain rfl:t=L.length:=by omega
   have e2:(vals++[Value.slice AA l.length c]).getD L.length undef= .slice AA l.length c:=by rw [<-q1];simp
   have e3:(L++[l]).getD L.length []=l:=by simp
   rw [e2,e3]
   exact keep hcs
 ·exact (hal.mono hb0).trans (below_of_grown (by simp;omega) h2 fun g e=>(own_in q2 g e).1)
section
variable {W0 W W':World} {A:Option Addr} {N c:Nat} {L:List Ins}
theorem CW.app1K {ops:Array Oper} {rest:List Oper} {o:Oper} {a:Act} {Q:Exit->Act->World->Prop} (h:CW W0 W A N c L) (i:Ins) (M:Nat) (hM:M=N+1) (hgd:o.guard=none) (s x:Operand)
 (ho:o.op= .call {callee:= .builtin .append,args:= #[s,x],argTypes:= #[50,50]}) (hs:a.eval s= .slice A N c) (hx:a.eval x= .slice (some ⟨W.heap.size,0,none⟩) 1 1) (hb:M<=1000000)
 (K: ∀A' c' w',CW W0 w' A' M c' (L++[i])->(∀pb t cs,Blk W pb t cs->some pb≠(Value.slice A N c).ownBlock->Blk w' pb t cs)->wpList Tryz.prog ops Q rest (a.put o.dst (.slice A' M c')) w'):wpList Tryz.prog ops Q (o::rest) a (W.alloc (.cells i.cells.toArray 75)):=by
 obtain ⟨hn,hown,hbel⟩:=h.step ((Below.refl W.heap.size W).alloc (Nat.le_refl _) (.cells i.cells.toArray 75))
 subst hM hn
 refine wpList_append_ins hgd s x ho W0.heap.size (.slice A L.length c) L [i] hs hown (some ⟨W.heap.size,0,none⟩) 1 hx (sl_one W i) (by simpa using hb) hbel.size ?_
 intro A' c' w' h1 h2 h3
 have e:(L++[i]).length=L.length+1:=by rw [List.length_append];rfl
 rw [e]at h1⊢
 exact K A' c' w' ⟨e.symm,h1,hbel.trans (h3.mono (Nat.le_refl _))⟩ (fun pb t cs q hne=>(q.alloc _).grown h2 hne)
end
def askL (G:Nat->List Ins) (ks:Nat->Int):Nat->List Ins
 |0=>[]
 |n+1=>askL G ks n++[(⟨27,7,0,0,2*ks n⟩:Ins)]++(G n).map (movedI (((askL G ks n).length:Int)+1))++[⟨27,7,0,0,2*ks n+1⟩]
theorem askL_succ (G:Nat->List Ins) (ks:Nat->Int) (n:Nat):askL G ks (n+1)=askL G ks n++[(⟨27,7,0,0,2*ks n⟩:Ins)]++(G n).map (movedI (((askL G ks n).length:Int)+1))++[⟨27,7,0,0,2*ks n+1⟩]:=rfl
theorem askL_len (G:Nat->List Ins) (ks:Nat->Int) (n:Nat):(askL G ks (n+1)).length=(askL G ks n).length+((G n).length+2):=by
 show (askL G ks n++[(⟨27,7,0,0,2*ks n⟩:Ins)]++(G n).map (movedI (((askL G ks n).length:Int)+1))++[(⟨27,7,0,0,2*ks n+1⟩:Ins)]).length=_
 simp only [List.length_append,List.length_singleton,List.length_map];omega
theorem askL_le {G:Nat->List Ins} {ks:Nat->Int} {g:Nat} (h: ∀i,(G i).length<=g) (n:Nat):(askL G ks n).length<=n*(g+2):=by
 induction n with
 |zero=>exact Nat.zero_le _
 |succ n ih=>rw [askL_len,Nat.succ_mul];have :=h n;omega
end Go.Proofs.YtmhfpjnkjlhbpaaGreatDoor
