/- seq: the closure that adds a call to a code: what a law's code in a captured variable comes to. seq: more, begin, read (printed by gen/bldf.py). obj.Right, obj.Calls at some kinds; spin.May. -/
import Derived.Test.YtmhfpjnkjlhbpaaGreatDoorQf32
import Derived.Test.YtmhfpjnkjlhbpaaGreatDoorQf29
import Derived.Test.YtmhfpjnkjlhbpaaGreatDoorQf07
import Derived.Deep.LoopGhost
namespace Go.Proofs.YtmhfpjnkjlhbpaaGreatDoor
open Go.ChangeShapes Go.WideShapes Go.ChangeAt Go.RowKit Go.Deep
set_option linter.unusedVariables false
set_option maxRecDepth 100000
set_option linter.unusedSimpArgs false
structure AX (W0 W:World) (okb:Nat) (v:Value) (A:Option Addr) (N c:Nat) (L:List Ins):Prop where
 n:N=L.length
 own:W.ownsRow W0.heap.size 75 5 (.slice A N c) N (L.flatMap Ins.cells)
 box:Blk W W0.heap.size 50 #[v]
 okx:Blk W okb 4 #[.bool true]
 okl:2<=okb/\okb<W0.heap.size
 far:W0.grownBy W (some okb)
 tab0:Tab W0
section
variable {W0 W W':World} {okb:Nat} {v:Value} {A:Option Addr} {N c:Nat} {L:List Ins}
theorem AX.below2 (h:AX W0 W okb v A N c L):Below 2 W0 W:=
 {os:=h.far.os,tape:=h.far.tape,output:=h.far.output,size:=h.far.size,block:=fun i hi=>h.far.block i (by have :=h.okl;omega) (fun e=>by have :=Option.some.inj e;have :=h.okl.1;omega)}
theorem AX.tab (h:AX W0 W okb v A N c L):Tab W:=h.tab0.below h.below2 (Nat.le_refl _)
theorem AX.lt (h:AX W0 W okb v A N c L):W0.heap.size<W.heap.size:=h.box.lt
theorem AX.step (h:AX W0 W okb v A N c L) (hb:Below W.heap.size W W'):AX W0 W' okb v A N c L:=
 ⟨h.n,own_below h.own (Nat.le_refl _) hb,h.box.below hb h.box.lt,h.okx.below hb h.okx.lt,h.okl,grown_below h.far hb,h.tab0⟩
theorem AX.all (h:AX W0 W okb v A N c L) (h0:Blk W0 okb 4 #[.bool true]):Below W0.heap.size W0 W:=
 {os:=h.far.os,tape:=h.far.tape,output:=h.far.output,size:=h.far.size,block:=fun i hi=>by
   by_cases e:i=okb
   ·rw [e];exact h.okx.trans h0.symm
   ·exact h.far.block i hi (fun q=>e (Option.some.inj q))}
theorem AX.cw (h:AX W0 W okb v A N c L) (h0:Blk W0 okb 4 #[.bool true]):CW W0 W A N c L:=⟨h.n,h.own,h.all h0⟩
theorem AX.old {b:Nat} {t:TypeId} {cs:Array Value} (h:AX W0 W okb v A N c L) (hb:Blk W0 b t cs) (hne:b≠okb):Blk W b t cs:=hb.grown h.far (fun e=>hne (Option.some.inj e))
theorem AX.start (W0:World) {okb:Nat} (ho:Blk W0 okb 4 #[.bool true]) (h2:2<=okb) (hT:Tab W0):AX W0 (W0.alloc (.cells #[.slice none 0 0] 50)) okb (.slice none 0 0) none 0 0 []:=
 ⟨rfl,⟨rfl,.inl ⟨rfl,rfl⟩⟩,Blk.new _ _ _,ho.alloc _,⟨h2,ho.lt⟩,grown_below ⟨rfl,rfl,rfl,Nat.le_refl _,fun _ _ _=>rfl⟩ ((Below.refl W0.heap.size W0).alloc (Nat.le_refl _) _),hT⟩
theorem AX.set (h:AX W0 W okb v A N c L) (u:Value):AX W0 (W.setCell ⟨W0.heap.size,0,none⟩ u) okb u A N c L:=
 ⟨h.n,row_grown h.own (set_only u) (row_ne h.box h.own (by decide)),h.box.set_ 0 u,h.okx.far (by have :=h.okl.2;show okb≠W0.heap.size;omega) u,h.okl,grown_row h.far (set_only u) (fun g e=> .inl (by rw [<-Option.some.inj e];exact Nat.le_refl _)),h.tab0⟩
theorem AX.setOk (h:AX W0 W okb v A N c L):AX W0 (W.setCell ⟨okb,0,none⟩ (.bool true)) okb v A N c L:=
 ⟨h.n,row_grown h.own (set_only _) (row_ne h.okx h.own (by decide)),h.box.far (by have :=h.okl.2;show W0.heap.size≠okb;omega) _,h.okx.set_ 0 _,h.okl,grown_row h.far (set_only _) (fun g e=> .inr e),h.tab0⟩
theorem AX.app {ops:Array Oper} {rest:List Oper} {o:Oper} {a:Act} {Q:Exit->Act->World->Prop} (h:AX W0 W okb v A N c L) (hgd:o.guard=none) (s x:Operand)
 (ho:o.op= .call {callee:= .builtin .append,args:= #[s,x],argTypes:= #[50,50]}) (l2:List Ins) (m M cx:Nat) (hm:l2.length=m) (hM:M=N+m) (hs:a.eval s= .slice A N c) {Ax:Option Addr} (hx:a.eval x= .slice Ax m cx)
 (hr:Sl W Ax (m*5) (fun k=>(l2.flatMap Ins.cells).getD k undef)) (hb:M<=1000000)
 (K: ∀A' c' w',AX W0 w' okb v A' M c' (L++l2)->(∀b t cs,Blk W b t cs->some b≠(Value.slice A N c).ownBlock->Blk w' b t cs)->wpList Tryz.prog ops Q rest (a.put o.dst (.slice A' M c')) w'):wpList Tryz.prog ops Q (o::rest) a W:=by
 have hn:=h.n
 subst hn hm
 refine wpList_append_ins hgd s x ho W0.heap.size (.slice A L.length c) L l2 hs h.own Ax cx hx hr (by omega) (Nat.le_of_lt h.lt) ?_
 intro A' c' w' h1 h2 h3
 have e:(L++l2).length=M:=by rw [List.length_append];exact hM.symm
 rw [e]at h1⊢
 exact K A' c' w' ⟨e.symm,h1,h.box.grown h2 (row_ne h.box h.own (by decide)),h.okx.grown h2 (row_ne h.okx h.own (by decide)),h.okl,grown_row h.far h2 (fun g e=> .inl (own_in h.own g e).1),h.tab0⟩ (fun b t cs hb hne=>hb.grown h2 hne)
theorem AX.app1 {ops:Array Oper} {rest:List Oper} {o:Oper} {a:Act} {Q:Exit->Act->World->Prop} (h:AX W0 W okb v A N c L) (i:Ins) (M g:Nat) (hM:M=N+1) (hg:W.heap.size=g) (hgd:o.guard=none) (s x:Operand)
 (ho:o.op= .call {callee:= .builtin .append,args:= #[s,x],argTypes:= #[50,50]}) (hs:a.eval s= .slice A N c) (hx:a.eval x= .slice (some ⟨g,0,none⟩) 1 1) (hb:M<=1000000)
 (K: ∀A' c' w',AX W0 w' okb v A' M c' (L++[i])->(∀b t cs,Blk W b t cs->some b≠(Value.slice A N c).ownBlock->Blk w' b t cs)->wpList Tryz.prog ops Q rest (a.put o.dst (.slice A' M c')) w'):wpList Tryz.prog ops Q (o::rest) a (W.alloc (.cells i.cells.toArray 75)):=
 (h.step ((Below.refl W.heap.size W).alloc (Nat.le_refl _) _)).app hgd s x ho [i] 1 M 1 rfl hM hs hx (by subst hg;exact sl_one W i) hb (fun A' c' w' q1 q2=>K A' c' w' q1 (fun b t cs hb=>q2 b t cs (hb.alloc _)))
theorem sl_three (W:World) (x y z:Ins):Sl (W.alloc (.cells (x.cells++(y.cells++z.cells)).toArray 75)) (some ⟨W.heap.size,0,none⟩) (3*5) (fun k=>([x,y,z].flatMap Ins.cells).getD k undef):=
 sl_ins (l:=[x,y,z]) (cap:=0) (Blk.new _ _ _) fun i hi j u hu=>by
  have hi':i<3:=hi
  obtain rfl|rfl|rfl:i=0∨i=1∨i=2:=by omega
  ·have hj:j<5:=(List.getElem?_eq_some_iff.1 hu).1
   obtain rfl|rfl|rfl|rfl|rfl:j=0∨j=1∨j=2∨j=3∨j=4:=by omega
   all_goals exact hu
  ·have hj:j<5:=(List.getElem?_eq_some_iff.1 hu).1
   obtain rfl|rfl|rfl|rfl|rfl:j=0∨j=1∨j=2∨j=3∨j=4:=by omega
   all_goals exact hu
  ·have hj:j<5:=(List.getElem?_eq_some_iff.1 hu).1
   obtain rfl|rfl|rfl|rfl|rfl:j=0∨j=1∨j=2∨j=3∨j=4:=by omega
   all_goals exact hu
theorem AX.app3 {ops:Array Oper} {rest:List Oper} {o:Oper} {a:Act} {Q:Exit->Act->World->Prop} (h:AX W0 W okb v A N c L) (x1 x2 x3:Ins) (M g:Nat) (hM:M=N+3) (hg:W.heap.size=g) (hgd:o.guard=none) (s x:Operand)
 (ho:o.op= .call {callee:= .builtin .append,args:= #[s,x],argTypes:= #[50,50]}) (hs:a.eval s= .slice A N c) (hx:a.eval x= .slice (some ⟨g,0,none⟩) 3 3) (hb:M<=1000000)
 (K: ∀A' c' w',AX W0 w' okb v A' M c' (L++[x1,x2,x3])->wpList Tryz.prog ops Q rest (a.put o.dst (.slice A' M c')) w'):wpList Tryz.prog ops Q (o::rest) a (W.alloc (.cells (x1.cells++(x2.cells++x3.cells)).toArray 75)):=
 (h.step ((Below.refl W.heap.size W).alloc (Nat.le_refl _) _)).app hgd s x ho [x1,x2,x3] 3 M 3 rfl hM hs hx (by subst hg;exact sl_three W x1 x2 x3) hb (fun A' c' w' q1 _=>K A' c' w' q1)
theorem AX.appM {ops:Array Oper} {rest:List Oper} {o:Oper} {a:Act} {Q:Exit->Act->World->Prop} {g:Nat} {cs:Array Value} {m:Nat} {F:Nat->Ins} (h:AX W0 W okb v A N c L) (hb5:Blk W g 75 cs) (hin: ∀i,i<m->InsAt cs i (F i)) (C:List Ins) (hC:C=(List.range m).map F) (M:Nat) (hM:M=N+m) (hgd:o.guard=none) (s x:Operand)
 (ho:o.op= .call {callee:= .builtin .append,args:= #[s,x],argTypes:= #[50,50]}) (hs:a.eval s= .slice A N c) (hx:a.eval x= .slice (some ⟨g,0,none⟩) m m) (hb:M<=1000000)
 (K: ∀A' c' w',AX W0 w' okb v A' M c' (L++C)->(∀b t cs,Blk W b t cs->some b≠(Value.slice A N c).ownBlock->Blk w' b t cs)->wpList Tryz.prog ops Q rest (a.put o.dst (.slice A' M c')) w'):wpList Tryz.prog ops Q (o::rest) a W:=by
 have hl:C.length=m:=by rw [hC];simp
 have hs5:=sl_ins (l:=C) (cap:=0) hb5 (fun i hi=>by
  have hi':i<m:=by omega
  have e:C.getD i default=F i:=by rw [hC];simp [List.getD_eq_getElem?_getD,List.getElem?_map,List.getElem?_range hi']
  rw [e];exact hin i hi')
 rw [hl]at hs5
 exact h.app hgd s x ho C m M m hl hM hs hx hs5 hb K
end
theorem AX.drew {W0 W:World} {okb:Nat} {v:Value} {A:Option Addr} {N c:Nat} {L:List Ins} (h:AX W0 W okb v A N c L):AX W0 W.drew okb v A N c L:=h.step (below_drewB W)
theorem wp_append_ins {w:World} {o:Oper} {a:Act} {K:Act->World->Prop} {Q:Exit->Act->World->Prop} (s x:Operand)
 (ho:o.op= .call {callee:= .builtin .append,args:= #[s,x],argTypes:= #[50,50]}) (base:Nat) (v:Value) (l l2:List Ins) (hs:a.eval s=v) (hown:w.ownsRow base 75 5 v l.length (l.flatMap Ins.cells))
 (A:Option Addr) (c:Nat) (hx:a.eval x= .slice A l2.length c) (hr:Sl w A (l2.length*5) (fun k=>(l2.flatMap Ins.cells).getD k undef)) (hb:l.length+l2.length<=1000000) (hbase:base<=w.heap.size)
 (h: ∀A' c' w',w'.ownsRow base 75 5 (.slice A' (l++l2).length c') (l++l2).length ((l++l2).flatMap Ins.cells)->w.grownBy w' v.ownBlock->Below base w w'->K (a.put o.dst (.slice A' (l++l2).length c')) w'):o.wp Tryz.prog a w K Q:=by
 obtain ⟨i0,hi,hy0,hy1,hy2⟩:=info_parts insB_info5
 refine wp_append_sl w s x 50 ho base 75 i0 _ 5 40 Tryz.underlying50 hi hy0 hy1 hy2 rfl (by omega) v l.length _ hs hown A l2.length c (fun k=>(l2.flatMap Ins.cells).getD k undef) hx hr (ins_cells_one l2) (by unfold maxLen;omega) (by omega) hbase ?_
 intro v' w' h1 h2 _
 have hl2:(l2.flatMap Ins.cells).length=l2.length*5:=by
  clear hr hb hx h h1 h2
  induction l2 with
  |nil=>rfl
  |cons y l2 ih=>rw [List.flatMap_cons,List.length_append,ih];show 5+_=_;rw [List.length_cons];omega
 rw [range_getD _ _ hl2,<-List.flatMap_append]at h1
 have hw:=below_of_grown hbase h2 fun g e=>(own_in hown g e).1
 rw [show l.length+l2.length=(l++l2).length from by simp]at h1
 obtain ⟨A',c',rfl,_,_⟩:=own_cap h1
 exact h A' c' w' h1 h2 hw
theorem AX.appO {W0 W:World} {okb:Nat} {v:Value} {A:Option Addr} {N c:Nat} {L:List Ins} {o:Oper} {a:Act} {K:Act->World->Prop} {Q:Exit->Act->World->Prop} {g:Nat} {cs:Array Value} {m:Nat} {F:Nat->Ins} (h:AX W0 W okb v A N c L) (hb5:Blk W g 75 cs) (hin: ∀i,i<m->InsAt cs i (F i)) (C:List Ins) (hC:C=(List.range m).map F) (M:Nat) (hM:M=N+m) (s x:Operand)
 (ho:o.op= .call {callee:= .builtin .append,args:= #[s,x],argTypes:= #[50,50]}) (hs:a.eval s= .slice A N c) (hx:a.eval x= .slice (some ⟨g,0,none⟩) m m) (hb:M<=1000000)
 (K': ∀A' c' w',AX W0 w' okb v A' M c' (L++C)->K (a.put o.dst (.slice A' M c')) w'):o.wp Tryz.prog a W K Q:=by
 have hl:C.length=m:=by rw [hC];simp
 have hs5:=sl_ins (l:=C) (cap:=0) hb5 (fun i hi=>by
  have hi':i<m:=by omega
  have e:C.getD i default=F i:=by rw [hC];simp [List.getD_eq_getElem?_getD,List.getElem?_map,List.getElem?_range hi']
  rw [e];exact hin i hi')
 have hn:=h.n
 clear hC
 subst hl hn
 refine wp_append_ins s x ho W0.heap.size (.slice A L.length c) L C hs h.own (some ⟨g,0,none⟩) C.length hx hs5 (by omega) (Nat.le_of_lt h.lt) ?_
 intro A' c' w' h1 h2 h3
 have e:(L++C).length=M:=by rw [List.length_append];exact hM.symm
 rw [e]at h1⊢
 exact K' A' c' w' ⟨e.symm,h1,h.box.grown h2 (row_ne h.box h.own (by decide)),h.okx.grown h2 (row_ne h.okx h.own (by decide)),h.okl,grown_row h.far h2 (fun g e=> .inl (own_in h.own g e).1),h.tab0⟩
def BB.smore (b:BB) (base:Int):BB:=(b.ins ⟨1,4,0,0,1⟩).ins ⟨20,4,8,0,base⟩
def BB.sbegin (b:BB) (base:Int):BB:=((((b.at n_spin).ins ⟨1,4,0,0,0⟩).ins ⟨21,4,8,5,base+1⟩).go 15 4 n_spin).smore base
def BB.sreads (b:BB) (base:Int) (k:Nat):BB:=(List.range k).foldl (fun (b:BB) (i:Nat)=>b.ins ⟨16,(i:Int),8,0,base+2+(i:Int)⟩) b
theorem BB.sreads_succ (b:BB) (base:Int) (k:Nat):b.sreads base (k+1)=(b.sreads base k).ins ⟨16,(k:Int),8,0,base+2+(k:Int)⟩:=by
 unfold BB.sreads;rw [List.range_succ,List.foldl_append];rfl
def BB.sread1 (b:BB) (base:Int):BB:=((((b.at n_again).ins ⟨16,4,8,0,base⟩).ins ⟨1,5,0,0,1⟩).ins ⟨6,6,4,5,0⟩).go 15 6 n_again
def BB.sread (b:BB) (base:Int) (n:Nat):BB:=((((b.sread1 base).sreads base n).ins ⟨16,5,8,0,base⟩).ins ⟨12,6,4,5,0⟩).go 14 6 n_again
theorem BB.Room.smore {b:BB} {n:Nat} (h:b.Room (n+2)) (base:Int):(b.smore base).Room n:=BB.Room.ins (BB.Room.ins h _) _
theorem BB.Room.sbegin {b:BB} {n:Nat} (h:b.Room (n+6)) (base:Int):(b.sbegin base).Room n:=BB.Room.smore (BB.Room.go (BB.Room.ins (BB.Room.ins (BB.Room.at (n:=n+5) h _) _) _) _ _ _) _
theorem BB.Room.sread1 {b:BB} {n:Nat} (h:b.Room (n+5)) (base:Int):(b.sread1 base).Room n:=BB.Room.go (BB.Room.ins (BB.Room.ins (BB.Room.ins (BB.Room.at (n:=n+4) h _) _) _) _) _ _ _
theorem BB.Room.sreads {b:BB} {n k:Nat} (h:b.Room (n+k)) (base:Int):(b.sreads base k).Room n:=by
 induction k generalizing n with
 |zero=>exact h
 |succ k ih=>rw [BB.sreads_succ];exact BB.Room.ins (ih (n:=n+1) (h.mono (by omega))) _
theorem BB.Room.sread {b:BB} {n k:Nat} (h:b.Room (n+8+k)) (base:Int):(b.sread base k).Room n:=BB.Room.go (BB.Room.ins (BB.Room.ins (BB.Room.sreads (n:=n+3) (k:=k) (BB.Room.sread1 (n:=n+3+k) (h.mono (by omega)) _) _) _) _) _ _ _
set_option maxHeartbeats 2000000 in
theorem b_smore {N0 bb:Nat} {b:BB} {n:Nat} (base:Int) {W:World} (h:BI N0 W bb b) (hr:b.Room (n+2)) (hb:0<=base/\base<=4294960000):Bls 85 #[.pointer (some ⟨bb,0,none⟩),.int .u32 base] N0 bb b (b.smore base) W:=by
 unfold Bls
 go_enter Tryz.func85,Tryz.ntmps85
 go_wp2_with fail
 refine Bls.step (b_set (n:=n+1) _ _ h hr) ?_
 rintro _ W1 ⟨⟨u0,rfl⟩,h1,b1⟩
 have r1:=BI.rins (n:=n+1) h1 hr
 go_wp2_with fail
 refine Bls.step (b_ask (n:=n+0) _ _ _ h1 r1) ?_
 rintro _ W2 ⟨⟨u1,rfl⟩,h2,b2⟩
 have r2:=BI.rins (n:=n+0) h2 r1
 go_wp2
 go_end0
 exact ⟨⟨_,rfl⟩,h2,b1.trans (b2)⟩
set_option maxHeartbeats 2000000 in
theorem b_sbegin {N0 bb:Nat} {b:BB} {n:Nat} (base:Int) {W:World} (h:BI N0 W bb b) (hr:b.Room (n+6)) (hb:0<=base/\base<=4294960000) (hf:b.places.lookup n_spin=none):Bls 83 #[.pointer (some ⟨bb,0,none⟩),.int .u32 base] N0 bb b (b.sbegin base) W:=by
 unfold Bls
 go_enter Tryz.func83,Tryz.ntmps83
 go_wp2_with fail
 try rw [str_spin]
 refine Bls.step (b_at (n:=n+5) n_spin nm_spin h hr hf) ?_
 rintro _ W1 ⟨⟨u0,rfl⟩,h1,b1⟩
 have r1:=BI.rat (n:=n+5) h1 hr
 go_wp2_with fail
 refine Bls.step (b_set (n:=n+4) _ _ h1 r1) ?_
 rintro _ W2 ⟨⟨u1,rfl⟩,h2,b2⟩
 have r2:=BI.rins (n:=n+4) h2 r1
 go_wp2_with fail
 refine Bls.step (b_cas (n:=n+3) _ _ _ h2 r2) ?_
 rintro _ W3 ⟨⟨u2,rfl⟩,h3,b3⟩
 have r3:=BI.rins (n:=n+3) h3 r2
 go_wp2_with fail
 try rw [str_spin]
 refine Bls.step (b_go (n:=n+2) _ _ n_spin h3 r3) ?_
 rintro _ W4 ⟨⟨u3,rfl⟩,h4,b4⟩
 have r4:=BI.rgo (n:=n+2) h4 r3
 go_wp2_with fail
 refine Bls.step (b_smore (n:=n+0) _ h4 r4 hb) ?_
 rintro _ W5 ⟨⟨u4,rfl⟩,h5,b5⟩
 have r5:=BB.Room.smore r4 base
 go_wp2
 go_end0
 exact ⟨⟨_,rfl⟩,h5,b1.trans (b2.trans (b3.trans (b4.trans (b5))))⟩
set_option maxHeartbeats 2000000 in
theorem b_sread {N0 bb:Nat} {b:BB} {n k:Nat} (base:Int) {W:World} (h:BI N0 W bb b) (hr:b.Room (n+8+k)) (hb:0<=base/\base<=4294960000) (hk:k<=100) (hf:b.places.lookup n_again=none):Bls 88 #[.pointer (some ⟨bb,0,none⟩),.int .u32 base,.int .i64 (k:Int)] N0 bb b (b.sread base k) W:=by
 unfold Bls
 go_enter Tryz.func88,Tryz.ntmps88
 go_wp2_with fail
 try rw [str_again]
 refine Bls.step (b_at (n:=n+3+k+4) n_again nm_again h (hr.mono (show n+3+k+5<=n+8+k by omega)) hf) ?_
 rintro _ W1 ⟨⟨u0,rfl⟩,h1,b1⟩
 have r1:=BI.rat (n:=n+3+k+4) h1 (hr.mono (show n+3+k+5<=n+8+k by omega))
 go_wp2_with fail
 refine Bls.step (b_ask (n:=n+3+k+3) _ _ _ h1 r1) ?_
 rintro _ W2 ⟨⟨u1,rfl⟩,h2,b2⟩
 have r2:=BI.rins (n:=n+3+k+3) h2 r1
 go_wp2_with fail
 refine Bls.step (b_set (n:=n+3+k+2) _ _ h2 r2) ?_
 rintro _ W3 ⟨⟨u2,rfl⟩,h3,b3⟩
 have r3:=BI.rins (n:=n+3+k+2) h3 r2
 go_wp2_with fail
 refine Bls.step (b_alu (n:=n+3+k+1) _ _ _ _ h3 r3) ?_
 rintro _ W4 ⟨⟨u3,rfl⟩,h4,b4⟩
 have r4:=BI.rins (n:=n+3+k+1) h4 r3
 go_wp2_with fail
 try rw [str_again]
 refine Bls.step (b_go (n:=n+3+k+0) _ _ n_again h4 r4) ?_
 rintro _ W5 ⟨⟨u4,rfl⟩,h5,b5⟩
 have r5:=BI.rgo (n:=n+3+k+0) h5 r4
 have hb5:=b1.trans (b2.trans (b3.trans (b4.trans b5)))
 have H5:=Lib.hid (And.intro h5 (And.intro r5 hb5))
 clear h h1 h2 h3 h4 h5 b1 b2 b3 b4 b5 r1 r2 r3 r4 r5 hb5
 go_wp2
 go_loopw [20] (fun v wr=> ∃j:Nat,j<=k/\v= .int .i64 j/\BI N0 wr bb ((b.sread1 base).sreads base j)/\BelF N0 W wr) (fun v _=>k-(intOf v).toNat)
 case atStart=>exact ⟨0,Nat.zero_le _,rfl,H5.out.1,H5.out.2.2⟩
 case round=>
  obtain ⟨j,hj,rfl,hI,hB⟩:=hrel
  have rj:((b.sread1 base).sreads base j).Room (n+3+(k-j)):=BB.Room.sreads (n:=n+3+(k-j)) (k:=j) (show (b.sread1 base).Room _ from (H5.out.2.1:(b.sread1 base).Room (n+3+k+0)).mono (by omega)) base
  by_cases hlt:j<k
  ·have hjk:(j:Int)<(k:Int):=by omega
   have hj100:(j:Int)<=100:=by omega
   go_wp2_with fail
   refine Bls.step (b_ask (n:=n+3+(k-j)-1) _ _ _ hI (rj.mono (by omega))) ?_
   rintro _ W7 ⟨⟨u7,rfl⟩,h7,b7⟩
   go_wp2
   go_roundw
   case rel=>
    refine ⟨j+1,by omega,by go_num,?_,hB.trans b7⟩
    rw [BB.sreads_succ]
    exact h7
   case measure=>simp [intOf];omega
  ·obtain rfl:j=k:=by omega
   have r6:((b.sread1 base).sreads base j).Room (n+3):=rj.mono (by omega)
   clear hlt rj
   go_wp2_with fail
   refine Bls.step (b_ask (n:=n+2) _ _ _ hI r6) ?_
   rintro _ W7 ⟨⟨u7,rfl⟩,h7,b7⟩
   have r7:=BI.rins (n:=n+2) h7 r6
   go_wp2_with fail
   refine Bls.step (b_alu (n:=n+1) _ _ _ _ h7 r7) ?_
   rintro _ W8 ⟨⟨u8,rfl⟩,h8,b8⟩
   have r8:=BI.rins (n:=n+1) h8 r7
   go_wp2_with fail
   try rw [str_again]
   refine Bls.step (b_go (n:=n) _ _ n_again h8 r8) ?_
   rintro _ W9 ⟨⟨u9,rfl⟩,h9,b9⟩
   go_wp2
   go_end0
   exact ⟨⟨_,rfl⟩,h9,hB.trans (b7.trans (b8.trans b9))⟩
def onL:List ByteArray:=[⟨#[]⟩,⟨#[116,97,115]⟩,⟨#[116,116,97,115]⟩,⟨#[116,105,99,107,101,116]⟩,⟨#[109,99,115]⟩,⟨#[99,108,104]⟩,⟨#[112,101,116,101,114,115,111,110]⟩,⟨#[100,101,107,107,101,114]⟩,⟨#[98,105,97,115]⟩,⟨#[115,101,113]⟩,⟨#[109,117,116,101,120]⟩,⟨#[115,101,109]⟩,⟨#[99,111,110,100]⟩,⟨#[98,97,114,114,105,101,114]⟩,⟨#[114,119]⟩,⟨#[111,110,99,101]⟩]
def onS (i:Nat):ByteArray:=onL.getD i ⟨#[]⟩
def ONam (W:World):Prop:=3<=W.heap.size/\ ∀i,i<16->W.cell? ⟨2,i,none⟩=some (.string (onS i))
def objA (k n a b:Int):Value:= .agg #[.int .i64 k,.int .i64 n,.int .i64 a,.int .i64 b]
theorem in_any (n lo hi:Int) (b:Bool) (hb:decide (lo<=n/\n<=hi)=b) (W:World):Calls Tryz.prog 136 #[.int .i64 n,.int .i64 lo,.int .i64 hi] W fun e W'=>e= .returned (.bool b)/\W'=W:=by
 subst hb
 by_cases h1:lo<=n
 ·by_cases h2:n<=hi
  ·rw [decide_eq_true ⟨h1,h2⟩]
   go_enter Tryz.func136,Tryz.ntmps136
   go_wp2
   go_ret
   exact ⟨rfl,rfl⟩
  ·rw [decide_eq_false (fun h=>h2 h.2)]
   go_enter Tryz.func136,Tryz.ntmps136
   go_wp2
   go_ret
   exact ⟨rfl,rfl⟩
 ·rw [decide_eq_false (fun h=>h1 h.1)]
  go_enter Tryz.func136,Tryz.ntmps136
  go_wp2
  go_ret
  exact ⟨rfl,rfl⟩
set_option maxHeartbeats 2000000 in
theorem right_seq (n threads:Int) (hn:1<=n/\n<=3) (ht:1<=threads/\threads<=8) (W:World):Calls Tryz.prog 91 #[objA 9 n 0 0,.int .i64 threads] W fun e W'=>e= .returned (.bool true)/\Below W.heap.size W W':=by
 have hq:=Blk.new W 46 #[.int .i64 9,.int .i64 n,.int .i64 0,.int .i64 0]
 have hB:=(Below.refl W.heap.size W).alloc (Nat.le_refl _) (.cells #[.int .i64 9,.int .i64 n,.int .i64 0,.int .i64 0] 46)
 have q0:=(hq.cell 0).trans rfl
 have q1:=(hq.cell 1).trans rfl
 have q2:=(hq.cell 2).trans rfl
 have q3:=(hq.cell 3).trans rfl
 unfold objA
 go_enter Tryz.func91,Tryz.ntmps91
 go_wp2_with fail
 refine (in_any n 1 3 true (decide_eq_true hn) _).mono ?_
 rintro e W1 ⟨rfl,rfl⟩
 go_wp2
 go_ret
 exact ⟨rfl,hB⟩
set_option maxHeartbeats 1000000 in
theorem calls_seq (W:World):Calls Tryz.prog 92 #[.int .i64 9] W fun e W'=> ∃g,e= .returned (.slice (some ⟨g,0,none⟩) 4 4)/\Blk W' g 3 #[.int .i64 1,.int .i64 2,.int .i64 3,.int .i64 4]/\Below W.heap.size W W':=by
 have hB:=(Below.refl W.heap.size W).alloc (Nat.le_refl _) (.cells #[.int .i64 1,.int .i64 2,.int .i64 3,.int .i64 4] 3)
 go_enter Tryz.func92,Tryz.ntmps92
 go_wp2
 go_ret
 exact ⟨_,rfl,Blk.new _ _ _,hB⟩
def mayB (rb:Bool) (cl:List Int) (call threads t:Int):Bool:=decide (0<=t/\t<threads)&&(rb&&cl.contains call)
set_option maxHeartbeats 2000000 in
theorem may_any (k n a b:Int) (rb:Bool) (cl:List Int) (hcl:cl.length<=100) (call threads t:Int) (W:World) (P:World->Prop) (hP: ∀W1 W2,P W1->Below W1.heap.size W1 W2->P W2) (h0:P W)
 (hR: ∀W1,P W1->Calls Tryz.prog 91 #[objA k n a b,.int .i64 threads] W1 fun e W'=>e= .returned (.bool rb)/\Below W1.heap.size W1 W')
 (hC: ∀W1,P W1->Calls Tryz.prog 92 #[.int .i64 k] W1 fun e W'=> ∃g,e= .returned (.slice (some ⟨g,0,none⟩) cl.length cl.length)/\Blk W' g 3 (cl.map (Value.int .i64)).toArray/\Below W1.heap.size W1 W'):
 Calls Tryz.prog 52 #[objA k n a b,.int .i64 call,.int .i64 threads,.int .i64 t] W fun e W'=>e= .returned (.bool (mayB rb cl call threads t))/\Below W.heap.size W W':=by
 have hq:=Blk.new W 46 #[.int .i64 k,.int .i64 n,.int .i64 a,.int .i64 b]
 have hB:=(Below.refl W.heap.size W).alloc (Nat.le_refl _) (.cells #[.int .i64 k,.int .i64 n,.int .i64 a,.int .i64 b] 46)
 have q0:=(hq.cell 0).trans rfl
 have q1:=(hq.cell 1).trans rfl
 have q2:=(hq.cell 2).trans rfl
 have q3:=(hq.cell 3).trans rfl
 unfold objA at*
 have HP:=Lib.hid hP
 have HW:=Lib.hid (hP _ _ h0 hB)
 have HR:=Lib.hid hR
 have HC:=Lib.hid hC
 clear hR hC hP h0
 by_cases h1:t<0
 ·rw [show mayB rb cl call threads t=false from by unfold mayB;rw [decide_eq_false (by omega)];rfl]
  go_enter Tryz.func52,Tryz.ntmps52
  go_wp2
  go_ret
  exact ⟨rfl,hB⟩
 by_cases h2:threads<=t
 ·rw [show mayB rb cl call threads t=false from by unfold mayB;rw [decide_eq_false (by omega)];rfl]
  go_enter Tryz.func52,Tryz.ntmps52
  go_wp2
  go_ret
  exact ⟨rfl,hB⟩
 rw [show mayB rb cl call threads t=(rb&&cl.contains call) from by unfold mayB;rw [decide_eq_true (by omega)];rfl]
 go_enter Tryz.func52,Tryz.ntmps52
 go_wp2_with fail
 refine (HR.out _ HW.out).mono ?_
 rintro e W1 ⟨rfl,hB1⟩
 have hq1:=hq.below hB1 hq.lt
 have hB2:=step_below hB hB1
 have HW1:=Lib.hid (HP.out _ _ HW.out hB1)
 clear q0 q1 q2 q3 hB hB1 hq
 cases rb with
 |false=>
  go_wp2
  go_ret
  exact ⟨rfl,hB2⟩
 |true=>
  have q0:=(hq1.cell 0).trans rfl
  go_wp2_with fail
  refine (HC.out _ HW1.out).mono ?_
  rintro e W2 ⟨g,rfl,hg,hB3⟩
  have hB4:=step_below hB2 hB3
  obtain ⟨m,hm⟩: ∃m,cl.length=m:=⟨_,rfl⟩
  rw [hm]
  rw [hm]at hcl
  clear hB2 hB3 HW1 hq1 q0 HC HR HP HW
  have HG:=Lib.hid hg
  clear hg
  go_wp2
  go_loopw [28] (fun v wr=> ∃j:Nat,j<=m/\v= .int .i64 j/\wr=W2/\ ∀i,i<j->cl[i]?≠some call) (fun v _=>m-(intOf v).toNat)
  case atStart=>exact ⟨0,Nat.zero_le _,rfl,rfl,fun i hi=>absurd hi (by omega)⟩
  case round=>
   obtain ⟨j,hj,rfl,rfl,hno⟩:=hrel
   by_cases hlt:j<m
   ·have hx:cl[j]?=some (cl[j]'(by omega)):=List.getElem?_eq_getElem (by omega)
    generalize cl[j]'(by omega)=x at hx
    have c0:wr.cell? ⟨g,j,none⟩=some (.int .i64 x):=(HG.out.cell j).trans (by simp [hx])
    have hjm:(j:Int)<(m:Int):=by omega
    by_cases hxc:x=call
    ·subst hxc
     have :cl.contains x=true:=by
      rw [List.contains_iff_mem]
      exact List.mem_of_getElem? hx
     have HT:=Lib.hid this
     clear hno hx this
     go_wp2
     go_ret
     exact ⟨by rw [HT.out];rfl,hB4⟩
    ·have HN:=Lib.hid (And.intro hno hx)
     clear hno hx
     go_wp2
     go_roundw
     case rel=>
      refine ⟨j+1,by omega,by go_num,by trivial,fun i hi=>?_⟩
      by_cases hij:i=j
      ·subst hij;rw [HN.out.2];intro e;exact hxc (Option.some.inj e)
      ·exact HN.out.1 i (by omega)
     case measure=>simp [intOf];omega
   ·obtain rfl:j=m:=by omega
    have :cl.contains call=false:=by
     rw [Bool.eq_false_iff]
     intro e
     rw [List.contains_iff_mem]at e
     obtain ⟨i,hi,e⟩:=List.mem_iff_getElem.1 e
     exact hno i (by omega) (by rw [List.getElem?_eq_getElem hi,e])
    have HT:=Lib.hid this
    clear hno this
    go_wp2
    go_ret
    exact ⟨by rw [HT.out];rfl,hB4⟩
end Go.Proofs.YtmhfpjnkjlhbpaaGreatDoor
