/- asm.Builder: what holds of one in memory. asm.Builder: Do, Go (printed by gen/bld.py). asm.Name at a name of letters. asm.Builder: At (printed by gen/bld.py). -/
import Derived.Test.YtmhfpjnkjlhbpaaGreatDoorQd07
import Derived.Maps.Own
import Derived.Maps.OwnSet
import Derived.Maps.OwnOps
import Derived.WalkSpells
import Derived.Laws.RangeString
import Derived.Deep.LoopGhost
import Derived.Lib.Strings
namespace Go.Proofs.YtmhfpjnkjlhbpaaGreatDoor
open Go.ChangeShapes Go.WideShapes Go.ChangeAt Go.RowKit Go.Deep
set_option linter.unusedVariables false
set_option maxRecDepth 100000
set_option linter.unusedSimpArgs false
open List renaming getElem_toArray->zA,getElem_cons_zero->zB,getElem_cons_succ->zC,setIfInBounds_toArray->zD,set_cons_zero->zE,set_cons_succ->zF
theorem below_drewB (W:World):Below W.heap.size W W.drew:=⟨rfl,rfl,rfl,Nat.le_refl _,fun _ _=>rfl⟩
theorem insB_info5:(Tryz.prog.info? 75).map (fun i=>(i.zero,i.size,i.bytes))=some (some (.agg #[.int .i64 0,.int .i64 0,.int .i64 0,.int .i64 0,.int .u32 0]),5,40):=by kernel_rfl
structure BB where
 code:List Ins
 links:List (Nat×List UInt8)
 places:List (List UInt8×Nat)
def str (s:List UInt8):Value:= .string ⟨s.toArray⟩
def lkc (x:Nat×List UInt8):List Value:=[.int .i64 (x.1:Int),str x.2]
theorem key_law:Maps.Keyed Tryz.prog 9:=Maps.string_keyed Tryz.underlying9
theorem key_str {s:List UInt8} (h:s.length<=maxLen):keyOf Tryz.prog 9 (str s)=some (.string s):=by
 have :=Go.WideMaps.keyOf_string_mk (P:=Tryz.prog) (k:=9) Tryz.underlying9 (s:=⟨s.toArray⟩) (show s.toArray.size<=maxLen from by simpa using h)
 simpa [str]using this
def PlI (N0:Nat) (W:World):Option Nat->List (List UInt8×Nat)->Prop
 |none,D=>D=[]
 |some mb,D=>N0<=mb/\ ∃DW:DataW Unit,W.ownsMap Tryz.prog 9 (plainElem Tryz.prog 3) mb D.length DW/\(∀s,Maps.has DW (.string s)=(D.lookup s).isSome)/\ ∀s v,D.lookup s=some v-> ∀z,DW.atKey (.string s) z= .lit (.int .i64 (v:Int))
theorem map_same {w w':World} {b n:Nat} {k:TypeId} {R:Value->Option (DataW Unit×List MemPlace)} {D:DataW Unit} (h:w.ownsMap Tryz.prog k R b n D) (hk:w'.heap[b]?=w.heap[b]?):w'.ownsMap Tryz.prog k R b n D:=by
 obtain ⟨es,clock,hb,q⟩:=h
 exact ⟨es,clock,hk.trans hb,q⟩
theorem PlI.same {N0:Nat} {W W':World} {mo:Option Nat} {D:List (List UInt8×Nat)} (h:PlI N0 W mo D) (hk: ∀mb,mo=some mb->W'.heap[mb]?=W.heap[mb]?):PlI N0 W' mo D:=by
 cases mo with
 |none=>exact h
 |some mb=>obtain ⟨h1,DW,h2,h3⟩:=h;exact ⟨h1,DW,map_same h2 (hk mb rfl),h3⟩
theorem PlI.made (N0:Nat) (W:World) (hN:N0<=W.heap.size):PlI N0 (W.alloc (.map #[] 0)) (some W.heap.size) []:=
 ⟨hN,.map [],World.ownsMap_made W _ _ _,fun s=>rfl,fun s v e=>by cases e⟩
theorem PlI.put {N0:Nat} {W':World} {mb:Nat} {D:List (List UInt8×Nat)} {DW:DataW Unit} (h1:N0<=mb) (hm:Maps.IsMap DW) (h2: ∀s,Maps.has DW (.string s)=(D.lookup s).isSome) (h3: ∀s v,D.lookup s=some v-> ∀z,DW.atKey (.string s) z= .lit (.int .i64 (v:Int)))
 (s:List UInt8) (v:Nat) (h:W'.ownsMap Tryz.prog 9 (plainElem Tryz.prog 3) mb (D.length+1) (DW.put (.string s) (.lit (.int .i64 (v:Int))))):PlI N0 W' (some mb) ((s,v)::D):=by
 refine ⟨h1,_,h,fun x=>?_,fun x u hx z=>?_⟩
 ·by_cases e:x=s
  ·subst e
   rw [Maps.has_put_same hm (show WideAt.IsKeyLit (.string x) from trivial)];simp [List.lookup]
  ·rw [Maps.has_put_other (fun q=>e (by injection q)),h2]
   rw [List.lookup_cons,show (x==s)=false from by simpa using e]
 ·by_cases e:x=s
  ·subst e
   rw [Maps.atKey_put_same hm (show WideAt.IsKeyLit (.string x) from trivial)]
   simp [List.lookup]at hx
   rw [hx]
  ·rw [Maps.atKey_put_other (fun q=>e (by injection q))]
   rw [List.lookup_cons,show (x==s)=false from by simpa using e]at hx
   exact h3 x u hx z
structure BelF (N:Nat) (W W':World):Prop where
 b:Below N W W'
 f: ∀(g:Nat) (t:TypeId) (cs:Array Value),t≠130->t≠75->t≠184->Blk W g t cs->Blk W' g t cs
theorem BelF.refl (N:Nat) (W:World):BelF N W W:=⟨Below.refl N W,fun _ _ _ _ _ _ h=>h⟩
theorem BelF.trans {N:Nat} {A B C:World} (h:BelF N A B) (k:BelF N B C):BelF N A C:=⟨h.b.trans k.b,fun g t cs h1 h2 h3 h4=>k.f g t cs h1 h2 h3 (h.f g t cs h1 h2 h3 h4)⟩
theorem BelF.of {N:Nat} {A B:World} (h:Below A.heap.size A B) (hN:N<=A.heap.size):BelF N A B:=⟨h.mono hN,fun _ _ _ _ _ _ k=>k.below h k.lt⟩
theorem BelF.size {N:Nat} {A B:World} (h:BelF N A B):A.heap.size<=B.heap.size:=h.b.size
structure BParts (N0:Nat) (W:World) (bb:Nat) (b:BB) (vc vl:Value) (mo:Option Nat):Prop where
 blk:Blk W bb 130 #[vc,.map mo,vl,.bool false]
 ge:N0<=bb
 code:W.ownsRow N0 75 5 vc b.code.length (b.code.flatMap Ins.cells)
 links:W.ownsRow N0 184 2 vl b.links.length (b.links.flatMap lkc)
 places:PlI N0 W mo b.places
def BI (N0:Nat) (W:World) (bb:Nat) (b:BB):Prop:= ∃vc vl mo,BParts N0 W bb b vc vl mo
theorem own_same {w w':World} {base:Nat} {e:TypeId} {size n:Nat} {v:Value} {xs:List Value} (h:w.ownsRow base e size v n xs) (hk: ∀g,v.ownBlock=some g->w'.heap[g]?=w.heap[g]?):w'.ownsRow base e size v n xs:=by
 refine ⟨h.1,?_⟩
 rcases h.2 with hn|⟨g,cap,cur,rfl,hb,hgg,rest⟩
 ·exact .inl hn
 ·exact .inr ⟨g,cap,cur,rfl,hb,(hk g rfl).trans hgg,rest⟩
theorem rows_ne {W:World} {n1 n2 s1 s2 k1 k2:Nat} {e1 e2:TypeId} {v1 v2:Value} {x1 x2:List Value} (h1:W.ownsRow n1 e1 s1 v1 k1 x1) (h2:W.ownsRow n2 e2 s2 v2 k2 x2) (hne:e1≠e2) {g:Nat} (hg:v1.ownBlock=some g):some g≠v2.ownBlock:=fun q=>by
 rcases h1.2 with ⟨rfl,_⟩|⟨g1,c1,u1,rfl,_,hh,_⟩
 ·cases hg
 ·obtain rfl:=Option.some.inj hg
  exact row_ne (show Blk W g1 e1 u1 from hh) h2 hne q
theorem map_ne {W:World} {mb n n2 s2 k2:Nat} {k:TypeId} {R:Value->Option (DataW Unit×List MemPlace)} {D:DataW Unit} {e2:TypeId} {v2:Value} {x2:List Value} (h:W.ownsMap Tryz.prog k R mb n D) (h2:W.ownsRow n2 e2 s2 v2 k2 x2):some mb≠v2.ownBlock:=fun q=>by
 obtain ⟨es,clock,hb,_⟩:=h
 rcases h2.2 with ⟨rfl,_⟩|⟨g1,c1,u1,rfl,_,hh,_⟩
 ·cases q
 ·obtain rfl:=Option.some.inj q
  rw [hb]at hh;cases hh
theorem map_blk {W:World} {mb n g:Nat} {k t:TypeId} {cs:Array Value} {R:Value->Option (DataW Unit×List MemPlace)} {D:DataW Unit} (h:W.ownsMap Tryz.prog k R mb n D) (hB:Blk W g t cs):mb≠g:=fun q=>by
 obtain ⟨es,clock,hb,_⟩:=h
 subst q
 have :=hb.symm.trans hB
 cases this
theorem heap_set_far (w:World) (p:Addr) (u:Value) {g:Nat} (h:g≠p.block):(w.setCell p u).heap[g]?=w.heap[g]?:=Below.heap_setCell w p u g h
theorem below_of_grown {w w':World} {row:Option Nat} {N:Nat} (hN:N<=w.heap.size) (h:w.grownBy w' row) (hr: ∀g,row=some g->N<=g):Below N w w':=
 ⟨h.os,h.tape,h.output,h.size,fun k hk=>h.block k (Nat.lt_of_lt_of_le hk hN) (fun e=>by have :=hr k e.symm;omega)⟩
section
variable {N0 bb:Nat} {W W':World} {b:BB} {vc vl:Value} {mo:Option Nat}
theorem BParts.lt (h:BParts N0 W bb b vc vl mo):N0<=W.heap.size:=Nat.le_of_lt (Nat.lt_of_le_of_lt h.ge h.blk.lt)
theorem BParts.mapNe (h:BParts N0 W bb b vc vl mo) {mb:Nat} (e:mo=some mb):mb≠bb/\some mb≠vc.ownBlock/\some mb≠vl.ownBlock/\mb<W.heap.size/\N0<=mb:=by
 subst e
 obtain ⟨h1,DW,h2,_⟩:=h.places
 exact ⟨map_blk h2 h.blk,map_ne h2 h.code,map_ne h2 h.links,h2.lt,h1⟩
theorem BParts.below (h:BParts N0 W bb b vc vl mo) (hb:Below W.heap.size W W'):BParts N0 W' bb b vc vl mo:=
 ⟨h.blk.below hb h.blk.lt,h.ge,own_below h.code (Nat.le_refl _) hb,own_below h.links (Nat.le_refl _) hb,h.places.same fun mb e=>hb.block mb (h.mapNe e).2.2.2.1⟩
theorem BI.below (h:BI N0 W bb b) (hb:Below W.heap.size W W'):BI N0 W' bb b:=let ⟨vc,vl,mo,k⟩:=h;⟨vc,vl,mo,k.below hb⟩
theorem BParts.addCode (h:BParts N0 W bb b vc vl mo) {v':Value} {x:Ins} (hg:W.grownBy W' vc.ownBlock) (hr:W'.ownsRow N0 75 5 v' (b.code.length+1) (b.code.flatMap Ins.cells++x.cells)):
 BI N0 (W'.setCell ⟨bb,0,none⟩ v') bb {b with code:=b.code++[x]}/\BelF N0 W (W'.setCell ⟨bb,0,none⟩ v'):=by
 have hB:=h.blk.grown hg (row_ne h.blk h.code (by decide))
 have hne:=row_ne hB hr (by decide)
 have hl:=h.links.kept hg (by
  cases hq:vl.ownBlock with
  |none=>exact .inl rfl
  |some g=>exact .inr fun e=>rows_ne h.links h.code (by decide) hq e)
 have hne2:=row_ne hB hl (by decide)
 refine ⟨⟨v',vl,mo,⟨hB.set_ 0 v',h.ge,?_,?_,?_⟩⟩,?_⟩
 ·rw [List.length_append,List.flatMap_append]
  refine own_same (by simpa using hr) fun g e=>heap_set_far _ _ _ fun q=>hne (by rw [e,q])
 ·exact own_same hl fun g e=>heap_set_far _ _ _ fun q=>hne2 (by rw [e,q])
 ·refine h.places.same fun mb e=>?_
  obtain ⟨m1,m2,m3,m4,m5⟩:=h.mapNe e
  exact (heap_set_far _ _ _ m1).trans (hg.block mb m4 m2)
 ·have h1:=below_of_grown h.lt hg fun g e=>(own_in h.code g e).1
  refine ⟨h1.trans ⟨rfl,rfl,rfl,by simp,fun k hk=>heap_set_far _ _ _ fun q=>by have :=h.ge;simp at q;omega⟩,fun g t cs t1 t2 t3 hk=>?_⟩
  exact (hk.grown hg (row_ne hk h.code t2)).far (Blk.ne hk h.blk t1) _
theorem BParts.addLink (h:BParts N0 W bb b vc vl mo) {v':Value} {x:Nat×List UInt8} (hg:W.grownBy W' vl.ownBlock) (hr:W'.ownsRow N0 184 2 v' (b.links.length+1) (b.links.flatMap lkc++lkc x)):
 BI N0 (W'.setCell ⟨bb,2,none⟩ v') bb {b with links:=b.links++[x]}/\BelF N0 W (W'.setCell ⟨bb,2,none⟩ v'):=by
 have hB:=h.blk.grown hg (row_ne h.blk h.links (by decide))
 have hne:=row_ne hB hr (by decide)
 have hl:=h.code.kept hg (by
  cases hq:vc.ownBlock with
  |none=>exact .inl rfl
  |some g=>exact .inr fun e=>rows_ne h.code h.links (by decide) hq e)
 have hne2:=row_ne hB hl (by decide)
 refine ⟨⟨vc,v',mo,⟨hB.set_ 2 v',h.ge,?_,?_,?_⟩⟩,?_⟩
 ·exact own_same hl fun g e=>heap_set_far _ _ _ fun q=>hne2 (by rw [e,q])
 ·rw [List.length_append,List.flatMap_append]
  refine own_same (by simpa using hr) fun g e=>heap_set_far _ _ _ fun q=>hne (by rw [e,q])
 ·refine h.places.same fun mb e=>?_
  obtain ⟨m1,m2,m3,m4,m5⟩:=h.mapNe e
  exact (heap_set_far _ _ _ m1).trans (hg.block mb m4 m3)
 ·have h1:=below_of_grown h.lt hg fun g e=>(own_in h.links g e).1
  refine ⟨h1.trans ⟨rfl,rfl,rfl,by simp,fun k hk=>heap_set_far _ _ _ fun q=>by have :=h.ge;simp at q;omega⟩,fun g t cs t1 t2 t3 hk=>?_⟩
  exact (hk.grown hg (row_ne hk h.links t3)).far (Blk.ne hk h.blk t1) _
theorem BParts.addMap (h:BParts N0 W bb b vc vl none):
 BParts N0 ((W.alloc (.map #[] 0)).setCell ⟨bb,1,none⟩ (.map (some W.heap.size))) bb b vc vl (some W.heap.size)/\BelF N0 W ((W.alloc (.map #[] 0)).setCell ⟨bb,1,none⟩ (.map (some W.heap.size))):=by
 have hB:=h.blk.alloc (.map #[] 0)
 have hc:=h.code.alloc (.map #[] 0)
 have hl:=h.links.alloc (.map #[] 0)
 have n1:=row_ne hB hc (by decide)
 have n2:=row_ne hB hl (by decide)
 have hlt:=h.blk.lt
 refine ⟨⟨hB.set_ 1 _,h.ge,?_,?_,?_⟩,?_⟩
 ·exact own_same hc fun g e=>heap_set_far _ _ _ fun q=>n1 (by rw [e,q])
 ·exact own_same hl fun g e=>heap_set_far _ _ _ fun q=>n2 (by rw [e,q])
 ·have hp:b.places=[]:=h.places
  rw [hp]
  exact (PlI.made N0 W h.lt).same fun mb e=>heap_set_far _ _ _ fun q=>by injection e with e;simp at q;omega
 ·refine ⟨((Below.refl N0 W).alloc h.lt _).trans ⟨rfl,rfl,rfl,by simp,fun k hk=>heap_set_far _ _ _ fun q=>by have :=h.ge;simp at q;omega⟩,fun g t cs t1 t2 t3 hk=>?_⟩
  exact (hk.alloc _).far (Blk.ne hk h.blk t1) _
theorem BParts.addPlace {mb:Nat} (h:BParts N0 W bb b vc vl (some mb)) (hg:W.grownBy W' (some mb)) {ps:List (List UInt8×Nat)} (hp:PlI N0 W' (some mb) ps):
 BI N0 W' bb {b with places:=ps}/\BelF N0 W W':=by
 obtain ⟨m1,m2,m3,m4,m5⟩:=h.mapNe rfl
 refine ⟨⟨vc,vl,some mb,⟨h.blk.grown hg (by simpa using fun e=>m1 e.symm),h.ge,?_,?_,hp⟩⟩,⟨below_of_grown h.lt hg fun g e=>by injection e with e;omega,fun g t cs t1 t2 t3 hk=>hk.grown hg (by obtain ⟨_,DW,hq,_⟩:=h.places;intro e;injection e with e;exact map_blk hq hk e.symm)⟩⟩
 ·exact h.code.kept hg (by cases hq:vc.ownBlock with|none=>exact .inl rfl|some g=>exact .inr fun e=>m2 (by rw [hq,e]))
 ·exact h.links.kept hg (by cases hq:vl.ownBlock with|none=>exact .inl rfl|some g=>exact .inr fun e=>m3 (by rw [hq,e]))
end
theorem link_info5:(Tryz.prog.info? 184).map (fun i=>(i.zero,i.size,i.bytes))=some (some (.agg #[.int .i64 0,.string ⟨#[]⟩]),2,24):=by kernel_rfl
theorem ins_infoB:(Tryz.prog.info? 75).map (·.size)=some 5:=by kernel_rfl
theorem lkc_one (x:Nat×List UInt8): ∀k,k<1*2->((lkc x).getD k undef).oneCell'=true:=fun k hk=>by
 rcases (by omega:k=0∨k=1)with rfl|rfl<;>rfl
theorem insc_one (x:Ins): ∀k,k<1*5->(x.cells.getD k undef).oneCell'=true:=fun k hk=>by
 rcases (by omega:k=0∨k=1∨k=2∨k=3∨k=4)with rfl|rfl|rfl|rfl|rfl<;>rfl
set_option maxHeartbeats 2000000 in
theorem bdo_any (N0 bb:Nat) (b:BB) (x:Ins) (W:World) (h:BI N0 W bb b) (hn:b.code.length<=1000):
 Calls Tryz.prog 102 #[.pointer (some ⟨bb,0,none⟩),.agg #[.int .i64 x.op,.int .i64 x.a,.int .i64 x.b,.int .i64 x.c,.int .u32 x.k]] W fun e W'=>(∃u,e= .returned u)/\BI N0 W' bb {b with code:=b.code++[x]}/\BelF N0 W W':=by
 obtain ⟨vc,vl,mo,hP⟩:=h
 obtain ⟨i0,hi,hy0,hy1,hy2⟩:=info_parts insB_info5
 have hal:=(Below.refl W.heap.size W).alloc (Nat.le_refl _) (.cells #[.int .i64 x.op,.int .i64 x.a,.int .i64 x.b,.int .i64 x.c,.int .u32 x.k] 75)
 have hP2:=hP.below hal
 obtain ⟨A,cap,ec,hcc,hcm⟩:=own_cap hP.code
 obtain ⟨n,hn0⟩: ∃n,b.code.length=n:=⟨_,rfl⟩
 rw [hn0]at ec
 subst ec
 have hX:=Blk.new W 75 #[.int .i64 x.op,.int .i64 x.a,.int .i64 x.b,.int .i64 x.c,.int .u32 x.k]
 have hXn:some W.heap.size≠(Value.slice A n cap).ownBlock:=fun e=>by have :=(own_in hP.code _ e.symm).2;omega
 have hBn:=row_ne hP2.blk hP2.code (by decide)
 have HX:=Lib.hid (And.intro hX.drew hXn)
 have HB:=Lib.hid (And.intro hP2.blk.drew hBn)
 have HE0:=Lib.hid (fun (W':World) (v':Value) (k1:(W.alloc (.cells #[.int .i64 x.op,.int .i64 x.a,.int .i64 x.b,.int .i64 x.c,.int .u32 x.k] 75)).drew.grownBy W' (Value.slice A n cap).ownBlock) (k2:W'.ownsRow N0 75 5 v' (n+1) (b.code.flatMap Ins.cells++x.cells))=>
  (show BI N0 (W'.setCell ⟨bb,0,none⟩ v') bb {b with code:=b.code++[x]}/\BelF N0 W (W'.setCell ⟨bb,0,none⟩ v') from by
    have hD:BParts N0 (W.alloc (.cells #[.int .i64 x.op,.int .i64 x.a,.int .i64 x.b,.int .i64 x.c,.int .u32 x.k] 75)).drew bb b _ vl mo:=hP2.below (below_drewB _)
    obtain ⟨q1,q2⟩:=hD.addCode (x:=x) k1 (by rw [hn0];exact k2)
    exact ⟨q1,((BelF.of hal hP.lt).trans (BelF.of (below_drewB _) (Nat.le_trans hP.lt hal.size))).trans q2⟩))
 have HR:=Lib.hid (And.intro (show (W.alloc (.cells #[.int .i64 x.op,.int .i64 x.a,.int .i64 x.b,.int .i64 x.c,.int .u32 x.k] 75)).drew.ownsRow N0 75 5 (.slice A n cap) n (b.code.flatMap Ins.cells) from by have hc:=hP2.code;rw [hn0]at hc;exact hc) (show N0<=(W.alloc (.cells #[.int .i64 x.op,.int .i64 x.a,.int .i64 x.b,.int .i64 x.c,.int .u32 x.k] 75)).drew.heap.size from Nat.le_trans hP.lt hal.size))
 rw [hn0]at hn
 clear hP hP2 hX hXn hBn hal hcc hcm hn0
 go_enter Tryz.func102,Tryz.ntmps102
 go_wp2
 refine startG (fun W'=>(W.alloc (.cells #[.int .i64 x.op,.int .i64 x.a,.int .i64 x.b,.int .i64 x.c,.int .u32 x.k] 75)).drew.grownBy W' (Value.slice A n cap).ownBlock) 10 (by kernel_rfl) ?_
 obtain ⟨xb,hxb⟩: ∃xb,W.heap.size=xb:=⟨_,rfl⟩
 rw [hxb]at HX
 try rw [hxb]
 generalize (W.alloc (.cells #[.int .i64 x.op,.int .i64 x.a,.int .i64 x.b,.int .i64 x.c,.int .u32 x.k] 75)).drew=W2 at HX HB HR HE0⊢
 have hg0:W2.grownBy W2 (Value.slice A n cap).ownBlock:=World.grownBy.refl _ _
 refine takeA (i:=0) (v:= .pointer (some ⟨bb,0,none⟩)) rfl hg0 ?_
 simp only [Act.put,zA,zB,zC,zD,zE,zF]
 refine takeA (i:=1) (v:= .pointer (some ⟨bb,0,none⟩)) rfl hg0 ?_
 simp only [Act.put,zA,zB,zC,zD,zE,zF]
 refine takeA (i:=2) (v:= .pointer (some ⟨bb,0,none⟩)) rfl hg0 ?_
 simp only [Act.put,zA,zB,zC,zD,zE,zF]
 refine takeA (i:=3) (v:= .pointer (some ⟨bb,0,none⟩)) rfl hg0 ?_
 simp only [Act.put,zA,zB,zC,zD,zE,zF]
 refine takeB (i:=4) (v:= .slice A n cap) rfl (Or.inl ⟨by rfl,fun W hW=>by have q0:=((HB.out.1.grown hW HB.out.2).cell 0).trans rfl;go_simp⟩) hg0 ?_
 simp only [Act.put,zA,zB,zC,zD,zE,zF]
 refine takeB (i:=5) (v:= .agg #[.int .i64 x.op,.int .i64 x.a,.int .i64 x.b,.int .i64 x.c,.int .u32 x.k]) rfl (yields_row (by rfl) 75 (.tmp 3) rfl xb rfl #[.int .i64 x.op,.int .i64 x.a,.int .i64 x.b,.int .i64 x.c,.int .u32 x.k] (fun _ hS=>run_row _ _ _ _ _ _ (HX.out.1.grown hS HX.out.2) Tryz.underlying75 rfl ins_infoB)) hg0 ?_
 simp only [Act.put,zA,zB,zC,zD,zE,zF]
 refine onlyG (i:=6) (by kernel_rfl) rfl (fun K hK=>?_)
 go_simp
 have hA:W2.grownBy (W2.alloc (.cells #[.int .i64 x.op,.int .i64 x.a,.int .i64 x.b,.int .i64 x.c,.int .u32 x.k] 75)) (Value.slice A n cap).ownBlock:=grown_alloc (World.grownBy.refl _ _) _
 have own2:=own_below HR.out.1 (Nat.le_refl _) ((Below.refl W2.heap.size W2).alloc (Nat.le_refl _) (.cells #[.int .i64 x.op,.int .i64 x.a,.int .i64 x.b,.int .i64 x.c,.int .u32 x.k] 75))
 have src:=sl_new W2 75 x.cells
 have hNW:=Nat.le_trans HR.out.2 hA.size
 refine hK.out _ _ hA (fun _=>?_)
 clear hK K
 try simp only [Act.put,zA,zB,zC,zD,zE,zF]
 refine onlyG (i:=7) (by kernel_rfl) rfl (fun K hK=>?_)
 rw [if_pos (by rfl)]
 refine wp_append_sl _ (.tmp 8) (.tmp 10) 50 rfl N0 75 i0 _ 5 40 Tryz.underlying50 hi hy0 hy1 hy2 rfl (by omega) _ n _ rfl own2 _ 1 _ (fun i=>x.cells.getD i undef) rfl src (insc_one x) (by unfold maxLen;omega) (by omega) hNW ?_
 intro v4 W4 own4 hg4 hv4
 rw [range_getD x.cells (1*5) rfl]at own4
 have hg4':=grown_trans' hA hg4
 obtain ⟨A4,cap4,rfl,_,_⟩:=own_sl own4
 have y6:=((HB.out.1.grown hg4' HB.out.2).cell 0).trans rfl
 have f6:=(HB.out.1.grown hg4' HB.out.2).frozen 0
 refine hK.out _ _ hg4' (fun _=>?_)
 clear hK K hg4 hv4 own2 src hA
 try simp only [Act.put,zA,zB,zC,zD,zE,zF]
 refine takeA (i:=8) (v:= .pointer (some ⟨bb,0,none⟩)) rfl hg4' ?_
 simp only [Act.put,zA,zB,zC,zD,zE,zF]
 refine takeA (i:=9) (v:= .pointer (some ⟨bb,0,none⟩)) rfl hg4' ?_
 simp only [Act.put,zA,zB,zC,zD,zE,zF]
 refine lastG (by kernel_rfl) rfl (by kernel_rfl) (fun K hK=>?_)
 go_simp
 refine hK.out _ _ ?_
 clear hK K
 have HE:=Lib.hid (HE0.out _ _ hg4' own4)
 clear own4 hg4' y6 f6
 go_wp2
 go_end0
 exact ⟨⟨_,rfl⟩,HE.out⟩
set_option maxHeartbeats 2000000 in
theorem bgo_any (N0 bb:Nat) (b:BB) (op a:Int) (s:List UInt8) (W:World) (h:BI N0 W bb b) (hn:b.code.length<=1000) (hl:b.links.length<=1000):
 Calls Tryz.prog 97 #[.pointer (some ⟨bb,0,none⟩),.int .i64 op,.int .i64 a,str s] W fun e W'=>(∃u,e= .returned u)/\BI N0 W' bb {b with code:=b.code++[⟨op,a,0,0,0⟩],links:=b.links++[(b.code.length,s)]}/\BelF N0 W W':=by
 have hI:=h
 obtain ⟨vc,vl,mo,hP⟩:=h
 obtain ⟨i0,hi,hy0,hy1,hy2⟩:=info_parts link_info5
 obtain ⟨A,cap,ec,hcc,hcm⟩:=own_cap hP.links
 obtain ⟨n,hn0⟩: ∃n,b.links.length=n:=⟨_,rfl⟩
 rw [hn0]at ec
 subst ec
 obtain ⟨AC,capc,rfl,_,_⟩:=own_cap hP.code
 have hBn:=row_ne hP.blk hP.links (by decide)
 have HB:=Lib.hid (And.intro hP.blk.drew hBn)
 have HE0:=Lib.hid (fun (W':World) (v':Value) (k1:W.drew.grownBy W' (Value.slice A n cap).ownBlock) (k2:W'.ownsRow N0 184 2 v' (n+1) (b.links.flatMap lkc++lkc (b.code.length,s)))=>
  (show BI N0 (W'.setCell ⟨bb,2,none⟩ v') bb {b with links:=b.links++[(b.code.length,s)]}/\BelF N0 W (W'.setCell ⟨bb,2,none⟩ v') from by
    have hD:BParts N0 W.drew bb b _ _ mo:=hP.below (below_drewB _)
    obtain ⟨q1,q2⟩:=hD.addLink (x:=(b.code.length,s)) k1 (by rw [hn0];exact k2)
    exact ⟨q1,(BelF.of (below_drewB W) hP.lt).trans q2⟩))
 have HR:=Lib.hid (And.intro (show W.drew.ownsRow N0 184 2 (.slice A n cap) n (b.links.flatMap lkc) from by have hc:=hP.links;rw [hn0]at hc;exact hc) (show N0<=W.drew.heap.size from hP.lt))
 rw [hn0]at hl
 obtain ⟨m,hm⟩: ∃m,b.code.length=m:=⟨_,rfl⟩
 have hmm:m<=1000:=by omega
 rw [hm]at HB HE0
 clear hP hBn hcc hcm hn0
 have HI:=Lib.hid (show∀W',BI N0 W' bb {b with links:=b.links++[(m,s)]}->Calls Tryz.prog 102 #[.pointer (some ⟨bb,0,none⟩),.agg #[.int .i64 op,.int .i64 a,.int .i64 0,.int .i64 0,.int .u32 0]] W' fun e W''=>(∃u,e= .returned u)/\BI N0 W'' bb {b with code:=b.code++[⟨op,a,0,0,0⟩],links:=b.links++[(m,s)]}/\BelF N0 W' W'' from fun W' k=>bdo_any N0 bb {b with links:=b.links++[(m,s)]} ⟨op,a,0,0,0⟩ W' k hn)
 rw [hm]
 clear hn hI
 unfold str
 go_enter Tryz.func97,Tryz.ntmps97
 go_wp2
 refine startG (fun W'=>W.drew.grownBy W' (Value.slice A n cap).ownBlock) 16 (by kernel_rfl) ?_
 generalize hW2:W.drew=W2 at HB HR HE0⊢
 have hg0:W2.grownBy W2 (Value.slice A n cap).ownBlock:=World.grownBy.refl _ _
 refine takeA (i:=0) (v:= .pointer (some ⟨bb,0,none⟩)) rfl hg0 ?_
 simp only [Act.put,zA,zB,zC,zD,zE,zF]
 refine takeA (i:=1) (v:= .pointer (some ⟨bb,0,none⟩)) rfl hg0 ?_
 simp only [Act.put,zA,zB,zC,zD,zE,zF]
 refine takeA (i:=2) (v:= .pointer (some ⟨bb,0,none⟩)) rfl hg0 ?_
 simp only [Act.put,zA,zB,zC,zD,zE,zF]
 refine takeA (i:=3) (v:= .pointer (some ⟨bb,2,none⟩)) rfl hg0 ?_
 simp only [Act.put,zA,zB,zC,zD,zE,zF]
 refine takeB (i:=4) (v:= .slice A n cap) rfl (Or.inl ⟨by rfl,fun W hW=>by have q0:=((HB.out.1.grown hW HB.out.2).cell 2).trans rfl;go_simp⟩) hg0 ?_
 simp only [Act.put,zA,zB,zC,zD,zE,zF]
 refine takeA (i:=5) (v:= .pointer (some ⟨bb,0,none⟩)) rfl hg0 ?_
 simp only [Act.put,zA,zB,zC,zD,zE,zF]
 refine takeA (i:=6) (v:= .pointer (some ⟨bb,0,none⟩)) rfl hg0 ?_
 simp only [Act.put,zA,zB,zC,zD,zE,zF]
 refine takeA (i:=7) (v:= .pointer (some ⟨bb,0,none⟩)) rfl hg0 ?_
 simp only [Act.put,zA,zB,zC,zD,zE,zF]
 refine takeB (i:=8) (v:= .slice AC m capc) rfl (Or.inl ⟨by rfl,fun W hW=>by have q0:=((HB.out.1.grown hW HB.out.2).cell 0).trans rfl;go_simp⟩) hg0 ?_
 simp only [Act.put,zA,zB,zC,zD,zE,zF]
 refine takeA (i:=9) (v:= .int .i64 (m:Int)) rfl hg0 ?_
 simp only [Act.put,zA,zB,zC,zD,zE,zF]
 refine takeA (i:=10) (v:= .string ⟨s.toArray⟩) rfl hg0 ?_
 simp only [Act.put,zA,zB,zC,zD,zE,zF]
 refine takeA (i:=11) (v:= .agg #[.int .i64 (m:Int),.string ⟨s.toArray⟩]) rfl hg0 ?_
 simp only [Act.put,zA,zB,zC,zD,zE,zF]
 refine onlyG (i:=12) (by kernel_rfl) rfl (fun K hK=>?_)
 go_simp
 have hA:W2.grownBy (W2.alloc (.cells #[.int .i64 (m:Int),.string ⟨s.toArray⟩] 184)) (Value.slice A n cap).ownBlock:=grown_alloc (World.grownBy.refl _ _) _
 have own2:=own_below HR.out.1 (Nat.le_refl _) ((Below.refl W2.heap.size W2).alloc (Nat.le_refl _) (.cells #[.int .i64 (m:Int),.string ⟨s.toArray⟩] 184))
 have src:=sl_new W2 184 (lkc (m,s))
 have hNW:=Nat.le_trans HR.out.2 hA.size
 refine hK.out _ _ hA (fun _=>?_)
 clear hK K
 try simp only [Act.put,zA,zB,zC,zD,zE,zF]
 refine onlyG (i:=13) (by kernel_rfl) rfl (fun K hK=>?_)
 rw [if_pos (by rfl)]
 refine wp_append_sl _ (.tmp 12) (.tmp 20) 128 rfl N0 184 i0 _ 2 24 Tryz.underlying128 hi hy0 hy1 hy2 rfl (by omega) _ n _ rfl own2 _ 1 _ (fun i=>(lkc (m,s)).getD i undef) rfl src (lkc_one _) (by unfold maxLen;omega) (by omega) hNW ?_
 intro v4 W4 own4 hg4 hv4
 rw [range_getD (lkc (m,s)) (1*2) rfl]at own4
 have hg4':=grown_trans' hA hg4
 obtain ⟨A4,cap4,rfl,_,_⟩:=own_sl own4
 have y6:=((HB.out.1.grown hg4' HB.out.2).cell 2).trans rfl
 have f6:=(HB.out.1.grown hg4' HB.out.2).frozen 2
 refine hK.out _ _ hg4' (fun _=>?_)
 clear hK K hg4 hv4 own2 src hA
 try simp only [Act.put,zA,zB,zC,zD,zE,zF]
 refine takeA (i:=14) (v:= .pointer (some ⟨bb,0,none⟩)) rfl hg4' ?_
 simp only [Act.put,zA,zB,zC,zD,zE,zF]
 refine takeA (i:=15) (v:= .pointer (some ⟨bb,2,none⟩)) rfl hg4' ?_
 simp only [Act.put,zA,zB,zC,zD,zE,zF]
 refine lastG (by kernel_rfl) rfl (by kernel_rfl) (fun K hK=>?_)
 go_simp
 refine hK.out _ _ ?_
 clear hK K
 have HE:=Lib.hid (HE0.out _ _ hg4' own4)
 clear own4 hg4' y6 f6
 generalize W4.setCell ⟨bb,2,none⟩ _=W5 at HE⊢
 have HC:=Lib.hid (HI.out W5 HE.out.1)
 go_wp2_with fail
 have hc:=HC.out
 with_reducible refine hc.mono ?_
 rintro e W6 ⟨⟨u,rfl⟩,hB6,hb6⟩
 go_wp2
 go_end0
 exact ⟨⟨_,rfl⟩,hB6,HE.out.2.trans hb6⟩
set_option maxHeartbeats 2000000 in
theorem bname_at (s:ByteArray) (w:World) (h1: ¬s.toList=[]) (h2:s.size<=20) (h: ∀i (hi:i<s.size),97<=(s[i]'hi).toNat/\(s[i]'hi).toNat<=122):
 Calls Tryz.prog 138 #[.string s] w fun e w'=>e= .returned (.bool true)/\w'=w.iter s s.size:=by
 have H:=Lib.hid h
 have h20: ¬(20:Int)<(s.size:Int):=by omega
 have h1b: ¬s.toList.isEmpty=true:=fun e=>h1 (List.isEmpty_iff.1 e)
 clear h
 go_enter Tryz.func138,Tryz.ntmps138
 go_wp2
 go_loopg [2] s.size (fun g s2 wx=> ∃i:Nat,i+g=s.size/\s2= .bool false/\wx=w.iter s i)
 case atStart=>exact ⟨0,by omega,rfl,rfl⟩
 case round=>
  obtain ⟨i,hig,rfl,rfl⟩:=hrel
  cases gk with
  |zero=>
   obtain rfl:i=s.size:=by omega
   have hnx:=run_next_end (P:=Tryz.prog) w s s.size
   go_wp2
   go_ret
   exact ⟨rfl,rfl⟩
  |succ g=>
   have hi:i<s.size:=by omega
   have ha:=H.out i hi
   have hnx:=fun ty=>run_next_ascii (P:=Tryz.prog) w s i ty hi (by omega)
   obtain ⟨c,hc⟩: ∃c,(s[i]'hi).toNat=c:=⟨_,rfl⟩
   rw [hc]at ha hnx
   have g1: ¬(c:Int)<97:=by omega
   have g2: ¬(122:Int)<(c:Int):=by omega
   clear hc
   go_wp2
   go_roundg g
   case measure=>omega
   case rel=>exact ⟨i+1,by omega,rfl,rfl⟩
def Nm (s:List UInt8):Bool:=decide (1<=s.length)&&decide (s.length<=20)&&s.all fun x=>decide (97<=x.toNat)&&decide (x.toNat<=122)
theorem bname_any (s:List UInt8) (hs:Nm s=true) (w:World):Calls Tryz.prog 138 #[str s] w fun e w'=>e= .returned (.bool true)/\Below w.heap.size w w':=by
 simp only [Nm,Bool.and_eq_true,decide_eq_true_eq,List.all_eq_true]at hs
 obtain ⟨⟨h1,h2⟩,h3⟩:=hs
 refine (bname_at ⟨s.toArray⟩ w ?_ (by show s.toArray.size<=20;simpa using h2) ?_).mono ?_
 ·rw [Lib.toList_data]
  intro e
  have e:s=[]:=by simpa using e
  rw [e]at h1
  exact absurd h1 (by decide)
 ·intro i hi
  have hi':i<s.length:=by have :i<s.toArray.size:=hi;simpa using this
  have :(⟨s.toArray⟩:ByteArray)[i]'hi=s[i]'hi':=by show s.toArray[i]'(by simpa using hi')=_;simp
  rw [this]
  exact h3 _ (List.getElem_mem _)
 ·rintro e w' ⟨he,rfl⟩
  exact ⟨he,(Below.refl w.heap.size w).alloc (Nat.le_refl _) _⟩
theorem BParts.looks {N0:Nat} {W:World} {bb mb:Nat} {b:BB} {vc vl:Value} (h:BParts N0 W bb b vc vl (some mb)): ∃DW:DataW Unit,W.ownsMap Tryz.prog 9 (plainElem Tryz.prog 3) mb b.places.length DW/\(∀s,Maps.has DW (.string s)=(b.places.lookup s).isSome)/\(∀s v,b.places.lookup s=some v-> ∀z,DW.atKey (.string s) z= .lit (.int .i64 (v:Int))):=by
 obtain ⟨_,DW,h1,h2,h3⟩:=h.places
 exact ⟨DW,h1,h2,h3⟩
theorem zero_intB (w:World):(zeroValue 3).run Tryz.prog w= .ok (.int .i64 0) w:=by kernel_rfl
theorem nilB (w:World) (r:Option Nat):(binOp .eql 127 (.map r) (.map none)).run Tryz.prog w= .ok (.bool r.isNone) w:=run_eql_map_nil w _ _ _ r Tryz.underlying127
set_option maxHeartbeats 4000000 in
theorem bat_any (N0 bb:Nat) (b:BB) (s:List UInt8) (hs:Nm s=true) (hf:b.places.lookup s=none) (hl:b.places.length<=1000) (hn:b.code.length<=1000) (W:World) (h:BI N0 W bb b):
 Calls Tryz.prog 99 #[.pointer (some ⟨bb,0,none⟩),str s] W fun e W'=>(∃u,e= .returned u)/\BI N0 W' bb {b with places:=(s,b.code.length)::b.places}/\BelF N0 W W':=by
 obtain ⟨vc,vl,mo,hP⟩:=h
 have hkey:keyOf Tryz.prog 9 (str s)=some (.string s):=key_str (by
  simp only [Nm,Bool.and_eq_true,decide_eq_true_eq]at hs
  unfold maxLen;omega)
 have HNm:=Lib.hid hs
 have HF:=Lib.hid (And.intro hf (And.intro hl hn))
 clear hs hf hl hn
 have hun:=Lib.hid (Tryz.underlying127)
 rcases mo with _|mb
 case' none=>
  have HP1:=Lib.hid hP.addMap
  have q1:=(hP.blk.cell 1).trans rfl
  have qa:=((hP.blk.alloc (.map #[] 0)).cell 1).trans rfl
  have fa:=(hP.blk.alloc (.map #[] 0)).frozen 1
  have qn:=nilB W none
  have qm:=run_makeMap (P:=Tryz.prog) 127 W
  clear hP
  go_enter Tryz.func99,Tryz.ntmps99
  go_wp2_with fail
  generalize (W.alloc (.map #[] 0)).setCell ⟨bb,1,none⟩ (.map (some W.heap.size))=W1 at HP1⊢
  generalize W.heap.size=mb at HP1⊢
  clear q1 qa fa qn qm
 case' some=>
  obtain ⟨W1,e1,h1P⟩: ∃W1,W1=W/\(BParts N0 W1 bb b vc vl (some mb)/\BelF N0 W W1):=⟨W,rfl,And.intro hP (BelF.refl N0 W)⟩
  have HP1:=Lib.hid h1P
  clear h1P
  have q1:=(hP.blk.cell 1).trans rfl
  have qn:=nilB W (some mb)
  clear hP
  go_enter Tryz.func99,Tryz.ntmps99
  go_wp2_with fail
  rw [<-e1]
  clear q1 qn e1
 all_goals
  obtain ⟨DW,hm1,hm2,hm3⟩:=HP1.out.1.looks
  obtain ⟨v,ps,hlk,hv⟩:=hm1.look_ok key_law hun.out (zero_intB W1) (plainElem_int Tryz.underlying3 (show (Lit.int .i64 0).wf=true from by decide)) hkey
  obtain ⟨c,rfl,_,_⟩:=plainElem_int_inv Tryz.underlying3 hv
  rw [hm2 s,show (b.places.lookup s).isSome=false from by rw [HF.out.1];rfl]at hlk
  have cN:=bname_any s HNm.out W1
  clear hm1 hm2 hm3 hv
  rw [hlk]
  go_wp2_with fail
  with_reducible refine cN.mono ?_
  rintro e W2 ⟨rfl,hB2⟩
  clear cN hlk
  have HP2:=Lib.hid (And.intro (HP1.out.1.below hB2) (HP1.out.2.trans (BelF.of hB2 HP1.out.1.lt)))
  go_wp2
  refine startG (fun W'=>W'=W2.drew) 10 (by kernel_rfl) ?_
  have hq:=HP2.out.1.below (below_drewB W2)
  obtain ⟨DX,hx1,hx2,hx3⟩:=hq.looks
  obtain ⟨W4,hup,hox,hgx⟩:=hx1.update key_law hun.out (show b.places.length<maxLen from by have :=HF.out.2.1;unfold maxLen;omega) hkey (plainElem_int (H:=Unit) Tryz.underlying3 (a:=(b.code.length:Int)) (by have :=HF.out.2.2;exact Go.WalkArith.wf_i64 (by omega)))
  have HQ:=Lib.hid (hq.addPlace hgx (PlI.put (hq.mapNe rfl).2.2.2.2 hx1.isMap hx2 hx3 s b.code.length hox))
  have HD:=Lib.hid (HP2.out.2.trans (BelF.of (below_drewB W2) HP2.out.1.lt))
  obtain ⟨AC,capc,rfl,_,_⟩:=own_cap hq.code
  have HB:=Lib.hid hq.blk
  clear hx1 hx2 hx3 hq hox hgx
  generalize W2.drew=W3 at HB HQ HD hup⊢
  generalize b.code.length=m at HB hup⊢
  refine takeA (i:=0) (v:= .pointer (some ⟨bb,0,none⟩)) rfl rfl ?_
  simp only [Act.put,zA,zB,zC,zD,zE,zF]
  refine takeA (i:=1) (v:= .pointer (some ⟨bb,0,none⟩)) rfl rfl ?_
  simp only [Act.put,zA,zB,zC,zD,zE,zF]
  refine takeA (i:=2) (v:= .pointer (some ⟨bb,1,none⟩)) rfl rfl ?_
  simp only [Act.put,zA,zB,zC,zD,zE,zF]
  refine takeB (i:=3) (v:= .map (some mb)) rfl (Or.inl ⟨by rfl,fun W hW=>by subst hW;have q0:=(HB.out.cell 1).trans rfl;go_simp⟩) rfl ?_
  simp only [Act.put,zA,zB,zC,zD,zE,zF]
  refine takeA (i:=4) (v:=str s) rfl rfl ?_
  simp only [Act.put,zA,zB,zC,zD,zE,zF]
  refine takeA (i:=5) (v:= .pointer (some ⟨bb,0,none⟩)) rfl rfl ?_
  simp only [Act.put,zA,zB,zC,zD,zE,zF]
  refine takeA (i:=6) (v:= .pointer (some ⟨bb,0,none⟩)) rfl rfl ?_
  simp only [Act.put,zA,zB,zC,zD,zE,zF]
  refine takeA (i:=7) (v:= .pointer (some ⟨bb,0,none⟩)) rfl rfl ?_
  simp only [Act.put,zA,zB,zC,zD,zE,zF]
  refine takeB (i:=8) (v:= .slice AC m capc) rfl (Or.inl ⟨by rfl,fun W hW=>by subst hW;have q0:=(HB.out.cell 0).trans rfl;go_simp⟩) rfl ?_
  simp only [Act.put,zA,zB,zC,zD,zE,zF]
  refine takeA (i:=9) (v:= .int .i64 (m:Int)) rfl rfl ?_
  simp only [Act.put,zA,zB,zC,zD,zE,zF]
  refine lastG (by kernel_rfl) rfl (by kernel_rfl) (fun K hK=>?_)
  go_simp
  refine hK.out _ _ ?_
  clear hK K
  go_wp2
  go_end0
  exact ⟨⟨_,rfl⟩,HQ.out.1,HD.out.trans HQ.out.2⟩
end Go.Proofs.YtmhfpjnkjlhbpaaGreatDoor
