/- trace.calls: a thread's calls. -/
import Derived.Test.YtmhfpjnkjlhbpaaGreatDoorQj30
import Derived.Maps.OwnIn
import Derived.Deep.DeepMust
import Derived.Test.YtmhfpjnkjlhbpaaGreatDoorQj35
import Derived.Sort.CutIn
namespace Go.Proofs.YtmhfpjnkjlhbpaaGreatDoor
open Go.ChangeShapes Go.WideShapes Go.ChangeAt Go.RowKit Go.Shelf
set_option linter.unusedVariables false
set_option maxRecDepth 100000
set_option linter.unusedSimpArgs false
open List renaming getElem_toArray->zA,getElem_cons_zero->zB,getElem_cons_succ->zC,setIfInBounds_toArray->zD,set_cons_zero->zE,set_cons_succ->zF
attribute [local go_sem] Oper.semAt_some
theorem int_infoT:(Tryz.prog.info? 3).map (fun i=>(i.zero,i.size,i.bytes))=some (some (.int .i64 0),1,8):=by kernel_rfl
theorem call_info:(Tryz.prog.info? 72).map (fun i=>(i.zero,i.size,i.bytes))=some (some (.agg #[.int .i64 0,.int .i64 0,.int .i64 0,.int .i64 0,.int .u32 0,.slice none 0 0]),6,64):=by kernel_rfl
theorem own_non {W W':World} {base:Nat} {e:TypeId} {size n:Nat} {v:Value} {xs:List Value} {row:Option Nat} (h:W.ownsRow base e size v n xs) (hg:W.grownBy W' row) (hr: ∀r,row=some r-> ∃o:Obj,W.heap[r]?=some o/\o.isCells=false):W'.ownsRow base e size v n xs:=by
 refine own_far h hg (fun i e0 e2=>?_)
 obtain ⟨o,ho,hc⟩:=hr i e2
 rcases h.2 with ⟨rfl,_⟩|⟨g,cap,cur,rfl,_,hh,_⟩
 ·cases e0
 ·obtain rfl:=Option.some.inj e0
  rw [hh]at ho
  cases ho
  cases hc
theorem CM.non {W W':World} {base bl:Nat} {v:Value} {C:List Cl} {IV:List Value} {row:Option Nat} (h:CM W base bl v C IV) (hg:W.grownBy W' row) (hr: ∀r,row=some r-> ∃o:Obj,W.heap[r]?=some o/\o.isCells=false):CM W' base bl v C IV:=
 ⟨h.il,own_non h.row hg hr,fun j hj=>own_non (h.inn j hj) hg hr,h.old,h.las,h.b1,Nat.le_trans h.b2 hg.size⟩
theorem cstep_bd (t:Int) (s:List Cl×Bool) (x:Nat×EvB) (m:Nat) (h1:s.1.length<=m) (h2: ∀c∈s.1,c.inner.length<=m) (h3:s.2=true->s.1≠[]):
 (cstep t s x).1.length<=m+1/\(∀c∈(cstep t s x).1,c.inner.length<=m+1)/\((cstep t s x).2=true->(cstep t s x).1≠[]):=by
 have hm: ∀f:Cl->Cl,(∀c,(f c).inner.length<=c.inner.length+1)->(modLast f s.1).length<=m+1/\(∀c∈modLast f s.1,c.inner.length<=m+1)/\(s.1≠[]->modLast f s.1≠[]):=by
  intro f hf
  rcases List.eq_nil_or_concat s.1 with e|⟨init,c,e⟩
  ·have e0:modLast f []=[]:=rfl
   rw [e,e0]
   exact ⟨Nat.zero_le _,fun c hc=>absurd hc List.not_mem_nil,fun h=>h⟩
  ·rw [List.concat_eq_append]at e
   rw [e,modLast_snoc]
   rw [e]at h1 h2
   refine ⟨by simp at h1⊢;omega,fun d hd=>?_,fun _=>by simp⟩
   rcases List.mem_append.1 hd with hd|hd
   ·have :=h2 d (List.mem_append_left _ hd);omega
   ·rw [List.mem_singleton.1 hd]
    have :=hf c
    have h4:=h2 c (by simp)
    omega
 unfold cstep
 by_cases hk:x.2.kind≠7
 ·rw [if_pos hk]
  by_cases ho:s.2=true/\x.2.kind≠3
  ·rw [if_pos ho]
   obtain ⟨a,b,c⟩:=hm (fun c=>{c with inner:=c.inner++[(x.1:Int)]}) (fun c=>by simp)
   exact ⟨a,b,fun _=>c (h3 ho.1)⟩
  ·rw [if_neg ho]
   exact ⟨by omega,fun c hc=>by have :=h2 c hc;omega,h3⟩
 ·rw [if_neg hk]
  by_cases h2':x.2.k % 2=0
  ·rw [if_pos h2']
   refine ⟨by simp;omega,fun c hc=>?_,fun _=>by simp⟩
   rcases List.mem_append.1 hc with hc|hc
   ·have :=h2 c hc;omega
   ·rw [List.mem_singleton.1 hc];exact Nat.zero_le _
  ·rw [if_neg h2']
   by_cases hs:s.2=true/\lastSite s.1=x.2.k/2
   ·rw [if_pos hs]
    obtain ⟨a,b,c⟩:=hm (fun c=>{c with ended:=(x.1:Int),result:=x.2.value}) (fun c=>Nat.le_succ _)
    exact ⟨a,b,fun h=>by cases h⟩
   ·rw [if_neg hs]
    exact ⟨by omega,fun c hc=>by have :=h2 c hc;omega,h3⟩
theorem callsF_bd (t:Int) (pre:List (Nat×EvB)):(callsF t pre).1.length<=pre.length/\(∀c∈(callsF t pre).1,c.inner.length<=pre.length)/\((callsF t pre).2=true->(callsF t pre).1≠[]):=by
 have gen: ∀(l:List (Nat×EvB)) (s:List Cl×Bool) (m:Nat),s.1.length<=m->(∀c∈s.1,c.inner.length<=m)->(s.2=true->s.1≠[])->
  (l.foldl (cstep t) s).1.length<=m+l.length/\(∀c∈(l.foldl (cstep t) s).1,c.inner.length<=m+l.length)/\((l.foldl (cstep t) s).2=true->(l.foldl (cstep t) s).1≠[]):=by
  intro l
  induction l with
  |nil=>intro s m a b c;exact ⟨a,b,c⟩
  |cons x l ih=>
   intro s m a b c
   obtain ⟨a',b',c'⟩:=cstep_bd t s x m a b c
   have :=ih (cstep t s x) (m+1) a' b' c'
   rw [List.foldl_cons,List.length_cons,show m+(l.length+1)=m+1+l.length from by omega]
   exact this
 have :=gen pre ([],false) 0 (Nat.le_refl _) (fun c hc=>by cases hc) (fun h=>by cases h)
 simpa [callsF]using this
theorem CM.weak {W:World} {base base' bl:Nat} {v:Value} {C:List Cl} {IV:List Value} (h:CM W base bl v C IV) (hb:base'<=base):CM W base' bl v C IV:=
 ⟨h.il,own_base h.row hb,fun j hj=>own_base (h.inn j hj) hb,h.old,h.las,Nat.le_trans hb h.b1,h.b2⟩
theorem keeps_own {W W':World} {base:Nat} {e:TypeId} {size n:Nat} {v:Value} {xs:List Value} {o:Obj} (h:W.ownsRow base e size v n xs) (hg:(W.alloc o).grownBy W' v.ownBlock):KeepsOthers W W':=
 (KeepsOthers.alloc W o).trans ⟨hg.size,fun k o' hk ho=>by
   refine (hg.block k (Array.getElem?_eq_some_iff.1 hk).1 (fun e0=>?_)).trans hk
   rcases h.2 with ⟨rfl,_⟩|⟨g,cap,cur,rfl,_,hh,_⟩
   ·cases e0
   ·obtain rfl:=Option.some.inj e0
    have hlt:k<W.heap.size:=by
     rcases Nat.lt_or_ge k W.heap.size with hlt|hge
     ·exact hlt
     ·rw [Array.getElem?_eq_none hge]at hh;cases hh
    rw [Below.heap_alloc W o k hlt,hh]at hk
    cases hk
    cases ho⟩
theorem cells_new (W:World) (ty:TypeId) (cs:List Value): ∀j u,cs[j]?=some u->(W.alloc (.cells cs.toArray ty)).cell? ((⟨W.heap.size,0,none⟩:Addr).add j)=some u:=fun j u h=>by
 rw [add_plain,Nat.zero_add,(Blk.new W ty cs.toArray).cell]
 simpa using h
theorem cl_one (c:Cl): ∀u∈c.cellsV (.slice none 0 0),u.oneCell'=true:=by
 intro u hu
 simp only [Cl.cellsV,List.mem_cons,List.not_mem_nil,or_false]at hu
 rcases hu with rfl|rfl|rfl|rfl|rfl|rfl<;>rfl
structure CI (w:World) (t:Int) (base:Nat) (pre:List (Nat×EvB)) (W:World):Prop where
 out: ∃v bl IV,Boxed W (w.heap.size+1) 68 v/\CM W base bl v (callsF t pre).1 IV
 opn:Boxed W (w.heap.size+1+1) 4 (.bool (callsF t pre).2)
 tb:Boxed W w.heap.size 3 (.int .i64 t)
 ot:Boxed W (w.heap.size+1+1+1+1) 3 (.int .i64 t)
 below:Below w.heap.size w W
theorem ci_own (w:World) (t:Int) (base B:Nat) (hB:w.heap.size<=B):OwnFrom B (CI w t base):=by
 rintro s X Y row ⟨⟨v,bl,IV,h1,h2⟩,h3,h4,h5,h6⟩ hg hr
 have hr': ∀r,row=some r-> ∃o:Obj,X.heap[r]?=some o/\o.isCells=false:=fun r e=>(hr r e).2
 have kb: ∀(b:Nat) (ty:TypeId) (u:Value),Boxed X b ty u->Boxed Y b ty u:=fun b ty u h=>blk_kept (cs:= #[u]) h hg hr'
 exact ⟨⟨v,bl,IV,kb _ _ _ h1,h2.non hg hr'⟩,kb _ _ _ h3,kb _ _ _ h4,kb _ _ _ h5,h6.grown hg h6.size (fun k e=>Nat.le_trans hB (hr k e).1)⟩
def S3 (Bx g j:Nat) (v:Int) (W:World):Prop:=W.cell? ⟨Bx,4,none⟩=some (.int .u32 v)/\(∃u,W.cell? ⟨g,j+3,none⟩=some u)/\W.frozen? ⟨g,j+3,none⟩=false/\(∃u,W.cell? ⟨g,j+4,none⟩=some u)/\W.frozen? ⟨g,j+4,none⟩=false
theorem S3.t3 {Bx g j:Nat} {v:Int} {W:World} (h:S3 Bx g j v W):W.there g (j+3) 1:=there1 h.2.1.choose_spec h.2.2.1
theorem S3.t4 {Bx g j:Nat} {v:Int} {W:World} (h:S3 Bx g j v W):W.there g (j+4) 1:=there1 h.2.2.2.1.choose_spec h.2.2.2.2
theorem S3.set {Bx g j:Nat} {v:Int} {W:World} {u:Value} (h:S3 Bx g j v W) (hb:Bx≠g):S3 Bx g j v (W.setCell ⟨g,j+3,none⟩ u):=by
 obtain ⟨h1,⟨u3,h3⟩,h4,⟨u4,h5⟩,h6⟩:=h
 refine ⟨(World.cell?_setCell_other _ _ _ _ (fun e=>?_)).trans h1,⟨u,World.cell?_setCell_same' _ _ _ (by rw [h3];rfl)⟩,(by rw [World.frozen?_setCell];exact h4),⟨u4,(World.cell?_setCell_other _ _ _ _ (fun e=>?_)).trans h5⟩,(by rw [World.frozen?_setCell];exact h6)⟩
 ·injection e with e1 _ _
  exact hb e1.symm
 ·injection e with _ e1 _
  omega
theorem S3.set4 {Bx g j:Nat} {v:Int} {W:World} {u:Value} (h:S3 Bx g j v W) (hb:Bx≠g):S3 Bx g j v (W.setCell ⟨g,j+4,none⟩ u):=by
 obtain ⟨h1,⟨u3,h3⟩,h4,⟨u4,h5⟩,h6⟩:=h
 refine ⟨(World.cell?_setCell_other _ _ _ _ (fun e=>?_)).trans h1,⟨u3,(World.cell?_setCell_other _ _ _ _ (fun e=>?_)).trans h3⟩,(by rw [World.frozen?_setCell];exact h4),⟨u,World.cell?_setCell_same' _ _ _ (by rw [h5];rfl)⟩,(by rw [World.frozen?_setCell];exact h6)⟩
 ·injection e with e1 _ _
  exact hb e1.symm
 ·injection e with _ e1 _
  omega
theorem grew_drewN (W:World) (n:Nat):W.grownBy (W.drewN n) none:=⟨rfl,rfl,rfl,Nat.le_refl _,fun _ _ _=>rfl⟩
theorem keeps_drewN (W:World) (n:Nat):KeepsOthers W (W.drewN n):=⟨Nat.le_refl _,fun _ _ hk _=>hk⟩
theorem ci_drewN {w W:World} {t:Int} {base:Nat} {pre:List (Nat×EvB)} (n:Nat) (h:CI w t base pre W):CI w t base pre (W.drewN n):=
 ci_own w t base w.heap.size (Nat.le_refl _) pre W (W.drewN n) none h (grew_drewN W n) (fun r e=>by cases e)
set_option maxRecDepth 100000 in
set_option maxHeartbeats 8000000 in
theorem calls_in (F:Fence) (n:Nat) (h1':F.fn 67) (h2':F.fn 66) (h3':F.fn 109) (hro:F.round=none) (hn:3<=n) (A:Option Addr) (len cap:Nat) (E:Nat->EvB) (t:Int) (hl:len<=1000000000) (w:World) (hs:SlE w A len 8 (fun i=>(E i).cells)):
 CallsIn F n Tryz.prog 67 #[.slice A len cap,.int .i64 t] w fun e W'=> ∃v bl IV,e= .returned v/\CM W' w.heap.size bl v (callsF t (evsB E t len)).1 IV/\Below w.heap.size w W':=by
 have h1:1<=n:=by omega
 obtain ⟨i0,hi,hz0,hz1,hz2⟩:=info_parts int_infoT
 obtain ⟨j0,ji,jz0,jz1,jz2⟩:=info_parts call_info
 refine callsIn_of_wp_marks Tryz.func67 rfl h1' ?_ hro
 simp only [Tryz.ntmps67,List.size_toArray,List.length_cons,List.length_nil,Nat.reduceAdd,Nat.reduceSub,Array.replicate_succ,Array.replicate_zero,List.push_toArray,List.append_toArray,List.nil_append,List.cons_append]
 gi_wp2_with (gi_at_call 66;refine (of_inB F (n-1) h2' hro _ _ _ _ _).mono ?_;rintro e w' ⟨rfl,rfl⟩)
 have bT:=Boxed.new w 3 (.int .i64 t)
 have bO:=Boxed.new (w.alloc (.cells #[.int .i64 t] 3)) 68 (.slice none 0 0)
 have bP:=Boxed.new ((w.alloc (.cells #[.int .i64 t] 3)).alloc (.cells #[.slice none 0 0] 68)) 4 (.bool false)
 have bS:=Boxed.new (((w.alloc (.cells #[.int .i64 t] 3)).alloc (.cells #[.slice none 0 0] 68)).alloc (.cells #[.bool false] 4)) 40 (.slice A len cap)
 have bU:=Boxed.new ((((w.alloc (.cells #[.int .i64 t] 3)).alloc (.cells #[.slice none 0 0] 68)).alloc (.cells #[.bool false] 4)).alloc (.cells #[.slice A len cap] 40)) 3 (.int .i64 t)
 simp only [World.size_alloc]at bO bP bS bU
 have hB0:Below w.heap.size w (((((w.alloc (.cells #[.int .i64 t] 3)).alloc (.cells #[.slice none 0 0] 68)).alloc (.cells #[.bool false] 4)).alloc (.cells #[.slice A len cap] 40)).alloc (.cells #[.int .i64 t] 3)):=(((((Below.refl _ w).alloc (Nat.le_refl _) _).alloc (by simp) _).alloc (by simp;omega) _).alloc (by simp;omega) _).alloc (by simp;omega) _
 have hsz:(((((w.alloc (.cells #[.int .i64 t] 3)).alloc (.cells #[.slice none 0 0] 68)).alloc (.cells #[.bool false] 4)).alloc (.cells #[.slice A len cap] 40)).alloc (.cells #[.int .i64 t] 3)).heap.size=w.heap.size+5:=by simp
 have bT2:=(((bT.alloc (.cells #[.slice none 0 0] 68)).alloc (.cells #[.bool false] 4)).alloc (.cells #[.slice A len cap] 40)).alloc (.cells #[.int .i64 t] 3)
 have bO2:=((bO.alloc (.cells #[.bool false] 4)).alloc (.cells #[.slice A len cap] 40)).alloc (.cells #[.int .i64 t] 3)
 have bP2:=(bP.alloc (.cells #[.slice A len cap] 40)).alloc (.cells #[.int .i64 t] 3)
 have bS2:=bS.alloc (.cells #[.int .i64 t] 3)
 obtain ⟨W0,hW0⟩: ∃W0,(((((w.alloc (.cells #[.int .i64 t] 3)).alloc (.cells #[.slice none 0 0] 68)).alloc (.cells #[.bool false] 4)).alloc (.cells #[.slice A len cap] 40)).alloc (.cells #[.int .i64 t] 3))=W0:=⟨_,rfl⟩
 rw [hW0]at bT2 bO2 bP2 bS2 bU hB0 hsz⊢
 clear hW0 bO bS bT bP
 have hbA:0<len-> ∀b off,A=some ⟨b,off,none⟩->b<w.heap.size:=fun hp b off e=>by
  obtain ⟨b',off',e',hlt,_⟩:=hs hp
  rw [e]at e'
  injection e' with e'
  injection e' with e1 _
  omega
 refine wpIn_rangeFunc_ownH hro h1 (gf:=109) (lb:= #[.pointer (some ⟨w.heap.size+1+1+1,0,none⟩),.pointer (some ⟨w.heap.size+1+1+1+1,0,none⟩)]) rfl h3' (enters_of Tryz.func109 (by kernel_rfl) rfl)
  (of_stopsB F (n-1) h3' hro (by omega) (w.heap.size+1+1+1) (w.heap.size+1+1+1+1) w.heap.size A len cap E t hl W0 (by omega) (by omega) bS2.cell bU hbA (SlE.step hs hB0)) KpOfB.trans (kpOf_bB (by omega) (by omega)) (Below.refl _ _) (fun _=>rfl)
  (CI w t W0.heap.size)
  (fun _ _ _=>False)
  (ci_own w t W0.heap.size W0.heap.size (by omega))
  (fun _ _ _ _ _ hs _ _=>hs)
  ⟨⟨_,_,_,bO2,CM.nil W0 W0.heap.size (Nat.le_refl _)⟩,bP2,bT2,bU,hB0⟩
  (fun x a' W => ∃ Bx, w.heap.size + 1 + 1 + 1 + 1 < Bx /\ Blk W Bx 65 (tvArrB x.2) /\ a' = { tmps := #[.slice A len cap, .int .i64 t, undef, .pointer (some ⟨w.heap.size, 0, none⟩), .slice none 0 0, .pointer (some ⟨w.heap.size + 1, 0, none⟩), .pointer (some ⟨w.heap.size + 1 + 1, 0, none⟩), .int .i64 (x.1 : Int), .pointer (some ⟨Bx, 0, none⟩), undef, undef, .slice A len cap, .int .i64 t, .func (.func 109) #[] #[.pointer (some ⟨w.heap.size + 1 + 1 + 1, 0, none⟩), .pointer (some ⟨w.heap.size + 1 + 1 + 1 + 1, 0, none⟩)], .int .i64 (x.1 : Int), .agg #[.int .i64 x.2.kind, .int .i64 x.2.who, .int .i64 x.2.pc, .int .i64 x.2.addr, .int .u32 x.2.value, .int .u32 x.2.old, .int .u32 x.2.k, .bool x.2.ok], undef, undef, undef, undef, undef, undef, undef, undef, undef, undef, undef, undef, undef, undef, undef, undef, undef, undef, undef, undef, undef, undef, undef, undef, undef, undef, undef, undef, undef, undef, undef, undef, undef, undef, undef, undef, undef, undef, undef, undef, undef, undef, undef, undef, undef, undef, undef, undef, undef, undef, undef, undef, undef, undef, undef, undef, undef, undef, undef, undef, undef, undef, undef, undef, undef, undef, undef, undef, undef, undef, undef], defers := [] })
  (fun x a' _ X Y row hs hg hr=>by obtain ⟨Bx,h1,h2,h3⟩:=hs;exact ⟨Bx,h1,blk_kept h2 hg (fun r e=>(hr r e).2),h3⟩)
  ?assign ?body ?done ?stop
 case assign=>
  rintro l pre x W K ⟨⟨v,bl,IV,hv,hcm⟩,hp,ht,hot,hB1⟩ hK
  unfold evEncB
  gi_wp2
  exact hK _ _ ((KeepsOthers.alloc _ _).from _) (KpOfB.of_below ((Below.refl _ W).alloc (Nat.le_refl _) _) hB1.size) ⟨⟨v,bl,IV,hv.alloc _,hcm.alloc _⟩,hp.alloc _,ht.alloc _,hot.alloc _,hB1.alloc hB1.size _⟩ ⟨W.heap.size,hot.lt,Blk.new W _ _,rfl⟩
 case body=>
  rintro l pre x a' W hl9 ⟨r,hr⟩ ⟨⟨v,bl,IV,hv,hcm⟩,hp,ht,hot,hB1⟩ ⟨Bx,hBx,bX,rfl⟩ hlt
  have h5a:=Nat.le_of_eq hsz
  have h5b:=Nat.le_of_eq hsz.symm
  clear hsz
  obtain ⟨bd1,bd2,bd3⟩:=callsF_bd t pre
  have hsn:=callsF_snoc t pre x
  obtain ⟨⟨C,o⟩,hCo⟩: ∃s,callsF t pre=s:=⟨_,rfl⟩
  rw [hCo]at hcm hp bd1 bd2 bd3 hsn
  dsimp only at hcm hp bd1 bd2 bd3
  have hc:=hv.cell
  have hpc:=hp.cell
  have htc:=ht.cell
  have hvf:=hv.frozen
  have hpf:=hp.frozen
  have x0:=bX.cell 0
  have x4:=bX.cell 4
  have x6:=bX.cell 6
  simp only [tvArrB,List.getElem?_toArray,List.getElem?_cons_zero,List.getElem?_cons_succ]at x0 x4 x6
  have hxlt:=bX.lt
  have HS:=Lib.hid hsn
  have HX:=Lib.hid (And.intro hv (And.intro hp (And.intro ht (And.intro hot hB1))))
  clear hsn hCo
  by_cases hk:x.2.kind=7
  ·have hk1:(x.2.kind !=7)=false:=by simp [hk]
   have hkv0:=x.2.k0
   have hkv1:=x.2.k1
   by_cases hev:x.2.k % 2=0
   ·have hev1:((x.2.k % 2)==0)=true:=by simp [hev]
    have hdiv:=Int.ediv_nonneg hkv0 (show (0:Int)<=2 by decide)
    have hst:callsF t (pre++[x])=(C++[⟨x.2.k/2,t,(x.1:Int),-1,0,[]⟩],true):=by
     rw [HS.out]
     unfold cstep
     rw [if_neg (by simp [hk]),if_pos hev]
    have HST:=Lib.hid hst
    have hcr:=hcm.row
    have hbz:w.heap.size<=W.heap.size:=hB1.size
    have hWb:W0.heap.size<=W.heap.size:=Nat.le_trans hcm.b1 hcm.b2
    have hw2:x.2.k/2<=2147483647:=by omega
    clear hst hev
    gi_wp2_with (gi_at_builtin;go_must (refine wpListIn_append_own_at _ rfl (.tmp 46) (.tmp 54) 68 rfl W0.heap.size 72 j0 (.agg #[.int .i64 0,.int .i64 0,.int .i64 0,.int .i64 0,.int .u32 0,.slice none 0 0]) 6 64 Tryz.underlying68 ji jz0 jz1 jz2 rfl (by decide) _ _ _ rfl (hcr.alloc _) ⟨W.heap.size,0,none⟩ 1 1 (Cl.cellsV ⟨x.2.k/2,t,(x.1:Int),-1,0,[]⟩ (.slice none 0 0)) rfl rfl (cells_new W _ _) (cl_one _) (by unfold maxLen;omega) (by omega) (Nat.le_trans hWb (by simp)) ?_;intro v' w1 hown' hgrow _ hnew;have hv1:Boxed w1 _ _ _:=Blk.grow_own (Blk.alloc (cs:= #[v]) hv _) (hcr.alloc _) hgrow (by omega);have hp1:Boxed w1 _ _ _:=Blk.grow_own (Blk.alloc (cs:= #[.bool o]) hp _) (hcr.alloc _) hgrow (by omega);have c1:=hv1.cell;have f1:=hv1.frozen;have p1:=hp1.cell;have pf1:=hp1.frozen;obtain ⟨g',cap',rfl⟩:=ownsRow_succ hown'))
    have kb: ∀(b:Nat) (ty:TypeId) (u:Value),b<W0.heap.size->Boxed W b ty u->Boxed w1 b ty u:=fun b ty u hb h=>Blk.grow_own (Blk.alloc (cs:= #[u]) h _) (hcr.alloc _) hgrow hb
    have hcb:=CM.begin_ (c:=⟨x.2.k/2,t,(x.1:Int),-1,0,[]⟩) hcm rfl hgrow hown'
    obtain ⟨hv,hp,ht,hot,hB1⟩:=HX.out
    have hbl: ∀{w9:World},Below w.heap.size w9 W->w.heap.size<=w9.heap.size->Below w.heap.size w9 ((w1.setCell ⟨w.heap.size+1,0,none⟩ (.slice (some ⟨g',0,none⟩) (C.length+1) cap')).setCell ⟨w.heap.size+1+1,0,none⟩ (.bool true)):=fun h h9=>
     ((below_own (h.alloc hbz _) (hcr.alloc _) hgrow (by omega) h9).setCell (p:=⟨w.heap.size+1,0,none⟩) (by show w.heap.size<=w.heap.size+1;omega) _).setCell (p:=⟨w.heap.size+1+1,0,none⟩) (by show w.heap.size<=w.heap.size+1+1;omega) _
    have hot2:=((kb _ _ _ (by omega) hot).other (B':=w.heap.size+1) (by omega) (.slice (some ⟨g',0,none⟩) (C.length+1) cap')).other (B':=w.heap.size+1+1) (by omega) (.bool true)
    refine ⟨(((keeps_own hcr hgrow).trans (KeepsOthers.setCell _ _ _)).trans (KeepsOthers.setCell _ _ _)).from _,⟨hbl (Below.refl _ _) hbz,fun o' ho=>?_⟩,⟨⟨_,W.heap.size,IV++[.slice none 0 0],((kb _ _ _ (by omega) hv).set _).other (by omega) _,?_⟩,?_,((kb _ _ _ (by omega) ht).other (by omega) _).other (by omega) _,hot2,hbl hB1 (Nat.le_refl _)⟩⟩
    ·have e:=hot.symm.trans ho
     rw [<-Option.some.inj e]
     exact hot2
    ·rw [HST.out]
     exact (hcb.grown (set_only _) (by omega)).grown (set_only _) (by omega)
    ·rw [HST.out]
     exact ((kb _ _ _ (by omega) hp).other (by omega) _).set _
   ·have hev1:((x.2.k % 2)==0)=false:=by simp;omega
    cases o
    ·have hst:callsF t (pre++[x])=(C,false):=by
      rw [HS.out]
      unfold cstep
      rw [if_neg (by simp [hk]),if_neg hev,if_neg (by simp)]
     have HST:=Lib.hid hst
     have fin:CI w t W0.heap.size (pre++[x]) W:=by
      obtain ⟨hv,hp,ht,hot,hB1⟩:=HX.out
      exact ⟨⟨v,bl,IV,hv,by rw [hst];exact hcm⟩,by rw [hst];exact hp,ht,hot,hB1⟩
     have HF:=Lib.hid fin
     clear fin hst hev
     gi_upto_region 13 with fail
     refine quietIn (by kernel_rfl) (by kernel_rfl) (by kernel_rfl) ?_
     repeat (go_big_quiet_step (fail))
     refine wpQuiet_nil ?_
     intro _ hw'
     obtain ⟨nq,hw''⟩:=hw'
     subst hw''
     gi_wp2
     exact ⟨(keeps_drewN W nq).from _,KpOfB.of_grown (grew_drewN W nq) HX.out.2.2.2.2.size (fun r e=>by cases e),ci_drewN nq HF.out⟩
    ·obtain ⟨C0,c,rfl⟩: ∃C0 c,C=C0++[c]:=by
      rcases List.eq_nil_or_concat C with e|⟨C0,c,e⟩
      ·exact absurd e (bd3 rfl)
      ·exact ⟨C0,c,by rw [e,List.concat_eq_append]⟩
     obtain ⟨g,cp,rfl⟩: ∃g cp,v= .slice (some ⟨g,0,none⟩) (C0.length+1) cp:=by
      rcases hcm.row.2 with ⟨_,e⟩|⟨g,cp,cur,e,_⟩
      ·simp at e
      ·exact ⟨g,cp,by rw [e,List.length_append];rfl⟩
     obtain ⟨I0,lv,rfl⟩: ∃I0 lv,IV=I0++[lv]:=by
      rcases List.eq_nil_or_concat IV with e|⟨I0,lv,e⟩
      ·have :=hcm.il;rw [e]at this;simp at this
      ·exact ⟨I0,lv,by rw [e,List.concat_eq_append]⟩
     have q0:=hcm.cell 0 (by omega)
     simp only [Cl.cellsV,List.getElem?_cons_zero,Nat.add_zero]at q0
     have hn0:(0:Int)<=(C0.length:Int):=by omega
     have hcl:C0.length<=1000000000:=by simp at bd1;omega
     have hls:lastSite (C0++[c])=c.site:=by simp [lastSite]
     have HS2:=HS.out
     rw [cstep,if_neg (by simp [hk]),if_neg hev,hls]at HS2
     obtain ⟨n0,hn0'⟩: ∃n0,C0.length=n0:=⟨_,rfl⟩
     rw [hn0']at q0 hn0 hc hcl
     have HN:=Lib.hid (And.intro hn0' hcm)
     have HS3:=Lib.hid HS2
     clear hn0' HS2 hls hev
     have hwn:IntKind.i64.wrap ((n0:Int)+1-1)=(n0:Int):=by rw [IntWalk.i64_in _ (by omega)];omega
     have hdiv:=Int.ediv_nonneg hkv0 (show (0:Int)<=2 by decide)
     have hw2:x.2.k/2<=2147483647:=by omega
     have hW13:IntKind.u32.wrap (x.2.k/2)=x.2.k/2:=IntWalk.u32_in _ (by omega)
     have hW14:IntKind.i64.wrap (x.2.k/2)=x.2.k/2:=IntWalk.i64_in _ (by omega)
     have htd:Int.tdiv x.2.k 2=x.2.k/2:=Int.tdiv_eq_ediv_of_nonneg hkv0
     have hlt1:(n0:Int)<(n0:Int)+1:=by omega
     have hlt2:n0<n0+1:=by omega
     by_cases hsite:c.site=x.2.k/2
     ·have hS1:(c.site==x.2.k/2)=true:=by simpa using hsite
      have HSI:=Lib.hid hsite
      clear hsite
      gi_upto_region 13 with fail
      refine quietIn (by kernel_rfl) (by kernel_rfl) (by kernel_rfl) ?_
      repeat (go_big_quiet_step (fail))
      refine wpQuiet_nil ?_
      intro _ hw'
      obtain ⟨nq,hw''⟩:=hw'
      subst hw''
      gi_upto_region 15 with fail
      have hBg:Bx≠g:=fun e=>by
       rcases hcm.row.2 with ⟨e1,_⟩|⟨g1,cap1,cur1,e1,_,hh,_⟩
       ·cases e1
       ·injection e1 with e1 _ _
        injection e1 with e1
        injection e1 with e1 _ _
        have hb:=bX
        unfold Blk at hb
        rw [e,e1,hh]at hb
        have :=Option.some.inj hb
        injection this with _ e2 _
        revert e2
        decide
      have q3:=hcm.cell 3 (by omega)
      have q4:=hcm.cell 4 (by omega)
      have q3f:=hcm.frozen (C0.length*6+3)
      have q4f:=hcm.frozen (C0.length*6+4)
      simp only [Cl.cellsV,List.getElem?_cons_zero,List.getElem?_cons_succ]at q3 q4
      rw [HN.out.1]at q3 q4 q3f q4f
      have hS3:S3 Bx g (n0*6) x.2.value (W.drewN nq).drew:=⟨x4,⟨_,q3⟩,q3f,⟨_,q4⟩,q4f⟩
      refine startGIn (S3 Bx g (n0*6) x.2.value) 11 (by kernel_rfl) (by kernel_rfl) ?_
      have hgW2:W.grownBy (W.drewN nq).drew none:=⟨rfl,rfl,rfl,Nat.le_refl _,fun _ _ _=>rfl⟩
      have hkW2:KeepsOthers W (W.drewN nq).drew:=⟨Nat.le_refl _,fun _ _ hk _=>hk⟩
      generalize hW2:(W.drewN nq).drew=W2 at hgW2 hkW2 hS3⊢
      simp only [List.size_toArray,List.length_cons,List.length_nil,Nat.reduceAdd,Array.replicate_succ,Array.replicate_zero,List.push_toArray,List.nil_append,List.cons_append]
      refine takeS (i:=0) (v:= .pointer (some ⟨g,n0*6,none⟩)) rfl (by kernel_rfl) (by kernel_rfl) (by kernel_rfl) (by kernel_rfl) (fun _ _ _ h=>nomatch h.1) (Or.inl ⟨by rfl,fun W hW=>by obtain ⟨r1,⟨u3,r3⟩,r4,⟨u4,r5⟩,r6⟩:=hW;go_simp⟩) hS3 ?_
      simp only [Act.put,zA,zB,zC,zD,zE,zF]
      refine takeS (i:=1) (v:= .pointer (some ⟨g,n0*6,none⟩)) rfl (by kernel_rfl) (by kernel_rfl) (by kernel_rfl) (by kernel_rfl) (fun _ _ _ h=>nomatch h.1) (Or.inl ⟨by rfl,fun W hW=>by obtain ⟨r1,⟨u3,r3⟩,r4,⟨u4,r5⟩,r6⟩:=hW;go_simp⟩) hS3 ?_
      simp only [Act.put,zA,zB,zC,zD,zE,zF]
      refine takeS (i:=2) (v:= .int .i64 (x.1:Int)) rfl (by kernel_rfl) (by kernel_rfl) (by kernel_rfl) (by kernel_rfl) (fun _ _ _ h=>nomatch h.1) (Or.inl ⟨by rfl,fun W hW=>by obtain ⟨r1,⟨u3,r3⟩,r4,⟨u4,r5⟩,r6⟩:=hW;go_simp⟩) hS3 ?_
      simp only [Act.put,zA,zB,zC,zD,zE,zF]
      refine takeS (i:=3) (v:= .pointer (some ⟨Bx,4,none⟩)) rfl (by kernel_rfl) (by kernel_rfl) (by kernel_rfl) (by kernel_rfl) (fun _ _ _ h=>nomatch h.1) (Or.inl ⟨by rfl,fun W hW=>by obtain ⟨r1,⟨u3,r3⟩,r4,⟨u4,r5⟩,r6⟩:=hW;go_simp⟩) hS3 ?_
      simp only [Act.put,zA,zB,zC,zD,zE,zF]
      refine takeS (i:=4) (v:= .int .u32 x.2.value) rfl (by kernel_rfl) (by kernel_rfl) (by kernel_rfl) (by kernel_rfl) (fun _ _ _ h=>nomatch h.1) (Or.inl ⟨by rfl,fun W hW=>by obtain ⟨r1,⟨u3,r3⟩,r4,⟨u4,r5⟩,r6⟩:=hW;go_simp⟩) hS3 ?_
      simp only [Act.put,zA,zB,zC,zD,zE,zF]
      refine takeS (i:=5) (v:= .pointer (some ⟨g,n0*6,none⟩)) rfl (by kernel_rfl) (by kernel_rfl) (by kernel_rfl) (by kernel_rfl) (fun _ _ _ h=>nomatch h.1) (Or.inl ⟨by rfl,fun W hW=>by obtain ⟨r1,⟨u3,r3⟩,r4,⟨u4,r5⟩,r6⟩:=hW;go_simp⟩) hS3 ?_
      simp only [Act.put,zA,zB,zC,zD,zE,zF]
      refine takeS (i:=6) (v:= .pointer (some ⟨g,n0*6+3,none⟩)) rfl (by kernel_rfl) (by kernel_rfl) (by kernel_rfl) (by kernel_rfl) (fun _ _ _ h=>nomatch h.1) (Or.inl ⟨by rfl,fun W hW=>by obtain ⟨r1,⟨u3,r3⟩,r4,⟨u4,r5⟩,r6⟩:=hW;go_simp⟩) hS3 ?_
      simp only [Act.put,zA,zB,zC,zD,zE,zF]
      refine onlyG (i:=7) (by kernel_rfl) rfl ?_
      intro K hK
      simp only [zA,zC,zB]
      rw [if_pos (by rfl)]
      refine wp_store1 3 (.tmp 83) (.tmp 79) rfl g (n0*6+3) (.int .i64 (x.1:Int)) rfl rfl hS3.t3 (by kernel_rfl) rfl (hK.out _ _ (S3.set hS3 hBg) (fun hS3=>?_))
      clear hK K
      simp only [Act.put,zA,zB,zC,zD,zE,zF]
      refine takeS (i:=8) (v:= .pointer (some ⟨g,n0*6,none⟩)) rfl (by kernel_rfl) (by kernel_rfl) (by kernel_rfl) (by kernel_rfl) (fun _ _ _ h=>nomatch h.1) (Or.inl ⟨by rfl,fun W hW=>by obtain ⟨r1,⟨u3,r3⟩,r4,⟨u4,r5⟩,r6⟩:=hW;go_simp⟩) hS3 ?_
      simp only [Act.put,zA,zB,zC,zD,zE,zF]
      refine takeS (i:=9) (v:= .pointer (some ⟨g,n0*6+4,none⟩)) rfl (by kernel_rfl) (by kernel_rfl) (by kernel_rfl) (by kernel_rfl) (fun _ _ _ h=>nomatch h.1) (Or.inl ⟨by rfl,fun W hW=>by obtain ⟨r1,⟨u3,r3⟩,r4,⟨u4,r5⟩,r6⟩:=hW;go_simp⟩) hS3 ?_
      simp only [Act.put,zA,zB,zC,zD,zE,zF]
      refine onlyG (i:=10) (by kernel_rfl) rfl ?_
      intro K hK
      simp only [zA,zC,zB]
      rw [if_pos (by rfl)]
      refine wp_store1 42 (.tmp 85) (.tmp 81) rfl g (n0*6+4) (.int .u32 x.2.value) rfl rfl hS3.t4 (by kernel_rfl) rfl (hK.out _ _ (S3.set4 hS3 hBg) (fun hS3=>⟨by kernel_rfl,rfl,?_⟩))
      clear hK K
      simp only [Act.put,zA,zB,zC,zD,zE,zF]
      have hp2:Boxed W2 _ _ _:=blk_kept (cs:= #[.bool true]) hp hgW2 (fun r e=>by cases e)
      have hpf2:=hp2.frozen
      have hpc2:=hp2.cell
      gi_wp2
      have hge:W0.heap.size<=g:=own_ge hcm.row g rfl
      obtain ⟨hv,hp,ht,hot,hB1⟩:=HX.out
      rw [HN.out.1]at hv
      have kb: ∀(b:Nat) (ty:TypeId) (u:Value),b<W0.heap.size->Boxed W b ty u->Boxed ((W2.setCell ⟨g,n0*6+3,none⟩ (.int .i64 (x.1:Int))).setCell ⟨g,n0*6+4,none⟩ (.int .u32 x.2.value)) b ty u:=fun b ty u hb h=>
       Blk.far (Blk.far (blk_kept (cs:= #[u]) h hgW2 (fun r e=>by cases e)) (by show b≠g;omega) _) (by show b≠g;omega) _
      have hcf:=CM.fin (x.1:Int) x.2.value (hcm.non hgW2 (fun r e=>by cases e))
      rw [HN.out.1]at hcf
      have hst:callsF t (pre++[x])=(C0++[{c with ended:=(x.1:Int),result:=x.2.value}],false):=by
       have hst:=HS3.out
       rw [if_pos ⟨by trivial,HSI.out⟩]at hst
       rw [hst,modLast_snoc]
      have hbz:w.heap.size<=W.heap.size:=hB1.size
      have hbl: ∀{w9:World},Below w.heap.size w9 W->w.heap.size<=w9.heap.size->Below w.heap.size w9 (((W2.setCell ⟨g,n0*6+3,none⟩ (.int .i64 (x.1:Int))).setCell ⟨g,n0*6+4,none⟩ (.int .u32 x.2.value)).setCell ⟨w.heap.size+1+1,0,none⟩ (.bool false)):=fun h h9=>
       (((h.grown hgW2 hbz (fun r e=>by cases e)).setCell (p:=⟨g,n0*6+3,none⟩) (by show w.heap.size<=g;omega) _).setCell (p:=⟨g,n0*6+4,none⟩) (by show w.heap.size<=g;omega) _).setCell (p:=⟨w.heap.size+1+1,0,none⟩) (by show w.heap.size<=w.heap.size+1+1;omega) _
      have hot2:=(kb _ _ _ (by omega) hot).other (B':=w.heap.size+1+1) (by omega) (.bool false)
      refine ⟨(((hkW2.trans (KeepsOthers.setCell _ _ _)).trans (KeepsOthers.setCell _ _ _)).trans (KeepsOthers.setCell _ _ _)).from _,⟨hbl (Below.refl _ _) hbz,fun o' ho=>?_⟩,⟨⟨_,bl,I0++[lv],(kb _ _ _ (by omega) hv).other (by omega) _,?_⟩,?_,(kb _ _ _ (by omega) ht).other (by omega) _,hot2,hbl hB1 (Nat.le_refl _)⟩⟩
      ·have e:=hot.symm.trans ho
       rw [<-Option.some.inj e]
       exact hot2
      ·rw [hst]
       exact hcf.grown (set_only _) (by omega)
      ·rw [hst]
       exact (kb _ _ _ (by omega) hp).set _
     ·gi_upto_region 13 with fail
      have hS1:(c.site==x.2.k/2)=false:=by simpa using hsite
      have hS2:decide (c.site=x.2.k/2)=false:=by simpa using hsite
      refine quietIn (by kernel_rfl) (by kernel_rfl) (by kernel_rfl) ?_
      repeat (go_big_quiet_step (fail))
      refine wpQuiet_nil ?_
      intro _ hw'
      obtain ⟨nq,hw''⟩:=hw'
      subst hw''
      gi_wp2
      have fin:CI w t W0.heap.size (pre++[x]) W:=by
       obtain ⟨hv,hp,ht,hot,hB1⟩:=HX.out
       have hst:=HS3.out
       rw [if_neg (fun h=>hsite h.2)]at hst
       exact ⟨⟨_,bl,I0++[lv],hv,by rw [hst];exact HN.out.2⟩,by rw [hst];exact hp,ht,hot,hB1⟩
      exact ⟨(keeps_drewN W nq).from _,KpOfB.of_grown (grew_drewN W nq) HX.out.2.2.2.2.size (fun r e=>by cases e),ci_drewN nq fin⟩
  ·have hk1:(x.2.kind !=7)=true:=by simpa using hk
   by_cases ho:o=true/\x.2.kind≠3
   ·obtain ⟨rfl,hk3⟩:=ho
    have hk4:(x.2.kind !=3)=true:=by simpa using hk3
    obtain ⟨C0,c,rfl⟩: ∃C0 c,C=C0++[c]:=by
     rcases List.eq_nil_or_concat C with e|⟨C0,c,e⟩
     ·exact absurd e (bd3 rfl)
     ·exact ⟨C0,c,by rw [e,List.concat_eq_append]⟩
    obtain ⟨I0,lv,rfl⟩: ∃I0 lv,IV=I0++[lv]:=by
     rcases List.eq_nil_or_concat IV with e|⟨I0,lv,e⟩
     ·have :=hcm.il;rw [e]at this;simp at this
     ·exact ⟨I0,lv,by rw [e,List.concat_eq_append]⟩
    obtain ⟨g,cp,rfl⟩: ∃g cp,v= .slice (some ⟨g,0,none⟩) (C0.length+1) cp:=by
     rcases hcm.row.2 with ⟨_,e⟩|⟨g,cp,cur,e,_⟩
     ·simp at e
     ·exact ⟨g,cp,by rw [e,List.length_append];rfl⟩
    have hci:=bd2 c (by simp)
    obtain ⟨s1,s2,s3,s4⟩:=snoc_get hcm.il'
    have hlr:=hcm.inn C0.length (by simp)
    rw [s3,s4]at hlr
    have q5:=hcm.cell 5 (by omega)
    have q5f:=hcm.frozen (C0.length*6+5)
    simp only [Cl.cellsV,List.getElem?_cons_zero,List.getElem?_cons_succ]at q5
    have hn0:(0:Int)<=(C0.length:Int):=by omega
    have hcl:C0.length<=1000000000:=by simp at bd1;omega
    obtain ⟨n0,hn0'⟩: ∃n0,C0.length=n0:=⟨_,rfl⟩
    rw [hn0']at q5 q5f hn0 hc hcl
    have q5a:(W.alloc (.cells #[.int .i64 (x.1:Int)] 3)).cell? ⟨g,n0*6+5,none⟩=some lv:=by
     have :=(hcm.alloc (.cells #[.int .i64 (x.1:Int)] 3)).cell 5 (by omega)
     rw [hn0']at this
     simpa [Cl.cellsV]using this
    have HN:=Lib.hid (And.intro hn0' (And.intro hcm hlr))
    clear hn0'
    gi_wp2_with (gi_at_builtin;go_must (refine wpListIn_append_own_at _ rfl (.tmp 35) (.tmp 37) 70 rfl W0.heap.size 3 i0 (.int .i64 0) 1 8 Tryz.underlying70 hi hz0 hz1 hz2 rfl (by decide) _ _ _ rfl (hlr.alloc _) ⟨W.heap.size,0,none⟩ 1 1 [.int .i64 (x.1:Int)] rfl rfl (cell_one_new _ _ _) (by simp [Value.oneCell']) (by unfold maxLen;omega) (by omega) (Nat.le_trans hcm.b1 (Nat.le_trans hcm.b2 (by simp))) ?_;intro v' w1 hown' hgrow _ hnew;obtain ⟨z5,z5f⟩:=CM.later hcm hgrow;rw [HN.out.1]at z5 z5f;obtain ⟨lA,lc,rfl,q1,q2⟩:=own_sl hown';clear q1 q2))
    have hge:W0.heap.size<=g:=own_ge hcm.row g rfl
    have kb: ∀(b:Nat) (ty:TypeId) (u:Value),b<W0.heap.size->Boxed W b ty u->Boxed (w1.setCell ⟨g,n0*6+5,none⟩ (.slice lA (c.inner.length+1) lc)) b ty u:=fun b ty u hb h=>
     Blk.far (Blk.grow_own (Blk.alloc (cs:= #[u]) h _) (hlr.alloc _) hgrow hb) (by show b≠g;omega) _
    have hbz:w.heap.size<=W.heap.size:=hB1.size
    have hbl: ∀{w9:World},Below w.heap.size w9 W->w.heap.size<=w9.heap.size->Below w.heap.size w9 (w1.setCell ⟨g,n0*6+5,none⟩ (.slice lA (c.inner.length+1) lc)):=fun h h9=>
     (below_own (h.alloc hbz _) (hlr.alloc _) hgrow (by omega) h9).setCell (p:=⟨g,n0*6+5,none⟩) (by show w.heap.size<=g;omega) _
    have hcf:=CM.inner (z:=(x.1:Int)) hcm hgrow hown' hnew
    rw [HN.out.1]at hcf
    obtain ⟨hv,hp,ht,hot,hB1⟩:=HX.out
    have hst:callsF t (pre++[x])=(C0++[{c with inner:=c.inner++[(x.1:Int)]}],true):=by
     rw [HS.out]
     unfold cstep
     rw [if_pos hk,if_pos ⟨rfl,hk3⟩]
     dsimp only
     rw [modLast_snoc]
    refine ⟨((keeps_own hlr hgrow).trans (KeepsOthers.setCell _ _ _)).from _,⟨hbl (Below.refl _ _) hbz,fun o ho=>?_⟩,⟨⟨_,bl,I0++[.slice lA (c.inner.length+1) lc],kb _ _ _ (by omega) hv,?_⟩,?_,kb _ _ _ (by omega) ht,kb _ _ _ (by omega) hot,hbl hB1 (Nat.le_refl _)⟩⟩
    ·have e:=hot.symm.trans ho
     rw [<-Option.some.inj e]
     exact kb _ _ _ (by omega) hot
    ·rw [hst,HN.out.1]
     exact hcf
    ·rw [hst]
     exact kb _ _ _ (by omega) hp
   ·have hst:callsF t (pre++[x])=(C,o):=by
     rw [HS.out]
     unfold cstep
     rw [if_pos hk,if_neg ho]
    have HST:=Lib.hid hst
    clear hst
    have fin:CI w t W0.heap.size (pre++[x]) W:=by
     obtain ⟨hv,hp,ht,hot,hB1⟩:=HX.out
     exact ⟨⟨v,bl,IV,hv,by rw [HST.out];exact hcm⟩,by rw [HST.out];exact hp,ht,hot,hB1⟩
    have HF:=Lib.hid fin
    clear fin
    cases o
    ·gi_wp2
     exact ⟨KeepsFrom.refl _ _,KpOfB.refl _ _ _,HF.out⟩
    ·have hk3:x.2.kind=3:=by
      rcases Decidable.em (x.2.kind=3)with h|h
      ·exact h
      ·exact absurd ⟨rfl,h⟩ ho
     have hk4:(x.2.kind !=3)=false:=by simp [hk3]
     clear hk3
     gi_wp2
     exact ⟨KeepsFrom.refl _ _,KpOfB.refl _ _ _,HF.out⟩
 case done=>
  rintro D ys W hD rfl ⟨⟨v,bl,IV,hv,hcm⟩,hp,ht,hot,hB⟩ hK
  have hc:=hv.cell
  gi_wp2
  refine ⟨by simp,.inl ⟨_,_,rfl,run_takeDeferred hK,?_⟩⟩
  exact ⟨_,results_tmp rfl _ _ _,v,bl,IV,rfl,(hcm.non (grownBy_putObj' W D _) (fun r e=>by cases e;exact ⟨_,hK,rfl⟩)).weak (by omega),hB.trans (belowK_b (w:=w) (Nat.le_refl _) W D _ _ (by omega) hK rfl rfl)⟩
 case stop=>
  rintro D c pre W _ _ h _
  exact h.elim
end Go.Proofs.YtmhfpjnkjlhbpaaGreatDoor
