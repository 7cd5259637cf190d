/- trace.Calls: all threads' calls, in the order in which they began. append([]byte{}, x...): a slice of its own. -/
import Derived.Test.YtmhfpjnkjlhbpaaGreatDoorQj37
import Derived.Deep.LoopGhost
import Derived.Deep.CutRange
import Derived.Test.YtmhfpjnkjlhbpaaGreatDoorQj08
namespace Go.Proofs.YtmhfpjnkjlhbpaaGreatDoor
open Go.ChangeShapes Go.WideShapes Go.ChangeAt Go.RowKit Go.Deep
set_option linter.unusedVariables false
set_option maxRecDepth 100000
set_option linter.unusedSimpArgs false
def OneEnd (E:Nat->EvB) (len:Nat) (t:Nat) (w:World) (e:Ending) (W':World):Prop:=
 ∃A2 n2 c2 Z,e= .returned (.slice A2 n2 c2)/\Z.map (·.1)=(allC E len).filter (fun c=>c.who==(t:Int))/\PT W' w.heap.size W'.heap.size (.slice A2 n2 c2) Z/\(∀p∈Z,INN W' w.heap.size W'.heap.size p)/\Below w.heap.size w W'
theorem calls_one (A:Option Addr) (len cap:Nat) (E:Nat->EvB) (t:Nat) (ht:t<8) (hl:len<=1000000000) (w:World) (hs:SlE w A len 8 (fun i=>(E i).cells)):
 Calls Tryz.prog 67 #[.slice A len cap,.int .i64 (t:Int)] w (OneEnd E len t w):=
 ((callsIn_wide (n:=3)).1 (calls_in Fence.wide 3 trivial trivial trivial rfl (by omega) A len cap E (t:Int) hl w hs)).mono fun e W' ⟨v,bl,IV,he,hcm,hb⟩=>by
   obtain ⟨Z,h1,h2,h3⟩:=hcm.pt (lo:=w.heap.size) (hi:=W'.heap.size) (Nat.le_refl _) (Nat.le_refl _)
   rw [callsF_all E (t:Int) len (by omega) (by omega)]at h1
   obtain ⟨A2,c2,e2,_⟩:=id h2
   subst e2
   exact ⟨A2,_,c2,Z,he,h1,h2,h3,hb⟩
def PerB (W:World) (pb:Nat) (P:Nat->Value):Prop:=(∀t,t<8->W.cell? ⟨pb,t,none⟩=some (P t))/\ ∀t,W.frozen? ⟨pb,t,none⟩=false
def updP (P:Nat->Value) (k:Nat) (v:Value):Nat->Value:=fun t=>if t=k then v else P t
theorem PerB.set {W:World} {pb k:Nat} {P:Nat->Value} (h:PerB W pb P) (v:Value):PerB (W.setCell ⟨pb,k,none⟩ v) pb (updP P k v):=by
 refine ⟨fun t ht=>?_,fun t=>by rw [World.frozen?_setCell];exact h.2 t⟩
 unfold updP
 by_cases e:t=k
 ·subst e
  rw [if_pos rfl]
  exact World.cell?_setCell_same' _ _ _ (by rw [h.1 t ht];rfl)
 ·rw [if_neg e]
  refine (World.cell?_setCell_other _ _ _ _ (fun e'=>?_)).trans (h.1 t ht)
  injection e' with _ e1 _
  exact e e1.symm
theorem PerB.keep {W W':World} {pb:Nat} {P:Nat->Value} (h:PerB W pb P) (hk:W'.heap[pb]?=W.heap[pb]?):PerB W' pb P:=
 ⟨fun t ht=>(cell_same hk).trans (h.1 t ht),fun t=>(World.frozen?_of_block (w:=W) (a:=⟨pb,t,none⟩) hk).trans (h.2 t)⟩
def OneT (E:Nat->EvB) (len:Nat) (W:World) (lo:Nat) (v:Value) (t:Nat):Prop:=
 ∃Z,Z.map (·.1)=(allC E len).filter (fun c=>c.who==(t:Int))/\PT W lo W.heap.size v Z/\ ∀p∈Z,INN W lo W.heap.size p
theorem OneT.keep {E:Nat->EvB} {len lo t:Nat} {W W':World} {v:Value} (h:OneT E len W lo v t) (hk: ∀b,lo<=b->b<W.heap.size->W'.heap[b]?=W.heap[b]?) (hs:W.heap.size<=W'.heap.size):OneT E len W' lo v t:=by
 obtain ⟨Z,h1,h2,h3⟩:=h
 exact ⟨Z,h1,(h2.keep hk).wide hs,fun p hp=>((h3 p hp).keep hk).wide hs⟩
def Best (L:Nat->List CV) (j:Nat) (b:Value):Prop:=
 (b= .int .i64 (-1)/\ ∀t,t<j->L t=[])∨ ∃m:Nat,b= .int .i64 (m:Int)/\m<j/\ ∃p r,L m=p::r/\ ∀t,t<j-> ∀q r',L t=q::r'->p.1.began<=q.1.began
structure MI (pb:Nat) (w w2:World) (hi:Nat) (RV done rest:List CV) (P:Nat->Value) (o:Value):Prop where
 eq:RV=done++rest
 row:w2.ownsRow hi 72 6 o done.length (done.flatMap CV.cells)
 per:PerB w2 pb P
 pts: ∀t:Nat,t<8->PT w2 (pb+1) hi (P t) (rest.filter fun p=>p.1.who==(t:Int))
 inn: ∀p∈RV,INN w2 (pb+1) hi p
 below:Below pb w w2
 lo:pb<hi
 hiz:hi<=w2.heap.size
def lft (rest:List CV) (t:Nat):List CV:=rest.filter fun p=>p.1.who==(t:Int)
theorem best_skip {L:Nat->List CV} {j:Nat} {b:Value} (h:Best L j b) (hL:L j=[]):Best L (j+1) b:=by
 rcases h with ⟨e,h⟩|⟨m,e,hm,p,r,hp,h⟩
 ·refine .inl ⟨e,fun t ht=>?_⟩
  rcases Nat.lt_succ_iff_lt_or_eq.1 ht with h1|rfl
  ·exact h t h1
  ·exact hL
 ·refine .inr ⟨m,e,by omega,p,r,hp,fun t ht q r' hq=>?_⟩
  rcases Nat.lt_succ_iff_lt_or_eq.1 ht with h1|rfl
  ·exact h t h1 q r' hq
  ·rw [hL]at hq;cases hq
theorem best_first {L:Nat->List CV} {j:Nat} {q:CV} {r:List CV} (h: ∀t,t<j->L t=[]) (hL:L j=q::r):Best L (j+1) (.int .i64 (j:Int)):=by
 refine .inr ⟨j,rfl,by omega,q,r,hL,fun t ht q' r' hq=>?_⟩
 rcases Nat.lt_succ_iff_lt_or_eq.1 ht with h1|rfl
 ·rw [h t h1]at hq;cases hq
 ·rw [hL]at hq
  cases hq
  omega
theorem best_new {L:Nat->List CV} {j m:Nat} {p q:CV} {r r0:List CV} (hm:L m=p::r0) (h: ∀t,t<j-> ∀q r',L t=q::r'->p.1.began<=q.1.began) (hL:L j=q::r) (hlt:q.1.began<p.1.began):Best L (j+1) (.int .i64 (j:Int)):=by
 refine .inr ⟨j,rfl,by omega,q,r,hL,fun t ht q' r' hq=>?_⟩
 rcases Nat.lt_succ_iff_lt_or_eq.1 ht with h1|rfl
 ·have :=h t h1 q' r' hq;omega
 ·rw [hL]at hq
  cases hq
  omega
theorem best_old {L:Nat->List CV} {j m:Nat} {p q:CV} {r r0:List CV} (hmj:m<j) (hm:L m=p::r0) (h: ∀t,t<j-> ∀q r',L t=q::r'->p.1.began<=q.1.began) (hL:L j=q::r) (hlt: ¬q.1.began<p.1.began):Best L (j+1) (.int .i64 (m:Int)):=by
 refine .inr ⟨m,rfl,by omega,p,r0,hm,fun t ht q' r' hq=>?_⟩
 rcases Nat.lt_succ_iff_lt_or_eq.1 ht with h1|rfl
 ·exact h t h1 q' r' hq
 ·rw [hL]at hq
  cases hq
  omega
theorem PT.first {W:World} {lo hi:Nat} {v:Value} {p:CV} {l:List CV} (h:PT W lo hi v (p::l)): ∃b off cap,v= .slice (some ⟨b,off,none⟩) (l.length+1) cap/\l.length+1<=cap/\cap<=maxLen/\lo<=b/\b<hi/\
 W.cell? ⟨b,off,none⟩=some (.int .i64 p.1.site)/\W.cell? ⟨b,off+1,none⟩=some (.int .i64 p.1.who)/\W.cell? ⟨b,off+2,none⟩=some (.int .i64 p.1.began)/\W.cell? ⟨b,off+3,none⟩=some (.int .i64 p.1.ended)/\W.cell? ⟨b,off+4,none⟩=some (.int .u32 p.1.result)/\W.cell? ⟨b,off+5,none⟩=some p.2:=by
 obtain ⟨A,cap,e,h1,h2,h3⟩:=h
 obtain ⟨b,off,rfl,hb1,hb2,h4⟩:=h3 (by simp)
 have hc: ∀j u,(p.1.cellsV p.2)[j]?=some u->W.cell? ⟨b,off+j,none⟩=some u:=fun j u hu=>by
  have :=h4 0 (by simp) j u hu
  rwa [Nat.zero_mul,Nat.add_zero]at this
 exact ⟨b,off,cap,e,h1,h2,hb1,hb2,hc 0 _ rfl,hc 1 _ rfl,hc 2 _ rfl,hc 3 _ rfl,hc 4 _ rfl,hc 5 _ rfl⟩
theorem own_pt {W:World} {base lo hi:Nat} {v:Value} {l:List CV} (h:W.ownsRow base 72 6 v l.length (l.flatMap CV.cells)) (h1:lo<=base) (h2:W.heap.size<=hi):PT W lo hi v l:=by
 obtain ⟨A,cap,e,hc1,hc2⟩:=own_cap h
 refine ⟨A,cap,e,hc1,hc2,fun hp=>?_⟩
 rcases h.2 with ⟨rfl,e0⟩|⟨g,cap',cur,e0,hg,hh,_⟩
 ·omega
 ·rw [e0]at e
  simp only [Value.slice.injEq]at e
  obtain ⟨rfl,_,_⟩:=e
  have hlt:g<W.heap.size:=own_lt h g (by rw [e0];rfl)
  refine ⟨g,0,rfl,by omega,by omega,fun i hi j u hu=>?_⟩
  have hj:j<6:=(List.getElem?_eq_some_iff.1 hu).1
  rw [e0]at h
  rw [Nat.zero_add,World.ownsRow.cellAt h _ (by omega),flat_get CV.cells 6 (fun _=>rfl) cv0 l i hi j hj]
  exact hu
theorem best_nil {b:Value} (h:Best (lft []) 8 b):b= .int .i64 (-1):=by
 rcases h with ⟨e,_⟩|⟨m,e,hm,p,r,hp,_⟩
 ·exact e
 ·cases hp
theorem best_is {RV done rest:List CV} {p0:CV} {b:Value} (hR:RV=done++p0::rest) (hs:RV.Pairwise (fun a b=>a.1.began<b.1.began)) (hw: ∀p∈RV,0<=p.1.who/\p.1.who<8) (h:Best (lft (p0::rest)) 8 b):
 ∃m:Nat,b= .int .i64 (m:Int)/\m<8/\p0.1.who=(m:Int):=by
 obtain ⟨w0,w8⟩:=hw p0 (by rw [hR];simp)
 have hm0:lft (p0::rest) p0.1.who.toNat=p0::lft rest p0.1.who.toNat:=by
  unfold lft
  rw [List.filter_cons_of_pos (by simp;omega)]
 rcases h with ⟨_,hno⟩|⟨m,e,hm,p,r,hp,hle⟩
 ·have :=hno p0.1.who.toNat (by omega)
  rw [hm0]at this
  cases this
 ·have hp2:p∈lft (p0::rest) m:=by rw [hp];simp
  unfold lft at hp2
  obtain ⟨hp3,hp4⟩:=List.mem_filter.1 hp2
  have hpw:p.1.who=(m:Int):=by simpa using hp4
  have hb:=hle p0.1.who.toNat (by omega) _ _ hm0
  rcases List.mem_cons.1 hp3 with rfl|hp3
  ·exact ⟨m,e,hm,hpw⟩
  ·rw [hR]at hs
   have :=(List.pairwise_cons.1 (List.pairwise_append.1 hs).2.1).1 p hp3
   omega
theorem MI.drewN {pb hi:Nat} {w w2:World} {RV done rest:List CV} {P:Nat->Value} {o:Value} (h:MI pb w w2 hi RV done rest P o) (n:Nat):MI pb w (w2.drewN n) hi RV done rest P o:=
 ⟨h.eq,h.row,h.per.keep rfl,fun t ht=>(h.pts t ht).keep fun _ _ _=>rfl,fun p hp=>(h.inn p hp).keep fun _ _ _=>rfl,h.below.grown (grew_drewN w2 n) (Nat.le_of_lt (Nat.lt_of_lt_of_le h.lo h.hiz)) (fun r e=>by cases e),h.lo,h.hiz⟩
theorem grow_keep {W w5:World} {base:Nat} {e:TypeId} {size n:Nat} {v:Value} {xs:List Value} {o:Obj} (h:W.ownsRow base e size v n xs) (hg:(W.alloc o).grownBy w5 v.ownBlock) (hb:base<=W.heap.size): ∀b,b<base->w5.heap[b]?=W.heap[b]?:=fun b hlt=>
 (hg.block b (by simp;omega) (fun e0=>by have :=own_ge h b e0.symm;omega)).trans (Below.heap_alloc W o b (by omega))
def TCalls (E:Nat->EvB) (len:Nat) (w:World) (e:Ending) (W':World):Prop:=
 ∃v RV,e= .returned v/\RV.map (·.1)=allC E len/\PT W' w.heap.size W'.heap.size v RV/\(∀p∈RV,INN W' w.heap.size W'.heap.size p)/\Below w.heap.size w W'
theorem slice_info:(Tryz.prog.info? 68).map (fun i=>(i.zero,i.size,i.bytes))=some (some (.slice none 0 0),1,24):=by kernel_rfl
theorem run_make_per: ∀w:World,(Instr.makeSlice 152 (.int .i64 8) (.int .i64 8)).run Tryz.prog w=
 .ok (.slice (some ⟨w.heap.size,0,none⟩) 8 8) (w.alloc (.cells (madeCells #[.slice none 0 0] 8) 68)):=fun w=>by
 obtain ⟨i,hi,hz,hs,hb⟩:=info_parts slice_info
 have hb2:(i.bytes:Int)*((8:Nat):Int)<=281474976710656:=by rw [hb];omega
 have hr:=run_make (P:=Tryz.prog) w 152 68 i _ Tryz.underlying152 hi hz .i64 .i64 8 8 (by omega) (by omega) hb2 (by omega)
 rw [hs,Nat.mul_one]at hr
 exact hr
set_option maxRecDepth 100000 in
set_option maxHeartbeats 4000000 in
theorem tcalls_any (A:Option Addr) (len cap:Nat) (E:Nat->EvB) (hl:len<=1000000000) (w:World) (hs:SlE w A len 8 (fun i=>(E i).cells)):
 Calls Tryz.prog 31 #[.slice A len cap] w (TCalls E len w):=by
 obtain ⟨M,hM⟩: ∃M,madeCells #[Value.slice none 0 0] 8=M:=⟨_,rfl⟩
 have hmk: ∀w:World,(Instr.makeSlice 152 (.int .i64 8) (.int .i64 8)).run Tryz.prog w= .ok (.slice (some ⟨w.heap.size,0,none⟩) 8 8) (w.alloc (.cells M 68)):=fun w=>hM▸run_make_per w
 have hP0:PerB (w.alloc (.cells M 68)) w.heap.size (fun _=> .slice none 0 0):=by
  refine ⟨fun t ht=>?_,fun t=>(Blk.new w 68 M).frozen t⟩
  rw [(Blk.new w 68 M).cell t,<-hM]
  simp [madeCells,ht,Nat.mod_one]
 have hB0:=(Below.refl w.heap.size w).alloc (Nat.le_refl _) (.cells M 68)
 have hz0:w.heap.size<(w.alloc (.cells M 68)).heap.size:=by simp
 obtain ⟨j0,ji,jz0,jz1,jz2⟩:=info_parts call_info
 have HS:=Lib.hid hs
 clear hs hM
 go_enter Tryz.func31,Tryz.ntmps31
 go_wp2
 clear hmk
 generalize w.alloc (.cells M 68)=Wa at hP0 hB0 hz0⊢
 go_loopw [11] (fun i wr=> ∃(k:Nat) (P:Nat->Value),k<=8/\i= .int .i64 (k:Int)/\PerB wr w.heap.size P/\(∀t,t<k->OneT E len wr (w.heap.size+1) (P t) t)/\w.heap.size<wr.heap.size/\Below w.heap.size w wr) (fun i _=>8-(intOf i).toNat)
 case atStart=>exact ⟨0,_,by omega,rfl,hP0,fun t ht=>absurd ht (by omega),hz0,hB0⟩
 case round=>
  clear hP0 hB0 hz0
  obtain ⟨k,P,hk,rfl,hPer,hOne,hz,hB⟩:=hrel
  by_cases hlt:k<8
  ·have hlt':(k:Int)<8:=by omega
   have hk0:(0:Int)<=(k:Int):=by omega
   have cC:=calls_one A len cap E k hlt hl wr (SlE.below HS.out (Nat.le_refl _) hB)
   have hfz:=hPer.2 k
   have hcl:=hPer.1 k hlt
   have HX:=Lib.hid (And.intro hPer hOne)
   clear hPer hOne
   go_wp2_with (refine cC.mono ?_;clear cC;rintro e w4 ⟨A2,n2,c2,Z,rfl,hZ,hpt,hin,hb4⟩;have HZ:=Lib.hid (And.intro hZ (And.intro hpt hin));clear hZ hpt hin;have hcl4:=(bcell hb4).1 w.heap.size k hz;rw [hcl]at hcl4;have hfz4:=(bcell hb4).2 w.heap.size k hz;rw [hfz]at hfz4)
   obtain ⟨hPer,hOne⟩:=HX.out
   obtain ⟨hZ,hpt,hin⟩:=HZ.out
   have h4z:=hb4.size
   have hk4: ∀b,w.heap.size+1<=b->(w4.setCell ⟨w.heap.size,k,none⟩ (.slice A2 n2 c2)).heap[b]?=w4.heap[b]?:=fun b hb=>Below.heap_setCell w4 ⟨w.heap.size,k,none⟩ _ b (by intro e;dsimp only at e;omega)
   have h5z:(w4.setCell ⟨w.heap.size,k,none⟩ (.slice A2 n2 c2)).heap.size=w4.heap.size:=by simp [World.setCell]
   go_roundw
   case measure=>simp [intOf];omega
   case rel=>
    refine ⟨k+1,updP P k (.slice A2 n2 c2),by omega,by go_num,(hPer.keep (hb4.block _ hz)).set _,fun t ht=>?_,by omega,(hB.trans (hb4.mono hB.size)).setCell (Nat.le_refl _) _⟩
    unfold updP
    by_cases e:t=k
    ·subst e
     rw [if_pos rfl]
     refine ⟨Z,hZ,?_,fun p hp=>?_⟩
     ·rw [h5z]
      exact (PT.lower hpt (by omega)).keep fun b h1 _=>hk4 b h1
     ·rw [h5z]
      exact (INN.lower (hin p hp) (by omega)).keep fun b h1 _=>hk4 b h1
    ·rw [if_neg e]
     exact (hOne t (by omega)).keep (fun b h1 h2=>(hk4 b h1).trans (hb4.block b h2)) (by omega)
  ·obtain rfl:k=8:=by omega
   obtain ⟨Z,hZ⟩:=Go.Deep.choose_lt (p:=fun t Z=>Z.map (·.1)=(allC E len).filter (fun c=>c.who==(t:Int))/\PT wr (w.heap.size+1) wr.heap.size (P t) Z/\ ∀p∈Z,INN wr (w.heap.size+1) wr.heap.size p) hOne
   obtain ⟨RV,hR1,hR2,hR3⟩:=all_of_each (allC E len) (allC_sorted E len) (allC_who E len) (INN wr (w.heap.size+1) wr.heap.size) Z (fun t ht=>(hZ t ht).1) (fun t ht=>(hZ t ht).2.2)
   have hRs:RV.Pairwise (fun a b=>a.1.began<b.1.began):=by
    have :=allC_sorted E len
    rw [<-hR1,List.pairwise_map]at this
    exact this
   have hRw: ∀p∈RV,0<=p.1.who/\p.1.who<8:=fun p hp=>allC_who E len p.1 (by rw [<-hR1];exact List.mem_map_of_mem hp)
   have hRl:RV.length<=len:=by
    have :=allC_len E len
    rw [<-hR1,List.length_map]at this
    exact this
   have hMI:MI w.heap.size w wr wr.heap.size RV [] RV P (.slice none 0 0):=
    ⟨rfl,⟨rfl,.inl ⟨rfl,rfl⟩⟩,hPer,fun t ht=>by rw [hR2 t ht];exact (hZ t ht).2.1,hR3,hB,hz,Nat.le_refl _⟩
   obtain ⟨hi,hhi⟩: ∃hi,wr.heap.size=hi:=⟨_,rfl⟩
   rw [hhi]at hMI
   have HR:=Lib.hid (And.intro hR1 (And.intro hRs hRw))
   clear hZ hR1 hR2 hR3 hRs hRw hPer hOne hB hz hhi
   go_wp2
   go_loopg [5] RV.length (fun gk o w2=> ∃(done rest:List CV) (P:Nat->Value),MI w.heap.size w w2 hi RV done rest P o/\rest.length=gk)
   case atStart=>exact ⟨[],RV,P,hMI,rfl⟩
   case round=>
    clear hMI
    obtain ⟨done,rest,P,hMI,hgk⟩:=hrel
    have HG:=Lib.hid hgk
    clear hgk
    go_wp2
    go_loopw [6,23] (fun b i w3=> ∃(j n:Nat),j<=8/\i= .int .i64 (j:Int)/\w3=wr.drewN n/\Best (lft rest) j b) (fun _ i _=>8-(intOf i).toNat)
    case atStart=>exact ⟨0,0,by omega,rfl,rfl,.inl ⟨rfl,fun t ht=>absurd ht (by omega)⟩⟩
    case round=>
     obtain ⟨j,n,hj,rfl,rfl,hbest⟩:=hrel
     by_cases hlt:j<8
     ·have hlt':(j:Int)<8:=by omega
      have hj0:(0:Int)<=(j:Int):=by omega
      have hcl:=hMI.per.1 j hlt
      obtain ⟨Aj,cj,ej,hj1,hj2,hj3⟩:=hMI.pts j hlt
      rw [ej]at hcl
      rcases hL:lft rest j with _|⟨q,r'⟩
      ·have hL':=hL
       unfold lft at hL'
       rw [hL']at hcl
       have HB:=Lib.hid (And.intro hbest hL)
       clear hbest hL hL' hj1 hj2 hj3 ej
       dsimp only [List.length_nil]at hcl
       go_upto_region 12 with fail
       go_quiet (fail)
       go_wp2
       go_roundw
       case measure=>simp [intOf];omega
       case rel=>exact ⟨j+1,n+nq,by omega,by go_num,rfl,best_skip HB.out.1 HB.out.2⟩
      ·have hPj:=hMI.pts j hlt
       unfold lft at hL
       rw [hL]at hPj
       obtain ⟨bj,oj,cj',ej',e1,e2,e3,e4,_,_,bgj,_,_,_⟩:=hPj.first
       rw [ej]at ej'
       rw [ej']at hcl
       clear e1 e2 e3 e4 hj1 hj2 hj3 ej ej' hPj
       generalize r'.length=nj at hcl
       have hnj:(0:Int)<(nj:Int)+1:=by omega
       rcases hbest with ⟨rfl,hno⟩|⟨m,rfl,hm,p,r,hLm,hle⟩
       ·have HB:=Lib.hid (And.intro hno hL)
        clear hno hL bgj
        go_upto_region 12 with fail
        go_quiet (fail)
        go_wp2
        go_roundw
        case measure=>simp [intOf];omega
        case rel=>exact ⟨j+1,n+nq,by omega,by go_num,rfl,best_first HB.out.1 HB.out.2⟩
       ·have hclm:=hMI.per.1 m (by omega)
        have hPm:=hMI.pts m (by omega)
        unfold lft at hLm
        rw [hLm]at hPm
        obtain ⟨bm,om,cm,em,e1,e2,e3,e4,_,_,bgm,_,_,_⟩:=hPm.first
        rw [em]at hclm
        clear e1 e2 e3 e4 hPm em
        generalize r.length=nm at hclm
        have hnm:(0:Int)<(nm:Int)+1:=by omega
        have hm0: ¬(m:Int)<0:=by omega
        have hm1:(0:Int)<=(m:Int):=by omega
        have hm8:(m:Int)<8:=by omega
        have hm8':m<8:=by omega
        have HB:=Lib.hid (And.intro hLm (And.intro hle hL))
        clear hLm hle hL
        by_cases hq:q.1.began<p.1.began
        ·go_upto_region 12 with fail
         go_quiet (fail)
         go_wp2
         go_roundw
         case measure=>simp [intOf];omega
         case rel=>exact ⟨j+1,n+nq,by omega,by go_num,rfl,best_new HB.out.1 HB.out.2.1 HB.out.2.2 hq⟩
        ·go_upto_region 12 with fail
         go_quiet (fail)
         go_wp2
         go_roundw
         case measure=>simp [intOf];omega
         case rel=>exact ⟨j+1,n+nq,by omega,by go_num,rfl,best_old hm HB.out.1 HB.out.2.1 HB.out.2.2 hq⟩
     ·obtain rfl:j=8:=by omega
      rcases rest with _|⟨p0,rest⟩
      ·obtain rfl:=best_nil hbest
       go_wp2
       go_ret
       have hR:RV=done:=by have :=hMI.eq;simpa using this
       subst hR
       exact ⟨_,RV,rfl,HR.out.1,(own_pt hMI.row (Nat.le_of_lt hMI.lo) (Nat.le_refl _)).keep fun _ _ _=>rfl,fun p hp=>(((hMI.inn p hp).lower (Nat.le_succ _)).wide hMI.hiz).keep fun _ _ _=>rfl,(hMI.drewN n).below⟩
      ·obtain ⟨m,rfl,hm8,hpm⟩:=best_is hMI.eq HR.out.2.1 HR.out.2.2 hbest
       have hMI2:=hMI.drewN n
       clear hMI hbest
       generalize wr.drewN n=W2 at hMI2⊢
       have hP:=hMI2.pts m hm8
       rw [each_tail p0 rest (by omega) m,if_pos (by omega)]at hP
       obtain ⟨bm,om,cm,em,e1,e2,e3,e4,f0,f1,f2,f3,f4,f5⟩:=hP.first
       have hclm:=hMI2.per.1 m hm8
       rw [em]at hclm hP
       obtain ⟨Ai,ci,eiv,hil,_⟩:=hMI2.inn p0 (by rw [hMI2.eq];simp)
       obtain ⟨⟨site,who,began,ended,result,inner⟩,iv⟩:=p0
       dsimp only at f0 f1 f2 f3 f4 f5 eiv hpm hil
       subst eiv
       have hrow:=hMI2.row
       have hiz:=hMI2.hiz
       have hpb:=hMI2.lo
       have hdl:done.length<=1000000000:=by
        have :=congrArg List.length hMI2.eq
        rw [List.length_append]at this
        omega
       obtain ⟨nm,hnm⟩: ∃nm,nm=(rest.filter fun p=>p.1.who==(m:Int)).length:=⟨_,rfl⟩
       rw [<-hnm]at hclm e1 hP
       have HNM:=Lib.hid hnm
       clear hnm
       have HM:=Lib.hid (And.intro hMI2 (And.intro hP hpm))
       have hm0: ¬(m:Int)<0:=by omega
       have hm1:(0:Int)<=(m:Int):=by omega
       have hm8':(m:Int)<8:=by omega
       clear hMI2 hP hpm em
       obtain ⟨dl,hdl2⟩: ∃dl,done.length=dl:=⟨_,rfl⟩
       rw [hdl2]at hrow hdl
       have HD:=Lib.hid hdl2
       clear hdl2
       obtain ⟨il,hil2⟩: ∃il,inner.length=il:=⟨_,rfl⟩
       rw [hil2]at f5 hil
       by_cases hcm:cm=1
       ·subst hcm
        obtain rfl:nm=0:=by omega
        go_wp2_with (at_builtin;go_must (refine wpList_append_own_at _ rfl (.tmp 58) (.tmp 65) 68 rfl hi 72 j0 _ 6 64 Tryz.underlying68 ji jz0 jz1 jz2 rfl (by decide) _ _ _ rfl (hrow.alloc _) ⟨W2.heap.size,0,none⟩ 1 1 [.int .i64 site,.int .i64 who,.int .i64 began,.int .i64 ended,.int .u32 result,.slice Ai il ci] rfl rfl (cells_new W2 _ _) (by simp [Value.oneCell']) (by unfold maxLen;omega) (by omega) (Nat.le_trans hiz (by simp)) ?_;intro v' w5 hown5 hg5 _ hnew;have hk5:=grow_keep hrow hg5 hiz;have hclm5:=(cell_same (o:=m) (hk5 _ hpb)).trans hclm;have hfm5:=(HM.out.1.per.keep (hk5 _ hpb)).2 m;have hz5:=hg5.size;simp only [World.size_alloc]at hz5;have HK:=Lib.hid hk5;clear hk5))
        obtain ⟨hMI2,hP,hpm⟩:=HM.out
        rw [HD.out.symm]at hown5
        subst hil2
        go_roundg rest.length
        case measure=>rw [<-HG.out];simp
        case rel=>
         refine ⟨done++[(⟨site,who,began,ended,result,inner⟩,.slice Ai inner.length ci)],rest,updP P m (.slice (some ⟨bm,om,none⟩) 0 0),⟨?_,?_,PerB.set (hMI2.per.keep (HK.out _ hpb)) _,fun t ht=>?_,fun p hp=>?_,?_,hpb,?_⟩,rfl⟩
         ·rw [hMI2.eq];simp
         ·rw [List.length_append,List.flatMap_append]
          exact own_grown hown5 (set_only _) hpb
         ·have hk6: ∀b,w.heap.size+1<=b->b<hi->(w5.setCell ⟨w.heap.size,m,none⟩ (.slice (some ⟨bm,om,none⟩) 0 0)).heap[b]?=W2.heap[b]?:=fun b h1 h2=>(Below.heap_setCell w5 ⟨w.heap.size,m,none⟩ _ b (by intro e;dsimp only at e;omega)).trans (HK.out b h2)
          unfold updP
          by_cases e:t=m
          ·subst e
           rw [if_pos rfl]
           have :=hP.tail (n:=0) HNM.out
           rw [if_pos rfl]at this
           exact this.keep hk6
          ·rw [if_neg e]
           have :=hMI2.pts t ht
           rw [each_tail _ rest (by dsimp only;omega) t,if_neg (by dsimp only;omega)]at this
           exact this.keep hk6
         ·exact (hMI2.inn p hp).keep fun b h1 h2=>(Below.heap_setCell w5 ⟨w.heap.size,m,none⟩ _ b (by intro e;dsimp only at e;omega)).trans (HK.out b h2)
         ·exact (below_own (hMI2.below.alloc (by omega) _) (hrow.alloc _) hg5 (by omega) (by omega)).setCell (Nat.le_refl _) _
         ·show hi<=(w5.setCell ⟨w.heap.size,m,none⟩ (.slice (some ⟨bm,om,none⟩) 0 0)).heap.size
          rw [show (w5.setCell ⟨w.heap.size,m,none⟩ (.slice (some ⟨bm,om,none⟩) 0 0)).heap.size=w5.heap.size by simp [World.setCell]]
          omega
       ·go_wp2_with (at_builtin;go_must (refine wpList_append_own_at _ rfl (.tmp 58) (.tmp 65) 68 rfl hi 72 j0 _ 6 64 Tryz.underlying68 ji jz0 jz1 jz2 rfl (by decide) _ _ _ rfl (hrow.alloc _) ⟨W2.heap.size,0,none⟩ 1 1 [.int .i64 site,.int .i64 who,.int .i64 began,.int .i64 ended,.int .u32 result,.slice Ai il ci] rfl rfl (cells_new W2 _ _) (by simp [Value.oneCell']) (by unfold maxLen;omega) (by omega) (Nat.le_trans hiz (by simp)) ?_;intro v' w5 hown5 hg5 _ hnew;have hk5:=grow_keep hrow hg5 hiz;have hclm5:=(cell_same (o:=m) (hk5 _ hpb)).trans hclm;have hfm5:=(HM.out.1.per.keep (hk5 _ hpb)).2 m;have hz5:=hg5.size;simp only [World.size_alloc]at hz5;have HK:=Lib.hid hk5;clear hk5))
        obtain ⟨hMI2,hP,hpm⟩:=HM.out
        rw [HD.out.symm]at hown5
        subst hil2
        go_roundg rest.length
        case measure=>rw [<-HG.out];simp
        case rel=>
         refine ⟨done++[(⟨site,who,began,ended,result,inner⟩,.slice Ai inner.length ci)],rest,updP P m (.slice (some ⟨bm,om+6,none⟩) nm (cm-1)),⟨?_,?_,PerB.set (hMI2.per.keep (HK.out _ hpb)) _,fun t ht=>?_,fun p hp=>?_,?_,hpb,?_⟩,rfl⟩
         ·rw [hMI2.eq];simp
         ·rw [List.length_append,List.flatMap_append]
          exact own_grown hown5 (set_only _) hpb
         ·have hk6: ∀b,w.heap.size+1<=b->b<hi->(w5.setCell ⟨w.heap.size,m,none⟩ (.slice (some ⟨bm,om+6,none⟩) nm (cm-1))).heap[b]?=W2.heap[b]?:=fun b h1 h2=>(Below.heap_setCell w5 ⟨w.heap.size,m,none⟩ _ b (by intro e;dsimp only at e;omega)).trans (HK.out b h2)
          unfold updP
          by_cases e:t=m
          ·subst e
           rw [if_pos rfl]
           have :=hP.tail (n:=nm) HNM.out
           rw [if_neg (by omega)]at this
           exact this.keep hk6
          ·rw [if_neg e]
           have :=hMI2.pts t ht
           rw [each_tail _ rest (by dsimp only;omega) t,if_neg (by dsimp only;omega)]at this
           exact this.keep hk6
         ·exact (hMI2.inn p hp).keep fun b h1 h2=>(Below.heap_setCell w5 ⟨w.heap.size,m,none⟩ _ b (by intro e;dsimp only at e;omega)).trans (HK.out b h2)
         ·exact (below_own (hMI2.below.alloc (by omega) _) (hrow.alloc _) hg5 (by omega) (by omega)).setCell (Nat.le_refl _) _
         ·show hi<=(w5.setCell ⟨w.heap.size,m,none⟩ (.slice (some ⟨bm,om+6,none⟩) nm (cm-1))).heap.size
          rw [show (w5.setCell ⟨w.heap.size,m,none⟩ (.slice (some ⟨bm,om+6,none⟩) nm (cm-1))).heap.size=w5.heap.size by simp [World.setCell]]
          omega
end Go.Proofs.YtmhfpjnkjlhbpaaGreatDoor
