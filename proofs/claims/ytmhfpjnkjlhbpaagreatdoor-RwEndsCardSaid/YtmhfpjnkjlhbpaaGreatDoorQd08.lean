/- A machine (sc.Machine, tso.Machine) in memory: its block, its rows (codes, threads, buffers, memory, sleepers, events), and what stays where one of them is another one. The machines in plain Lean: what their ports do, what a pick does, what picks do one behind the other. -/
import Derived.Test.YtmhfpjnkjlhbpaaGreatDoorQd07
namespace Go.Proofs.YtmhfpjnkjlhbpaaGreatDoor
open Go.ChangeShapes Go.WideShapes Go.ChangeAt Go.RowKit Go.Deep
set_option linter.unusedVariables false
set_option maxRecDepth 100000
set_option linter.unusedSimpArgs false
open List renaming set_cons_zero->zE,set_cons_succ->zF
def ety:Nat->TypeId
 |0=>50
 |1=>124
 |2=>114
 |3=>42
 |4=>213
 |_=>65
def esz:Nat->Nat
 |0=>1
 |1=>10
 |2=>35
 |3=>1
 |4=>2
 |_=>8
theorem ety_ne: ∀i,i<6-> ∀j,j<6->i≠j->ety i≠ety j:=by decide
structure Mst where
 ths:List Th
 bufs:List (List Ent)
 mem:List Int
 slp:List Slp
 evs:List Evt
 who:Int
structure MB where
 mb:Nat
 codes:List Cd
 room:Int
 m:Nat
def updV (V:Nat->Value) (j:Nat) (v:Value):Nat->Value:=fun i=>if i=j then v else V i
theorem updV_self (V:Nat->Value) (j:Nat) (v:Value):updV V j v j=v:=if_pos rfl
theorem updV_ne (V:Nat->Value) {j i:Nat} (v:Value) (h:i≠j):updV V j v i=V i:=if_neg h
theorem updV_same (V:Nat->Value) (j:Nat):updV V j (V j)=V:=by
 funext i
 unfold updV
 split
 ·rename_i h;rw [h]
 ·rfl
structure Lay where
 tm:TypeId
 has:Nat->Bool
 pos:Nat->Nat
 arr:(Nat->Value)->Int->Array Value
 get: ∀V x j,j<6->has j=true->(arr V x)[pos j]?=some (V j)
 set: ∀V x j v,j<6->has j=true->(arr V x).setIfInBounds (pos j) v=arr (updV V j v) x
 ne: ∀j,j<6->tm≠ety j
 ni:tm≠75
def cnt (B:MB) (s:Mst):Nat->Nat
 |0=>B.codes.length
 |1=>s.ths.length
 |2=>s.bufs.length
 |3=>s.mem.length
 |4=>s.slp.length
 |_=>s.evs.length
def cel (B:MB) (s:Mst) (bcs:List (Array Value)):Nat->List Value
 |0=>B.codes.map Cd.val
 |1=>s.ths.flatMap Th.cells
 |2=>bcs.flatMap Array.toList
 |3=>s.mem.map fun z=> .int .u32 z
 |4=>s.slp.flatMap slp
 |_=>s.evs.flatMap Evt.cells
def codeRow (W:World) (c:Cd):Prop:=W.ownsRow 0 75 5 c.val c.len ((List.range c.len).flatMap fun i=>(c.F i).cells)
theorem codeRow.at_ {W:World} {c:Cd} (h:codeRow W c):c.At W:=by
 have h':W.ownsRow 0 75 5 c.val (List.range c.len).length ((List.range c.len).flatMap fun i=>(c.F i).cells):=by rw [List.length_range];exact h
 obtain ⟨A,cap,e,_,hs⟩:=own_sle (fun i=>(c.F i).cells) (fun _=>rfl) 0 (List.range c.len) h'
 unfold Cd.val at e
 injection e with e1 e2 e3
 rw [<-e1,List.length_range]at hs
 intro hn
 obtain ⟨b,off,q1,q2,q3⟩:=hs hn
 refine ⟨b,off,q1,q2,fun i hi j u hu=>q3 i hi j u ?_⟩
 simpa [List.getD_eq_getElem?_getD,List.getElem?_range hi]using hu
structure BufsOk (room:Int) (bufs:List (List Ent)) (bcs:List (Array Value)):Prop where
 len:bcs.length=bufs.length
 buf: ∀t,t<bufs.length->Buf (bcs.getD t #[]) (bufs.getD t []) room
structure MParts (L:Lay) (B:MB) (s:Mst) (own:Nat->Prop) (W:World) (V:Nat->Value) (bcs:List (Array Value)):Prop where
 lo: ∀i,own i->2<=i/\i<W.heap.size
 mb:own B.mb
 vb: ∀j,j<6-> ∀g,(V j).ownBlock=some g->own g
 cb: ∀c∈B.codes,∀g,c.val.ownBlock=some g->own g
 blk:Blk W B.mb L.tm (L.arr V s.who)
 rows: ∀j,j<6->W.ownsRow 0 (ety j) (esz j) (V j) (cnt B s j) (cel B s bcs j)
 codes: ∀c∈B.codes,codeRow W c
 bufs:BufsOk B.room s.bufs bcs
 mem:s.mem.length=B.m
def MInv (L:Lay) (B:MB) (s:Mst) (own:Nat->Prop) (W:World):Prop:= ∃V bcs,MParts L B s own W V bcs
section
variable {L:Lay} {B:MB} {s s':Mst} {own:Nat->Prop} {W W':World} {V:Nat->Value} {bcs bcs':List (Array Value)}
theorem MParts.cell (h:MParts L B s own W V bcs) {j:Nat} (hj:j<6) (hh:L.has j=true):W.cell? ⟨B.mb,L.pos j,none⟩=some (V j):=(h.blk.cell _).trans (L.get V s.who j hj hh)
theorem MParts.keep (h:MParts L B s own W V bcs) (k:Stay own W W'):MParts L B s own W' V bcs:=
 ⟨fun i hi=>⟨(h.lo i hi).1,Nat.lt_of_lt_of_le (h.lo i hi).2 k.size⟩,h.mb,h.vb,h.cb,(k.own _ h.mb).trans h.blk,fun j hj=>k.row (h.rows j hj) (h.vb j hj),fun c hc=>k.row (h.codes c hc) (h.cb c hc),h.bufs,h.mem⟩
theorem MInv.keep (L:Lay) (B:MB) (s:Mst) (own:Nat->Prop) (W W':World) (h:MInv L B s own W) (k:Stay own W W'):MInv L B s own W':=by
 obtain ⟨V,bcs,h⟩:=h
 exact ⟨V,bcs,h.keep k⟩
theorem MParts.below (h:MParts L B s own W V bcs) (k:Below W.heap.size W W'):MParts L B s own W' V bcs:=h.keep ⟨fun i hi=>k.block i (h.lo i hi).2,k.size⟩
theorem MParts.inv (h:MParts L B s own W V bcs):MInv L B s own W:=⟨V,bcs,h⟩
theorem MInv.below (h:MInv L B s own W) (k:Below W.heap.size W W'):MInv L B s own W':=by
 obtain ⟨V,bcs,h⟩:=h
 exact ⟨V,bcs,h.below k⟩
theorem MInv.idle (h:MInv L B s own W) (k:Below W.heap.size W W'):Moves (MInv L B) s own W W':=⟨own,h.below k,fun i hi=> .inl hi,KeepOut.of_below k⟩
theorem MInv.stay (h:MInv L B s own W):Moves (MInv L B) s own W W:=⟨own,h,fun i hi=> .inl hi,KeepOut.refl own W⟩
theorem Moves.belowM (h:Moves (MInv L B) s own W W') {W2:World} (k:Below W'.heap.size W' W2):Moves (MInv L B) s own W W2:=h.bind fun own1 h1=>h1.idle k
theorem MParts.upd (h:MParts L B s own W V bcs) (j:Nat) (hj:j<6) {v':Value} (hk:KStep W W' B.mb (V j)) (hb:Blk W' B.mb L.tm (L.arr (updV V j v') s'.who))
 (hr:W'.ownsRow 0 (ety j) (esz j) v' (cnt B s' j) (cel B s' bcs' j)) (hv: ∀g,v'.ownBlock=some g->(V j).ownBlock=some g∨W.heap.size<=g)
 (hsame: ∀i,i<6->i≠j->cnt B s' i=cnt B s i/\cel B s' bcs' i=cel B s bcs i) (hB:BufsOk B.room s'.bufs bcs') (hm:s'.mem.length=B.m):Moves (MInv L B) s' own W W':=by
 have hmb:=h.lo _ h.mb
 refine ⟨fun i=>own i∨v'.ownBlock=some i,⟨updV V j v',bcs',⟨fun i hi=>?_,.inl h.mb,fun i hi g hg=>?_,fun c hc g hg=> .inl (h.cb c hc g hg),hb,fun i hi=>?_,fun c hc=>?_,hB,hm⟩⟩,fun i hi=>?_,?_⟩
 ·rcases hi with hi|hi
  ·exact ⟨(h.lo i hi).1,Nat.lt_of_lt_of_le (h.lo i hi).2 hk.size⟩
  ·refine ⟨?_,(own_in hr i hi).2⟩
   rcases hv i hi with h1|h1
   ·exact (h.lo i (h.vb j hj i h1)).1
   ·omega
 ·by_cases hij:i=j
  ·subst hij
   rw [updV_self]at hg
   exact .inr hg
  ·rw [updV_ne V v' hij]at hg
   exact .inl (h.vb i hi g hg)
 ·by_cases hij:i=j
  ·subst hij
   rw [updV_self]
   exact hr
  ·rw [updV_ne V v' hij,(hsame i hi hij).1,(hsame i hi hij).2]
   exact hk.rowG h.blk (h.rows j hj) (h.rows i hi) (ety_ne i hi j hj hij) (Ne.symm (L.ne i hi))
 ·exact hk.rowG h.blk (h.rows j hj) (h.codes c hc) (fun e=>absurd e (by
   rcases (by omega:j=0∨j=1∨j=2∨j=3∨j=4∨j=5)with rfl|rfl|rfl|rfl|rfl|rfl<;>decide)) (Ne.symm L.ni)
 ·rcases hi with hi|hi
  ·exact .inl hi
  ·exact (hv i hi).imp (fun q=>h.vb j hj i q) id
 ·exact ⟨hk.os,hk.tape,hk.output,hk.size,fun i hi hn=>hk.block i hi (fun e=>hn (e▸h.mb)) (fun e=>hn (h.vb j hj i e.symm))⟩
theorem MParts.updIn (h:MParts L B s own W V bcs) (j:Nat) (hj:j<6) (hk: ∀g,(V j).ownBlock=some g->W.grownBy W' (some g)) (h0:(V j).ownBlock≠none)
 (hr:W'.ownsRow 0 (ety j) (esz j) (V j) (cnt B s' j) (cel B s' bcs' j)) (hw:s'.who=s.who)
 (hsame: ∀i,i<6->i≠j->cnt B s' i=cnt B s i/\cel B s' bcs' i=cel B s bcs i) (hB:BufsOk B.room s'.bufs bcs') (hm:s'.mem.length=B.m):Moves (MInv L B) s' own W W':=by
 obtain ⟨g,hg⟩:=Option.ne_none_iff_exists'.1 h0
 have hgr:=hk g hg
 refine h.upd j hj (v':=V j) ⟨hgr.os,hgr.tape,hgr.output,hgr.size,fun i hi h1 h2=>hgr.block i hi (by rw [<-hg];exact h2)⟩ ?_ hr (fun g hg=> .inl hg) hsame hB hm
 rw [updV_same,hw]
 exact h.blk.grown hgr (by rw [<-hg];exact row_ne h.blk (h.rows j hj) (L.ne j hj))
theorem MParts.updOut (h:MParts L B s own W V bcs) (j:Nat) (hj:j<6) (hh:L.has j=true) {v':Value} {W4:World} (hg:W.grownBy W4 (V j).ownBlock)
 (hr:W4.ownsRow 0 (ety j) (esz j) v' (cnt B s' j) (cel B s' bcs' j)) (hw:s'.who=s.who) (hv:v'.ownBlock=(V j).ownBlock∨ ∃g,v'.ownBlock=some g/\W.heap.size<=g)
 (hsame: ∀i,i<6->i≠j->cnt B s' i=cnt B s i/\cel B s' bcs' i=cel B s bcs i) (hB:BufsOk B.room s'.bufs bcs') (hm:s'.mem.length=B.m):
 Moves (MInv L B) s' own W (W4.setCell ⟨B.mb,L.pos j,none⟩ v'):=by
 have hb4:=h.blk.grown hg (row_ne h.blk (h.rows j hj) (L.ne j hj))
 have hg5:W4.grownBy (W4.setCell ⟨B.mb,L.pos j,none⟩ v') (some B.mb):=set_only _
 refine h.upd j hj (v':=v') ⟨hg.os,hg.tape,hg.output,Nat.le_trans hg.size hg5.size,fun i hi h1 h2=>(Below.heap_setCell W4 ⟨B.mb,L.pos j,none⟩ v' i h1).trans (hg.block i hi h2)⟩ ?_ (row_grown hr hg5 (row_ne hb4 hr (L.ne j hj))) (fun g hg=>?_) hsame hB hm
 ·rw [hw,<-L.set V s.who j v' hj hh]
  exact hb4.set_ _ _
 ·rcases hv with e|⟨g',e,hge⟩
  ·exact .inl (e.symm.trans hg)
  ·obtain rfl:=Option.some.inj (e.symm.trans hg)
   exact .inr hge
theorem MParts.km (h:MParts L B s own W V bcs) (hh:L.has 4=true):KM W B.mb (L.pos 4) L.tm (L.arr V s.who) (V 4) s.slp:=
 ⟨h.blk,L.get V s.who 4 (by decide) hh,h.rows 4 (by decide),L.ne 4 (by decide)⟩
theorem MParts.slept (h:MParts L B s own W V bcs) (hh:L.has 4=true) {l:List Slp} (k:SleptM l B.mb (L.pos 4) L.tm (L.arr V s.who) (V 4) W W'):Moves (MInv L B) {s with slp:=l} own W W':=by
 obtain ⟨v',hkm,hst,hv⟩:=k
 refine h.upd 4 (by decide) (v':=v') (bcs':=bcs) hst ?_ hkm.row hv (fun i hi hne=>?_) h.bufs h.mem
 ·have :=hkm.blk
  rwa [L.set V s.who 4 v' (by decide) hh]at this
 ·rcases (by omega:i=0∨i=1∨i=2∨i=3∨i=5)with rfl|rfl|rfl|rfl|rfl<;>exact ⟨rfl,rfl⟩
end
section
variable {w:World} {base:Nat} {e:TypeId} {s n:Nat} {v:Value} {xs:List Value}
theorem row_at {α:Type} (f:α->List Value) (hf: ∀a,(f a).length=s) (d:α) (l:List α) (h:w.ownsRow base e s v l.length (l.flatMap f)) {i:Nat} (hi:i<l.length):
 ∃g cap,v= .slice (some ⟨g,0,none⟩) l.length cap/\l.length<=cap/\cap<=maxLen/\w.rangeAt g (i*s) (f (l.getD i d))/\w.there g (i*s) s/\(∃cur,Blk w g e cur)/\
  ∀x,(w.setCells g (i*s) (f x)).ownsRow base e s v l.length ((l.set i x).flatMap f)/\w.grownBy (w.setCells g (i*s) (f x)) (some g):=by
 have his:i*s+s<=l.length*s:=by
  have :(i+1)*s<=l.length*s:=Nat.mul_le_mul_right _ hi
  rw [Nat.add_mul]at this
  omega
 obtain ⟨g,cap,rfl,_,_,hc⟩:=own_some h (by omega)
 have hcm:cap<=maxLen:=by
  obtain ⟨A,cap',e,_,h2⟩:=own_cap h
  injection e with _ _ e
  omega
 refine ⟨g,cap,rfl,hc,hcm,fun j u hu=>?_,own_there h his,?_,fun x=>?_⟩
 ·have hj:j<s:=by
   have :=(List.getElem?_eq_some_iff.1 hu).1
   rwa [hf]at this
  rw [h.cellAt _ (by omega),flat_get f s hf d l i hi j hj]
  exact hu
 ·rcases h.2 with ⟨h',_⟩|⟨g',cap',cur,h',_,hg,_⟩
  ·cases h'
  ·injection h' with h' _ _
   injection h' with h'
   injection h' with h' _ _
   subst h'
   exact ⟨cur,hg⟩
 ·obtain ⟨k0,k1⟩:=own_put (p:=i*s) (news:=f x) h (by rw [hf];exact his)
  refine ⟨?_,k1⟩
  have e:(l.flatMap f).take (i*s)++f x++(l.flatMap f).drop (i*s+(f x).length)=(l.set i x).flatMap f:=by
   have e1:l=l.take i++l.drop i:=(List.take_append_drop i l).symm
   have l1:((l.take i).flatMap f).length=i*s:=by rw [flat_len f s hf,List.length_take,Nat.min_eq_left (Nat.le_of_lt hi)]
   have e2:l.drop i=l.getD i d::l.drop (i+1):=by
    rw [List.drop_eq_getElem_cons hi]
    simp [List.getD_eq_getElem?_getD,List.getElem?_eq_getElem hi]
   have e3:l.flatMap f=(l.take i).flatMap f++(f (l.getD i d)++(l.drop (i+1)).flatMap f):=by
    conv=>lhs;rw [e1]
    rw [List.flatMap_append,e2,List.flatMap_cons]
   rw [e3,List.take_left' l1,hf,<-List.append_assoc ((l.take i).flatMap f),List.drop_left' (by rw [List.length_append,l1,hf])]
   rw [List.set_eq_take_append_cons_drop,if_pos hi,List.flatMap_append,List.flatMap_cons,List.append_assoc]
  rw [<-e]
  exact k0
end
theorem flat_set1 {α:Type} (f:α->List Value) (s:Nat) (hf: ∀a,(f a).length=s) (d:α): ∀(l:List α) (i:Nat),i<l.length-> ∀j,j<s-> ∀(x:α) (v:Value),f x=(f (l.getD i d)).set j v->(l.flatMap f).set (i*s+j) v=(l.set i x).flatMap f
 |[],i,hi,_,_,_,_,_=>absurd hi (by simp)
 |a::l,0,_,j,hj,x,v,hx=>by
  rw [List.flatMap_cons,Nat.zero_mul,Nat.zero_add,List.set_append_left _ _ (by rw [hf];exact hj),zE,List.flatMap_cons,hx]
  rfl
 |a::l,i+1,hi,j,hj,x,v,hx=>by
  rw [List.flatMap_cons,List.set_append_right _ _ (by rw [hf];exact Nat.le_trans (Nat.le_mul_of_pos_left s (by omega)) (Nat.le_add_right _ _)),hf,show (i+1)*s+j-s=i*s+j by rw [Nat.add_mul];omega,zF,List.flatMap_cons,
   flat_set1 f s hf d l i (by simpa using hi) j hj x v (by simpa using hx)]
theorem th_len10 (t:Th):t.cells.length=10:=rfl
def tha:Th:=⟨0,fun _=>0,0⟩
def cdd:Cd:=⟨none,0,0,fun _=>⟨0,0,0,0,0⟩⟩
theorem nat6 {i j:Nat} (h:i<6) (hne:i≠j):i=0∨i=1∨i=2∨i=3∨i=4∨i=5:=by omega
section
variable {L:Lay} {B:MB} {s:Mst} {own:Nat->Prop} {W:World} {V:Nat->Value} {bcs:List (Array Value)}
theorem MParts.memAt (h:MParts L B s own W V bcs) {a:Nat} (ha:a<B.m):
 ∃g cap,V 3= .slice (some ⟨g,0,none⟩) B.m cap/\B.m<=cap/\cap<=maxLen/\W.cell? ⟨g,a,none⟩=some (.int .u32 (s.mem.getD a 0))/\W.frozen? ⟨g,a,none⟩=false/\g≠B.mb/\own g/\
  ∀z:Int,Moves (MInv L B) {s with mem:=s.mem.set a z} own W (W.setCell ⟨g,a,none⟩ (.int .u32 z)):=by
 have hr:W.ownsRow 0 42 1 (V 3) s.mem.length (s.mem.map fun z=> .int .u32 z):=h.rows 3 (by decide)
 have ham:a<s.mem.length:=by rw [h.mem];exact ha
 obtain ⟨g,cap,e,hc,hcm,⟨cs,hB⟩,hcell,_,_⟩:=row_set hr ham (.int .u32 0)
 refine ⟨g,cap,by rw [<-h.mem];exact e,by rw [<-h.mem];exact hc,hcm,hcell _ (by simp [List.getElem?_eq_getElem ham,List.getD_eq_getElem?_getD]),hB.frozen a,hB.ne h.blk (Ne.symm (L.ne 3 (by decide))),h.vb 3 (by decide) g (by rw [e];rfl),fun z=>?_⟩
 obtain ⟨g',cap',e',_,_,_,_,hrow,hg⟩:=row_set hr ham (.int .u32 z)
 rw [e]at e'
 injection e' with e1 _ _
 injection e1 with e1
 injection e1 with e1 _ _
 subst e1
 have eg:(V 3).ownBlock=some g:=by rw [e];rfl
 refine h.updIn (s':={s with mem:=s.mem.set a z}) (bcs':=bcs) 3 (by decide) (fun g1 h1=>by rw [eg]at h1;rw [<-h1];exact hg) (by rw [eg];simp) ?_ rfl (fun i hi hne=>?_) h.bufs (by simpa using h.mem)
 ·show (W.setCell ⟨g,a,none⟩ (.int .u32 z)).ownsRow 0 42 1 (V 3) (s.mem.set a z).length ((s.mem.set a z).map fun z=> .int .u32 z)
  rw [List.length_set,List.map_set]
  exact hrow
 ·rcases nat6 hi hne with rfl|rfl|rfl|rfl|rfl|rfl<;>first|exact ⟨rfl,rfl⟩|exact absurd rfl hne
theorem MParts.thAt (h:MParts L B s own W V bcs) {t:Nat} (ht:t<s.ths.length):
 ∃g cap,V 1= .slice (some ⟨g,0,none⟩) s.ths.length cap/\s.ths.length<=cap/\cap<=maxLen/\W.rangeAt g (t*10) (s.ths.getD t tha).cells/\W.there g (t*10) 10/\g≠B.mb/\own g/\(∃cur,Blk W g 124 cur)/\
  (∀x:Th,Moves (MInv L B) {s with ths:=s.ths.set t x} own W (W.setCells g (t*10) x.cells))/\
  ∀st:Int,Moves (MInv L B) {s with ths:=s.ths.set t {s.ths.getD t tha with st:=st}} own W (W.setCell ⟨g,t*10+9,none⟩ (.int .i64 st)):=by
 have hr:W.ownsRow 0 124 10 (V 1) s.ths.length (s.ths.flatMap Th.cells):=h.rows 1 (by decide)
 obtain ⟨g,cap,e,hc,hcm,hra,hth,⟨cs,hB⟩,hput⟩:=row_at Th.cells th_len10 tha s.ths hr ht
 have eg:(V 1).ownBlock=some g:=by rw [e];rfl
 have hown:=h.vb 1 (by decide) g eg
 refine ⟨g,cap,e,hc,hcm,hra,hth,hB.ne h.blk (Ne.symm (L.ne 1 (by decide))),hown,⟨cs,hB⟩,fun x=>?_,fun st=>?_⟩
 ·obtain ⟨k0,k1⟩:=hput x
  refine h.updIn (s':={s with ths:=s.ths.set t x}) (bcs':=bcs) 1 (by decide) (fun g1 h1=>by rw [eg]at h1;rw [<-h1];exact k1) (by rw [eg];simp) ?_ rfl (fun i hi hne=>?_) h.bufs h.mem
  ·show (W.setCells g (t*10) x.cells).ownsRow 0 124 10 (V 1) (s.ths.set t x).length ((s.ths.set t x).flatMap Th.cells)
   rw [List.length_set]
   exact k0
  ·rcases nat6 hi hne with rfl|rfl|rfl|rfl|rfl|rfl<;>first|exact ⟨rfl,rfl⟩|exact absurd rfl hne
 ·have hs:=(World.ownsRow.stored (by rw [e]at hr;exact hr) (t*10+9) (.int .i64 st):_/\_)
  have hf:=flat_set1 Th.cells 10 th_len10 tha s.ths t ht 9 (by decide) {s.ths.getD t tha with st:=st} (.int .i64 st) rfl
  rw [hf]at hs
  refine h.updIn (s':={s with ths:=s.ths.set t {s.ths.getD t tha with st:=st}}) (bcs':=bcs) 1 (by decide) (fun g1 h1=>by rw [eg]at h1;rw [<-h1];exact set_only _) (by rw [eg];simp) ?_ rfl (fun i hi hne=>?_) h.bufs h.mem
  ·show (W.setCell ⟨g,t*10+9,none⟩ (.int .i64 st)).ownsRow 0 124 10 (V 1) (s.ths.set t _).length ((s.ths.set t _).flatMap Th.cells)
   rw [List.length_set,e]
   exact hs.1
  ·rcases nat6 hi hne with rfl|rfl|rfl|rfl|rfl|rfl<;>first|exact ⟨rfl,rfl⟩|exact absurd rfl hne
theorem MParts.bufAt (h:MParts L B s own W V bcs) {t:Nat} (ht:t<s.bufs.length):
 ∃g cap cs,V 2= .slice (some ⟨g,0,none⟩) s.bufs.length cap/\s.bufs.length<=cap/\cap<=maxLen/\Buf cs (s.bufs.getD t []) B.room/\W.rangeAt g (t*35) cs.toList/\W.there g (t*35) 35/\g≠B.mb/\own g/\
  ∀cs' l',Buf cs' l' B.room->Moves (MInv L B) {s with bufs:=s.bufs.set t l'} own W (W.setCells g (t*35) cs'.toList):=by
 have hlen:=h.bufs.len
 have ht':t<bcs.length:=by omega
 have h35: ∀c∈bcs,c.size=35:=fun c hc=>by
  obtain ⟨i,hi,rfl⟩:=List.getElem_of_mem hc
  have :=(h.bufs.buf i (by omega)).size
  rwa [List.getD_eq_getElem?_getD,List.getElem?_eq_getElem hi]at this
 have hr:W.ownsRow 0 114 35 (V 2) s.bufs.length (bcs.flatMap Array.toList):=h.rows 2 (by decide)
 let f:Array Value->List Value:=fun c=>if c.size=35 then c.toList else List.replicate 35 undef
 have hf: ∀c,(f c).length=35:=fun c=>by
  show (if c.size=35 then c.toList else List.replicate 35 undef).length=35
  split
  ·simpa
  ·simp
 have hff: ∀c:Array Value,c.size=35->f c=c.toList:=fun c hc=>if_pos hc
 have hfm: ∀l:List (Array Value),(∀c∈l,c.size=35)->l.flatMap f=l.flatMap Array.toList:=fun l hl=>by
  induction l with
  |nil=>rfl
  |cons c l ih=>rw [List.flatMap_cons,List.flatMap_cons,hff c (hl c (by simp)),ih (fun c hc=>hl c (by simp [hc]))]
 have hr':W.ownsRow 0 114 35 (V 2) bcs.length (bcs.flatMap f):=by rw [hfm bcs h35,hlen];exact hr
 obtain ⟨g,cap,e,hc,hcm,hra,hth,⟨cs,hB⟩,hput⟩:=row_at f hf #[] bcs hr' ht'
 have hbt:=h.bufs.buf t ht
 rw [hff _ hbt.size]at hra
 have eg:(V 2).ownBlock=some g:=by rw [e];rfl
 refine ⟨g,cap,bcs.getD t #[],by rw [<-hlen];exact e,by omega,hcm,hbt,hra,hth,hB.ne h.blk (Ne.symm (L.ne 2 (by decide))),h.vb 2 (by decide) g eg,fun cs' l' hb'=>?_⟩
 obtain ⟨k0,k1⟩:=hput cs'
 rw [hff cs' hb'.size]at k0 k1
 refine h.updIn (s':={s with bufs:=s.bufs.set t l'}) (bcs':=bcs.set t cs') 2 (by decide) (fun g1 h1=>by rw [eg]at h1;rw [<-h1];exact k1) (by rw [eg];simp) ?_ rfl (fun i hi hne=>?_) ⟨by simp [hlen],fun i hi=>?_⟩ h.mem
 ·show (W.setCells g (t*35) cs'.toList).ownsRow 0 114 35 (V 2) (s.bufs.set t l').length ((bcs.set t cs').flatMap Array.toList)
  rw [List.length_set,<-hlen,<-hfm _ (fun c hc=>by
   rcases List.mem_or_eq_of_mem_set hc with hc|rfl
   ·exact h35 c hc
   ·exact hb'.size)]
  exact k0
 ·rcases nat6 hi hne with rfl|rfl|rfl|rfl|rfl|rfl<;>first|exact ⟨rfl,rfl⟩|exact absurd rfl hne
 ·show Buf ((bcs.set t cs').getD i #[]) ((s.bufs.set t l').getD i []) B.room
  have hi':i<s.bufs.length:=by simpa using hi
  by_cases hit:t=i
  ·subst hit
   simp only [List.getD_eq_getElem?_getD,List.getElem?_set_self ht',List.getElem?_set_self ht,Option.getD_some]
   exact hb'
  ·have :=h.bufs.buf i hi'
   simp only [List.getD_eq_getElem?_getD,List.getElem?_set_ne hit]at this⊢
   exact this
theorem MParts.codeAt (h:MParts L B s own W V bcs) {t:Nat} (ht:t<B.codes.length):
 ∃g cap,V 0= .slice (some ⟨g,0,none⟩) B.codes.length cap/\B.codes.length<=cap/\cap<=maxLen/\W.cell? ⟨g,t,none⟩=some (B.codes.getD t cdd).val/\(B.codes.getD t cdd).At W:=by
 have hr:W.ownsRow 0 50 1 (V 0) B.codes.length (B.codes.map Cd.val):=h.rows 0 (by decide)
 obtain ⟨g,cap,e,hc,hcm,⟨cs,hB⟩,hcell,_,_⟩:=row_set hr ht (.int .u32 0)
 refine ⟨g,cap,e,hc,hcm,hcell _ (by simp [List.getElem?_eq_getElem ht,List.getD_eq_getElem?_getD]),(h.codes _ (getD_mem ht)).at_⟩
theorem MParts.evAdd (h:MParts L B s own W V bcs) (hh:L.has 5=true) {v':Value} {W4:World} (x:Evt) (hg:W.grownBy W4 (V 5).ownBlock)
 (hr:W4.ownsRow 0 65 8 v' (s.evs.length+1) (s.evs.flatMap Evt.cells++x.cells)) (hv:v'.ownBlock=(V 5).ownBlock∨ ∃g,v'.ownBlock=some g/\W.heap.size<=g):
 Moves (MInv L B) {s with evs:=s.evs++[x]} own W (W4.setCell ⟨B.mb,L.pos 5,none⟩ v'):=by
 refine h.updOut (s':={s with evs:=s.evs++[x]}) (bcs':=bcs) 5 (by decide) hh hg ?_ rfl hv (fun i hi hne=>?_) h.bufs h.mem
 ·show W4.ownsRow 0 65 8 v' (s.evs++[x]).length ((s.evs++[x]).flatMap Evt.cells)
  rw [List.length_append,List.flatMap_append]
  simpa using hr
 ·rcases nat6 hi hne with rfl|rfl|rfl|rfl|rfl|rfl<;>first|exact ⟨rfl,rfl⟩|exact absurd rfl hne
end
def tsoL:Lay where
 tm:=109
 has:=fun _=>true
 pos:=fun j=>j
 arr:=fun V _=> #[V 0,V 1,V 2,V 3,V 4,V 5]
 get:=fun V x j hj hh=>by
  rcases (by omega:j=0∨j=1∨j=2∨j=3∨j=4∨j=5)with rfl|rfl|rfl|rfl|rfl|rfl<;>rfl
 set:=fun V x j v hj hh=>by
  rcases (by omega:j=0∨j=1∨j=2∨j=3∨j=4∨j=5)with rfl|rfl|rfl|rfl|rfl|rfl<;>rfl
 ne:=by decide
 ni:=by decide
def fnB:List Ent->Int->Int×Bool
 |[],_=>(0,false)
 |x::l,a=>if (fnB l a).2=true then fnB l a else if x.1=a then (x.2,true)else (0,false)
theorem fnB_spec (l:List Ent) (a:Int):FindP l a (fnB l a).1 (fnB l a).2:=by
 induction l with
 |nil=>exact .miss fun j hj=>absurd hj (by simp)
 |cons x l ih=>
  unfold fnB
  cases hb:(fnB l a).2 with
  |true=>
   rw [if_pos rfl,hb]
   rw [hb]at ih
   obtain ⟨i,hi,h1,h2,hv⟩: ∃i,i<l.length/\(l.getD i (0,0)).1=a/\(∀j,i<j->j<l.length->(l.getD j (0,0)).1≠a)/\(fnB l a).1=(l.getD i (0,0)).2:=by
    generalize (fnB l a).1=v at ih⊢
    cases ih with
    |hit i hi h1 h2=>exact ⟨i,hi,h1,h2,rfl⟩
   rw [hv]
   refine FindP.hit (l:=x::l) (i+1) (by simp;omega) (by simpa using h1) (fun j h3 h4=>?_)
   obtain ⟨k,rfl⟩: ∃k,j=k+1:=⟨j-1,by omega⟩
   have :=h2 k (by omega) (by simpa using h4)
   simpa using this
  |false=>
   rw [hb]at ih
   have hm: ∀j,j<l.length->(l.getD j (0,0)).1≠a:=by
    generalize (fnB l a).1=v at ih
    cases ih with
    |miss h=>exact h
   rw [if_neg (by decide)]
   by_cases hx:x.1=a
   ·rw [if_pos hx]
    refine FindP.hit (l:=x::l) 0 (by simp) hx (fun j h3 h4=>?_)
    obtain ⟨k,rfl⟩: ∃k,j=k+1:=⟨j-1,by omega⟩
    have :=hm k (by simpa using h4)
    simpa using this
   ·rw [if_neg hx]
    refine .miss fun j hj=>?_
    rcases j with _|k
    ·exact hx
    ·have :=hm k (by simpa using hj)
     simpa using this
theorem fnB_snoc (l:List Ent) (x:Ent) (a:Int):fnB (l++[x]) a=if x.1=a then (x.2,true)else fnB l a:=by
 induction l with
 |nil=>
  show (if (fnB [] a).2=true then fnB [] a else if x.1=a then (x.2,true)else (0,false))=_
  rw [if_neg (show¬(fnB [] a).2=true from fun h=>by cases h)]
  rfl
 |cons y l ih=>
  show (if (fnB (l++[x]) a).2=true then fnB (l++[x]) a else if y.1=a then (y.2,true)else (0,false))=_
  rw [ih]
  by_cases h:x.1=a
  ·rw [if_pos h,if_pos rfl,if_pos h]
  ·rw [if_neg h,if_neg h]
   rfl
def runT (ths:List Th) (ws:List Int):List Th:=ws.foldl (fun l w=>l.set w.toNat {l.getD w.toNat tha with st:=0}) ths
def tflush (t:Nat) (s:Mst):Mst:=match s.bufs.getD t []with
 |[]=>s
 |x::l=>{s with bufs:=s.bufs.set t l,mem:=s.mem.set x.1.toNat x.2,evs:=s.evs++[⟨3,(t:Int),0,x.1,x.2,0,0,false⟩]}
def tflushN (t:Nat):Nat->Mst->Mst
 |0,s=>s
 |n+1,s=>tflushN t n (tflush t s)
def tdrain (s:Mst) (t:Nat):Mst:=tflushN t (s.bufs.getD t []).length s
def tremote (s:Mst):Mst:=(List.range s.bufs.length).foldl tdrain s
def wakeM (s:Mst) (a:Nat) (v:Int):Int×Mst:=(((wk (a:Int) v.toNat s.slp).2.length:Int),{s with slp:=(wk (a:Int) v.toNat s.slp).1,ths:=runT s.ths (wk (a:Int) v.toNat s.slp).2})
def sleepM (t:Int) (s:Mst) (a:Nat):Mst:=if slpE s.slp t=0 then {s with slp:=s.slp++[(t,(a:Int))]}else s
def noteM (t:Int) (s:Mst) (x:Evt):Mst:={s with evs:=s.evs++[{x with who:=t}]}
def seeM (t:Nat) (s:Mst) (a:Nat):Int:=if (fnB (s.bufs.getD t []) (a:Int)).2=true then (fnB (s.bufs.getD t []) (a:Int)).1 else s.mem.getD a 0
def tOps (B:MB) (t:Nat):Ops Mst where
 size:=B.m
 load:=fun s a=>(seeM t s a,s)
 room:=fun s=>decide (((s.bufs.getD t []).length:Int)<B.room)
 store:=fun s a v=>if a<B.m then {s with bufs:=s.bufs.set t (s.bufs.getD t []++[((a:Int),v)])}else s
 empty:=fun s=>decide ((s.bufs.getD t []).length=0)
 flush:=tflush t
 swap:=fun s a v=>{s with mem:=s.mem.set a v}
 sleep:=sleepM (t:Int)
 wake:=wakeM
 remote:=tremote
 note:=noteM (t:Int)
def rouseM (t:Nat) (s:Mst):Mst:=if fnd s.slp (t:Int)<s.slp.length then noteM (t:Int) {s with slp:=s.slp.eraseIdx (fnd s.slp (t:Int)),ths:=s.ths.set t {s.ths.getD t tha with st:=0}} ⟨11,0,0,0,0,0,0,false⟩else s
def tot (l:List (List Ent)):Nat:=(l.map List.length).sum
structure mCan (B:MB) (n:Nat) (s:Mst):Prop where
 evs:s.evs.length+tot s.bufs+n<=1000000000
 slp:s.slp.length+n<=10000
 who: ∀x∈s.slp,0<=x.1/\x.1<(s.ths.length:Int)
 buf: ∀b∈s.bufs,∀e∈b,0<=e.1/\e.1<(B.m:Int)
 t8:s.ths.length<=8
theorem mCan.less {B:MB} {n:Nat} {s:Mst} (h:mCan B (n+1) s):mCan B n s:=⟨by have :=h.evs;omega,by have :=h.slp;omega,h.who,h.buf,h.t8⟩
theorem tot_set (l:List (List Ent)) (t:Nat) (x:List Ent) (h:t<l.length):tot (l.set t x)+(l.getD t []).length=tot l+x.length:=by
 induction l generalizing t with
 |nil=>exact absurd h (by simp)
 |cons y l ih=>
  rcases t with _|t
  ·simp [tot];omega
  ·have :=ih t (by simpa using h)
   simp [tot]at this⊢
   omega
theorem getD_nil_of_ge {α:Type} (l:List α) (t:Nat) (d:α) (h:l.length<=t):l.getD t d=d:=by
 simp [List.getD_eq_getElem?_getD,List.getElem?_eq_none h]
theorem mem_set {α:Type} {l:List α} {t:Nat} {x y:α} (h:y∈l.set t x):y∈l∨y=x:=by
 rcases List.mem_or_eq_of_mem_set h with h|h
 ·exact .inl h
 ·exact .inr h
theorem mem_getD {l:List (List Ent)} {t:Nat} {e:Ent} (h:e∈l.getD t []): ∃b∈l,e∈b:=by
 rcases Nat.lt_or_ge t l.length with h1|h1
 ·exact ⟨_,getD_mem h1,h⟩
 ·rw [getD_nil_of_ge l t [] h1]at h;cases h
theorem runT_len (ths:List Th) (ws:List Int):(runT ths ws).length=ths.length:=by
 unfold runT
 induction ws generalizing ths with
 |nil=>rfl
 |cons w ws ih=>rw [List.foldl_cons,ih,List.length_set]
theorem tflush_cons {t:Nat} {s:Mst} {x:Ent} {l:List Ent} (h:s.bufs.getD t []=x::l):
 tflush t s={s with bufs:=s.bufs.set t l,mem:=s.mem.set x.1.toNat x.2,evs:=s.evs++[⟨3,(t:Int),0,x.1,x.2,0,0,false⟩]}:=by
 unfold tflush;rw [h]
theorem tflush_nil {t:Nat} {s:Mst} (h:s.bufs.getD t []=[]):tflush t s=s:=by
 unfold tflush;rw [h]
theorem tflush_same (t:Nat) (s:Mst):(tflush t s).ths=s.ths/\(tflush t s).slp=s.slp/\(tflush t s).who=s.who/\(tflush t s).bufs.length=s.bufs.length/\(tflush t s).mem.length=s.mem.length:=by
 cases h:s.bufs.getD t []with
 |nil=>rw [tflush_nil h];exact ⟨rfl,rfl,rfl,rfl,rfl⟩
 |cons x l=>rw [tflush_cons h];exact ⟨rfl,rfl,rfl,by simp,by simp⟩
theorem mCan.flush {B:MB} {n:Nat} {s:Mst} (h:mCan B n s) (t:Nat):mCan B n (tflush t s):=by
 cases hb:s.bufs.getD t []with
 |nil=>rw [tflush_nil hb];exact h
 |cons x l=>
  have ht:t<s.bufs.length:=by
   rcases Nat.lt_or_ge t s.bufs.length with h1|h1
   ·exact h1
   ·rw [getD_nil_of_ge _ _ _ h1]at hb;cases hb
  rw [tflush_cons hb]
  refine ⟨?_,h.slp,h.who,fun b hb' e he=>?_,h.t8⟩
  ·have h1:=h.evs
   have h2:=tot_set s.bufs t l ht
   rw [hb]at h2
   simp only [List.length_cons]at h2
   simp only [List.length_append,List.length_cons,List.length_nil]
   omega
  ·rcases mem_set hb' with h1|rfl
   ·exact h.buf b h1 e he
   ·obtain ⟨b,h1,h2⟩:=mem_getD (l:=s.bufs) (t:=t) (e:=e) (by rw [hb];exact List.mem_cons_of_mem _ he)
    exact h.buf b h1 e h2
theorem mCan.flushN {B:MB} {n:Nat} (t:Nat): ∀(k:Nat) {s:Mst},mCan B n s->mCan B n (tflushN t k s)
 |0,_,h=>h
 |k+1,_,h=>mCan.flushN t k (h.flush t)
theorem mCan.remote {B:MB} {n:Nat} {s:Mst} (h:mCan B n s):mCan B n (tremote s):=by
 unfold tremote
 generalize List.range s.bufs.length=l
 induction l generalizing s with
 |nil=>exact h
 |cons t l ih=>exact ih (h.flushN t _)
theorem wk_sub' (addr:Int) (n:Nat): ∀(l:List Slp) (s:List Slp×List Int),(∀x∈(l.foldl (wstep addr n) s).1,x∈s.1∨x∈l)/\ ∀w∈(l.foldl (wstep addr n) s).2,w∈s.2∨ ∃x∈l,x.1=w
 |[],s=>⟨fun x h=> .inl h,fun w h=> .inl h⟩
 |y::l,s=>by
  obtain ⟨h1,h2⟩:=wk_sub' addr n l (wstep addr n s y)
  rw [List.foldl_cons]
  refine ⟨fun x hx=>?_,fun w hw=>?_⟩
  ·rcases h1 x hx with h|h
   ·unfold wstep at h
    split at h
    ·exact .inl h
    ·rcases List.mem_append.1 h with h|h
     ·exact .inl h
     ·rw [List.mem_singleton.1 h];exact .inr (by simp)
   ·exact .inr (by simp [h])
  ·rcases h2 w hw with h|⟨x,h3,h4⟩
   ·unfold wstep at h
    split at h
    ·rcases List.mem_append.1 h with h|h
     ·exact .inl h
     ·exact .inr ⟨y,by simp,(List.mem_singleton.1 h).symm⟩
    ·exact .inl h
   ·exact .inr ⟨x,by simp [h3],h4⟩
theorem wk_sub (addr:Int) (n:Nat) (l:List Slp):(∀x∈(wk addr n l).1,x∈l)/\ ∀w∈(wk addr n l).2,∃x∈l,x.1=w:=by
 obtain ⟨h1,h2⟩:=wk_sub' addr n l ([],[])
 exact ⟨fun x hx=>(h1 x hx).elim (fun h=>by cases h) id,fun w hw=>(h2 w hw).elim (fun h=>by cases h) id⟩
theorem mCan.wake {B:MB} {n:Nat} {s:Mst} (h:mCan B n s) (a:Nat) (v:Int):mCan B n (wakeM s a v).2:=by
 have hl:=wk_len (a:Int) v.toNat s.slp
 refine ⟨h.evs,?_,fun x hx=>?_,h.buf,?_⟩
 ·show (wk (a:Int) v.toNat s.slp).1.length+n<=10000
  have :=h.slp
  omega
 ·have :=h.who x ((wk_sub (a:Int) v.toNat s.slp).1 x hx)
  show _/\x.1<((runT s.ths _).length:Int)
  rw [runT_len]
  exact this
 ·show (runT s.ths _).length<=8
  rw [runT_len]
  exact h.t8
theorem mCan.sleep {B:MB} {n:Nat} {s:Mst} (h:mCan B (n+1) s) (t:Int) (h0:0<=t) (h1:t<(s.ths.length:Int)) (a:Nat):mCan B n (sleepM t s a):=by
 unfold sleepM
 split
 ·refine ⟨by have :=h.evs;show s.evs.length+tot s.bufs+n<=_;omega,by have :=h.slp;simp;omega,fun x hx=>?_,h.buf,h.t8⟩
  rcases List.mem_append.1 hx with hx|hx
  ·exact h.who x hx
  ·rw [List.mem_singleton.1 hx];exact ⟨h0,h1⟩
 ·exact h.less
theorem mCan.note {B:MB} {n:Nat} {s:Mst} (h:mCan B (n+1) s) (t:Int) (x:Evt):mCan B n (noteM t s x):=
 ⟨by have :=h.evs;simp [noteM];omega,by have :=h.slp;simp [noteM];omega,h.who,h.buf,h.t8⟩
theorem mCan.store {B:MB} {n:Nat} {s:Mst} (h:mCan B (n+1) s) (t:Nat) (a:Nat) (v:Int):mCan B n ((tOps B t).store s a v):=by
 show mCan B n (if a<B.m then _ else s)
 split
 case isFalse=>exact h.less
 rename_i ha
 rcases Nat.lt_or_ge t s.bufs.length with ht|ht
 ·refine ⟨?_,by have :=h.slp;show s.slp.length+n<=_;omega,h.who,fun b hb e he=>?_,h.t8⟩
  ·have h1:=h.evs
   have h2:=tot_set s.bufs t (s.bufs.getD t []++[((a:Int),v)]) ht
   simp only [List.length_append,List.length_cons,List.length_nil]at h2
   show s.evs.length+tot (s.bufs.set t _)+n<=_
   omega
  ·rcases mem_set hb with h1|rfl
   ·exact h.buf b h1 e he
   ·rcases List.mem_append.1 he with he|he
    ·obtain ⟨b,h1,h2⟩:=mem_getD he
     exact h.buf b h1 e h2
    ·rw [List.mem_singleton.1 he]
     exact ⟨by show (0:Int)<=(a:Int);omega,by show (a:Int)<(B.m:Int);omega⟩
 ·rw [List.set_eq_of_length_le ht]
  exact h.less
structure tCan (B:MB) (t n:Nat) (s:Mst):Prop where
 can:mCan B n s
 lt:t<s.ths.length
 bl:s.bufs.length=s.ths.length
structure sCan (B:MB) (n:Nat) (s:Mst):Prop where
 can:mCan B n s
 lo:0<=s.who
 hi:s.who<(s.ths.length:Int)
theorem tremote_same (s:Mst):(tremote s).ths=s.ths/\(tremote s).slp=s.slp/\(tremote s).who=s.who/\(tremote s).bufs.length=s.bufs.length/\(tremote s).mem.length=s.mem.length:=by
 have hN: ∀t k (s:Mst),(tflushN t k s).ths=s.ths/\(tflushN t k s).slp=s.slp/\(tflushN t k s).who=s.who/\(tflushN t k s).bufs.length=s.bufs.length/\(tflushN t k s).mem.length=s.mem.length:=by
  intro t k
  induction k with
  |zero=>exact fun s=>⟨rfl,rfl,rfl,rfl,rfl⟩
  |succ k ih=>
   intro s
   obtain ⟨a1,a2,a3,a4,a5⟩:=ih (tflush t s)
   obtain ⟨b1,b2,b3,b4,b5⟩:=tflush_same t s
   exact ⟨a1.trans b1,a2.trans b2,a3.trans b3,a4.trans b4,a5.trans b5⟩
 unfold tremote
 generalize List.range s.bufs.length=l
 induction l generalizing s with
 |nil=>exact ⟨rfl,rfl,rfl,rfl,rfl⟩
 |cons t l ih=>
  obtain ⟨a1,a2,a3,a4,a5⟩:=ih (tdrain s t)
  obtain ⟨b1,b2,b3,b4,b5⟩:=hN t (s.bufs.getD t []).length s
  exact ⟨a1.trans b1,a2.trans b2,a3.trans b3,a4.trans b4,a5.trans b5⟩
theorem sleepM_same (t:Int) (s:Mst) (a:Nat):(sleepM t s a).ths=s.ths/\(sleepM t s a).bufs=s.bufs/\(sleepM t s a).who=s.who:=by
 unfold sleepM
 split<;>exact ⟨rfl,rfl,rfl⟩
theorem tstore_same (B:MB) (t:Nat) (s:Mst) (a:Nat) (v:Int):((tOps B t).store s a v).ths=s.ths/\((tOps B t).store s a v).bufs.length=s.bufs.length:=by
 show (if a<B.m then _ else s:Mst).ths=_/\(if a<B.m then _ else s:Mst).bufs.length=_
 split
 ·exact ⟨rfl,by simp⟩
 ·exact ⟨rfl,rfl⟩
section
variable {B:MB} {t n:Nat} {s:Mst}
theorem tCan.less (h:tCan B t (n+1) s):tCan B t n s:=⟨h.can.less,h.lt,h.bl⟩
theorem tCan.store (h:tCan B t (n+1) s) (a:Nat) (v:Int):tCan B t n ((tOps B t).store s a v):=
 ⟨h.can.store t a v,by rw [(tstore_same B t s a v).1];exact h.lt,by rw [(tstore_same B t s a v).1,(tstore_same B t s a v).2];exact h.bl⟩
theorem tCan.flush (h:tCan B t (n+1) s):tCan B t n (tflush t s):=
 ⟨h.less.can.flush t,by rw [(tflush_same t s).1];exact h.lt,by rw [(tflush_same t s).1,(tflush_same t s).2.2.2.1];exact h.bl⟩
theorem tCan.swap (h:tCan B t (n+1) s) (a:Nat) (v:Int):tCan B t n {s with mem:=s.mem.set a v}:=⟨⟨h.less.can.evs,h.less.can.slp,h.can.who,h.can.buf,h.can.t8⟩,h.lt,h.bl⟩
theorem tCan.sleep (h:tCan B t (n+1) s) (a:Nat):tCan B t n (sleepM (t:Int) s a):=
 ⟨h.can.sleep (t:Int) (by omega) (by have :=h.lt;omega) a,by rw [(sleepM_same (t:Int) s a).1];exact h.lt,by rw [(sleepM_same (t:Int) s a).1,(sleepM_same (t:Int) s a).2.1];exact h.bl⟩
theorem tCan.wake (h:tCan B t (n+1) s) (a:Nat) (v:Int):tCan B t n (wakeM s a v).2:=
 ⟨h.less.can.wake a v,by show t<(runT s.ths _).length;rw [runT_len];exact h.lt,by show s.bufs.length=(runT s.ths _).length;rw [runT_len];exact h.bl⟩
theorem tCan.remote (h:tCan B t (n+1) s):tCan B t n (tremote s):=
 ⟨h.less.can.remote,by rw [(tremote_same s).1];exact h.lt,by rw [(tremote_same s).1,(tremote_same s).2.2.2.1];exact h.bl⟩
theorem tCan.note (h:tCan B t (n+1) s) (x:Evt):tCan B t n (noteM (t:Int) s x):=⟨h.can.note (t:Int) x,h.lt,h.bl⟩
theorem sCan.less (h:sCan B (n+1) s):sCan B n s:=⟨h.can.less,h.lo,h.hi⟩
theorem sCan.set (h:sCan B (n+1) s) (a:Nat) (v:Int):sCan B n {s with mem:=s.mem.set a v}:=⟨⟨h.less.can.evs,h.less.can.slp,h.can.who,h.can.buf,h.can.t8⟩,h.lo,h.hi⟩
theorem sCan.note (h:sCan B (n+1) s) (x:Evt):sCan B n (noteM s.who s x):=⟨h.can.note s.who x,h.lo,h.hi⟩
end
end Go.Proofs.YtmhfpjnkjlhbpaaGreatDoor
