/- Common lemmas for the laws of a seat: what a call leaves of old memory ('Below'), and the last step of a law's row: it returned true, old memory is as it was. Words for memory: a slice that came in ('Sl'), a block of the call's own that is known whole ('Blk'). -/
import Derived.Test.YtmhfpjnkjlhbpaaGreatDoorRows
import Derived.WalkKit
import Derived.ProofKit
import Derived.OpenShut
import Derived.SizedLaws
import Derived.Lib.Hide
import Derived.Deep.Slices
import Derived.Deep.OwnRows
import Derived.Laws.MakeOwn
import Derived.Deep.Fields
import Derived.Deep.Draws
namespace Go.Proofs.YtmhfpjnkjlhbpaaGreatDoor
set_option maxRecDepth 100000
open Go.ChangeShapes Go.WideShapes Go.ChangeAt Go.RowKit
theorem base_own:ownKnob Tryz.prog.godebug=none:=by kernel_rfl
theorem base_laidOut:laidOutB Tryz.prog=true:=by kernel_rfl
theorem step_below {w W w1:World} (h:Below w.heap.size w W) (hb:Below W.heap.size W w1):Below w.heap.size w w1:=h.trans (hb.mono h.size)
theorem keep_cell {W w1:World} {b o:Nat} {v:Value} (hb:Below W.heap.size W w1) (hlt:b<W.heap.size) (h:W.cell? ⟨b,o,none⟩=some v):w1.cell? ⟨b,o,none⟩=some v:=
 (hb.cell (p:=⟨b,o,none⟩) hlt).trans h
section
variable {H:Type} {enc:TypeId×Value->H}
theorem trodAll_stays {P:Program} (hl:laidOutB P=true) {W W':World} (hb:Below W.heap.size W W') (ts:List TypeId):
 ∀(vs:List Value) (ds:List (DataW H)) (ps:List MemPlace),
 ts.all (fun t=>P.readableRec t&&decide (t<P.types.size))=true->(∀x∈ps,x.block<W.heap.size)->
 DataW.TrodAll enc P W 0 (fun _=>true) true ts vs ds ps->DataW.TrodAll enc P W' 0 (fun b=>decide (b<W.heap.size)) true ts vs ds ps:=by
 induction ts with
 |nil=>intro vs ds ps _ _ h;cases vs<;>cases ds<;>first|exact h|exact h.elim
 |cons t ts ih=>
  intro vs ds ps hr hlt h
  obtain ⟨v,vs',d,ds',p,q,rfl,rfl,rfl,h1,h2⟩:=trodAll_cons h
  simp only [List.all_cons,Bool.and_eq_true,decide_eq_true_eq]at hr
  exact trodAll_cons_mk (Below.trod hl hr.1.1 hr.1.2 h1 hb (fun x hx=>hlt x (List.mem_append_left _ hx))) (ih _ _ _ hr.2 (fun x hx=>hlt x (List.mem_append_right _ hx)) h2)
theorem law_post {f:Func} {s:ChangeSpec} {W W':World} {args:Array Value} {ds gs:List (DataW H)} {before:List MemPlace} (tb:TypeId)
 (hv:s.vars=[]) (hrt:f.resultTypes= #[tb]) (hub:Tryz.prog.underlying tb=some .bool)
 (hW:DataW.Whole enc Tryz.prog f.params.toList s.vars false W args.toList ds gs before)
 (hf:s.fn H (ds++gs)={results:=[.lit (.bool true)],args:=ds})
 (hr:f.params.toList.all (fun t=>Tryz.prog.readableRec t&&decide (t<Tryz.prog.types.size))=true)
 (hb:Below W.heap.size W W'):s.post enc Tryz.prog f false true false false W args (.bool true) W':=by
 have hW':=hW
 obtain ⟨p,q,hA,hV,rfl,hfz,hnd⟩:=hW
 rw [hv]at hV
 obtain ⟨rfl,rfl⟩:=trodVars_none hV
 refine ⟨ds,[],p++[],[],p,[],hW',?_,?_,?_,hb.frame _,fun h=>by cases h⟩
 ·rw [hf,hrt]
  exact trodAll_mk1 (shut_bool hub _)
 ·rw [hf]
  exact trodAll_stays base_laidOut hb _ _ _ _ hr (fun x hx=>hW'.lt x (List.mem_append_left _ hx)) hA
 ·rw [hf,hv]
  rfl
theorem trodAll_length {P:Program} {W:World} (ts:List TypeId): ∀(vs:List Value) (ds:List (DataW H)) (ps:List MemPlace),DataW.TrodAll enc P W 0 (fun _=>true) true ts vs ds ps->ds.length=ts.length:=by
 induction ts with
 |nil=>intro vs ds ps h;cases vs<;>cases ds<;>first|rfl|exact h.elim
 |cons t ts ih=>
  intro vs ds ps h
  obtain ⟨v,vs',d,ds',p,q,rfl,rfl,rfl,h1,h2⟩:=trodAll_cons h
  simp [ih _ _ _ h2]
end
end Go.Proofs.YtmhfpjnkjlhbpaaGreatDoor
namespace Go.Proofs.YtmhfpjnkjlhbpaaGreatDoor
open Go.ChangeShapes Go.WideShapes Go.ChangeAt Go.RowKit Go.Deep
def Sl (W:World) (A:Option Addr) (n:Nat) (C:Nat->Value):Prop:=
 0<n-> ∃b off,A=some ⟨b,off,none⟩/\b<W.heap.size/\ ∀i,i<n->W.cell? ⟨b,off+i,none⟩=some (C i)
theorem Sl.below {W w1:World} {A:Option Addr} {n:Nat} {C:Nat->Value} (h:Sl W A n C) {B:Nat} (hB:W.heap.size<=B) (hb:Below B W w1):Sl w1 A n C:=fun hn=>by
 obtain ⟨b,off,rfl,hlt,hc⟩:=h hn
 exact ⟨b,off,rfl,Nat.lt_of_lt_of_le hlt hb.size,fun i hi=>(hb.cell (p:=⟨b,_,none⟩) (Nat.lt_of_lt_of_le hlt hB)).trans (hc i hi)⟩
theorem Sl.nil {W:World} {A:Option Addr} {C:Nat->Value}:Sl W A 0 C:=fun h=>absurd h (by omega)
theorem Sl.grown {W w1:World} {A:Option Addr} {n:Nat} {C:Nat->Value} {r:Nat} (h:Sl W A n C) (hg:W.grownBy w1 (some r)) (hne:0<n-> ∀b off,A=some ⟨b,off,none⟩->b≠r):Sl w1 A n C:=fun hn=>by
 obtain ⟨b,off,rfl,hlt,hc⟩:=h hn
 have hbr:=hne hn b off rfl
 exact ⟨b,off,rfl,Nat.lt_of_lt_of_le hlt hg.size,fun i hi=>(World.cell?_of_block (w:=W) (a:=⟨b,off+i,none⟩) (hg.block b hlt (fun e=>hbr (by injection e)))).trans (hc i hi)⟩
def Blk (w:World) (g:Nat) (t:TypeId) (cs:Array Value):Prop:=w.heap[g]?=some (.cells cs t (0,0))
section
variable {w w':World} {g:Nat} {t:TypeId} {cs:Array Value}
theorem Blk.lt (h:Blk w g t cs):g<w.heap.size:=by
 rcases Nat.lt_or_ge g w.heap.size with hlt|hge
 ·exact hlt
 ·unfold Blk at h;rw [Array.getElem?_eq_none hge]at h;cases h
theorem Blk.cell (h:Blk w g t cs) (i:Nat):w.cell? ⟨g,i,none⟩=cs[i]?:=cell_of_row w g i cs t (0,0) h
theorem Blk.frozen (h:Blk w g t cs) (i:Nat):w.frozen? ⟨g,i,none⟩=false:=by
 unfold Blk at h
 simp [World.frozen?,h]
theorem Blk.new (w:World) (t:TypeId) (cs:Array Value):Blk (w.alloc (.cells cs t)) w.heap.size t cs:=heap_alloc_new w _
theorem Blk.drew (h:Blk w g t cs):Blk w.drew g t cs:=h
theorem Blk.drewN (h:Blk w g t cs) (n:Nat):Blk (w.drewN n) g t cs:=h
theorem Blk.alloc (h:Blk w g t cs) (o:Obj):Blk (w.alloc o) g t cs:=(Below.heap_alloc w o g h.lt).trans h
theorem Blk.set_ (h:Blk w g t cs) (i:Nat) (u:Value):Blk (w.setCell ⟨g,i,none⟩ u) g t (cs.setIfInBounds i u):=by
 unfold Blk at h⊢
 simp [World.setCell,Array.getElem?_modify,h]
theorem Blk.far (h:Blk w g t cs) {p:Addr} (hp:g≠p.block) (u:Value):Blk (w.setCell p u) g t cs:=(Below.heap_setCell w p u g hp).trans h
theorem Blk.below {B:Nat} (h:Blk w g t cs) (hb:Below B w w') (hg:g<B):Blk w' g t cs:=(hb.block g hg).trans h
theorem Blk.grown {row:Option Nat} (h:Blk w g t cs) (hb:w.grownBy w' row) (hg:some g≠row):Blk w' g t cs:=(hb.block g h.lt hg).trans h
end
section
variable {H:Type} {enc:TypeId×Value->H} {P:Program} {W:World}
theorem open_sl_ints {t e:TypeId} {k:IntKind} {v:Value} {d:DataW H} {p:List MemPlace} {base:Nat} (ht:P.underlying t=some (.slice e)) (he:P.underlying e=some (.int k)) (hc:P.cellsOf e=1)
 (hval:Value.okWide P W .any base t v) (h:DataW.Trod enc P W 0 (fun _=>true) true t v d p) (hlt: ∀x∈p,x.block<W.heap.size):
 ∃(A:Option Addr) (len cap:Nat) (Z:Nat->Int),v= .slice A len cap/\len<=cap/\cap<=maxLen/\Sl W A len (fun i=> .int k (Z i))/\(∀i,i<len->(Lit.int k (Z i)).wf=true):=by
 obtain ⟨a0,len,cap,rfl⟩:=okWide_slice ht hval
 obtain ⟨fuel,hf⟩:=h
 rcases open_ints ht he hc hf with ⟨hcs,hx⟩|⟨a,len',cap',zs,hcs,_,hl,hm,hz,hx,hcell,hwz⟩
 ·simp [Value.cells]at hcs
  obtain ⟨rfl,rfl,rfl⟩:=hcs
  exact ⟨none,0,0,fun _=>0,rfl,Nat.le_refl _,Nat.zero_le _,Sl.nil,fun i hi=>absurd hi (by omega)⟩
 ·simp [Value.cells]at hcs
  obtain ⟨rfl,rfl,rfl⟩:=hcs
  simp only [Prod.mk.injEq]at hx
  obtain ⟨rfl,rfl⟩:=hx
  simp only [if_true]at hz
  refine ⟨some a,len,cap,fun i=>zs.getD i 0,rfl,hl,hm,fun hn=>?_,fun i hi=>hwz _ ?_⟩
  ·obtain ⟨b,off,spot⟩:=a
   have hspot:spot=none:=by simpa [Addr.add]using World.cell?_spot (hcell 0 (by omega))
   subst hspot
   have hbW:b<W.heap.size:=hlt (.cell b off) (MemPlace.mem_row.2 ⟨0,by omega,by simp⟩)
   exact ⟨b,off,rfl,hbW,fun j hj=>by rw [<-add_plain];exact hcell j (by omega)⟩
  ·have :i<zs.length:=by omega
   simp [List.getD,List.getElem?_eq_getElem this]
end
def SlE (W:World) (A:Option Addr) (len size:Nat) (E:Nat->List Value):Prop:=
 0<len-> ∃b off,A=some ⟨b,off,none⟩/\b<W.heap.size/\ ∀i,i<len-> ∀j u,(E i)[j]?=some u->W.cell? ⟨b,off+i*size+j,none⟩=some u
theorem SlE.below {W w1:World} {A:Option Addr} {len size:Nat} {E:Nat->List Value} (h:SlE W A len size E) {B:Nat} (hB:W.heap.size<=B) (hb:Below B W w1):SlE w1 A len size E:=fun hn=>by
 obtain ⟨b,off,rfl,hlt,hc⟩:=h hn
 exact ⟨b,off,rfl,Nat.lt_of_lt_of_le hlt hb.size,fun i hi j u hu=>(hb.cell (p:=⟨b,_,none⟩) (Nat.lt_of_lt_of_le hlt hB)).trans (hc i hi j u hu)⟩
theorem SlE.nil {W:World} {A:Option Addr} {size:Nat} {E:Nat->List Value}:SlE W A 0 size E:=fun h=>absurd h (by omega)
section
variable {H:Type} {enc:TypeId×Value->H} {P:Program} {W:World}
end
end Go.Proofs.YtmhfpjnkjlhbpaaGreatDoor
