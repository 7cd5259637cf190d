/- Calls as slices of old memory: what the gathering of all threads' calls leans on. -/
import Derived.Test.YtmhfpjnkjlhbpaaGreatDoorQj36
import Derived.Test.YtmhfpjnkjlhbpaaGreatDoorQj30
namespace Go.Proofs.YtmhfpjnkjlhbpaaGreatDoor
open Go.ChangeShapes Go.WideShapes Go.ChangeAt Go.RowKit Go.Deep
set_option linter.unusedVariables false
set_option maxRecDepth 100000
set_option linter.unusedSimpArgs false
abbrev CV:=Cl×Value
def CV.cells (p:CV):List Value:=p.1.cellsV p.2
def cv0:CV:=(default,undef)
def PT (W:World) (lo hi:Nat) (v:Value) (l:List CV):Prop:= ∃A cap,v= .slice A l.length cap/\l.length<=cap/\cap<=maxLen/\
 (0<l.length-> ∃b off,A=some ⟨b,off,none⟩/\lo<=b/\b<hi/\ ∀i,i<l.length-> ∀j u,(l.getD i cv0).cells[j]?=some u->W.cell? ⟨b,off+i*6+j,none⟩=some u)
def INN (W:World) (lo hi:Nat) (p:CV):Prop:= ∃A cap,p.2= .slice A p.1.inner.length cap/\p.1.inner.length<=cap/\
 (0<p.1.inner.length-> ∃b off,A=some ⟨b,off,none⟩/\lo<=b/\b<hi/\ ∀i,i<p.1.inner.length->W.cell? ⟨b,off+i,none⟩=some (.int .i64 (p.1.inner.getD i 0)))
section
variable {W W':World} {lo hi hi':Nat} {v:Value} {l:List CV} {p:CV}
theorem cell_same {b o:Nat} (h:W'.heap[b]?=W.heap[b]?):W'.cell? ⟨b,o,none⟩=W.cell? ⟨b,o,none⟩:=World.cell?_of_block (w:=W) (a:=⟨b,o,none⟩) h
theorem PT.keep (h:PT W lo hi v l) (hk: ∀b,lo<=b->b<hi->W'.heap[b]?=W.heap[b]?):PT W' lo hi v l:=by
 obtain ⟨A,cap,e,h1,h2,h3⟩:=h
 refine ⟨A,cap,e,h1,h2,fun hp=>?_⟩
 obtain ⟨b,off,e2,hb1,hb2,h4⟩:=h3 hp
 exact ⟨b,off,e2,hb1,hb2,fun i hi j u hu=>(cell_same (hk b hb1 hb2)).trans (h4 i hi j u hu)⟩
theorem INN.keep (h:INN W lo hi p) (hk: ∀b,lo<=b->b<hi->W'.heap[b]?=W.heap[b]?):INN W' lo hi p:=by
 obtain ⟨A,cap,e,h1,h3⟩:=h
 refine ⟨A,cap,e,h1,fun hp=>?_⟩
 obtain ⟨b,off,e2,hb1,hb2,h4⟩:=h3 hp
 exact ⟨b,off,e2,hb1,hb2,fun i hi=>(cell_same (hk b hb1 hb2)).trans (h4 i hi)⟩
theorem PT.wide (h:PT W lo hi v l) (hh:hi<=hi'):PT W lo hi' v l:=by
 obtain ⟨A,cap,e,h1,h2,h3⟩:=h
 refine ⟨A,cap,e,h1,h2,fun hp=>?_⟩
 obtain ⟨b,off,e2,hb1,hb2,h4⟩:=h3 hp
 exact ⟨b,off,e2,hb1,Nat.lt_of_lt_of_le hb2 hh,h4⟩
theorem INN.wide (h:INN W lo hi p) (hh:hi<=hi'):INN W lo hi' p:=by
 obtain ⟨A,cap,e,h1,h3⟩:=h
 refine ⟨A,cap,e,h1,fun hp=>?_⟩
 obtain ⟨b,off,e2,hb1,hb2,h4⟩:=h3 hp
 exact ⟨b,off,e2,hb1,Nat.lt_of_lt_of_le hb2 hh,h4⟩
theorem PT.lower {lo':Nat} (h:PT W lo hi v l) (hh:lo'<=lo):PT W lo' hi v l:=by
 obtain ⟨A,cap,e,h1,h2,h3⟩:=h
 refine ⟨A,cap,e,h1,h2,fun hp=>?_⟩
 obtain ⟨b,off,e2,hb1,hb2,h4⟩:=h3 hp
 exact ⟨b,off,e2,Nat.le_trans hh hb1,hb2,h4⟩
theorem INN.lower {lo':Nat} (h:INN W lo hi p) (hh:lo'<=lo):INN W lo' hi p:=by
 obtain ⟨A,cap,e,h1,h3⟩:=h
 refine ⟨A,cap,e,h1,fun hp=>?_⟩
 obtain ⟨b,off,e2,hb1,hb2,h4⟩:=h3 hp
 exact ⟨b,off,e2,Nat.le_trans hh hb1,hb2,h4⟩
theorem PT.tail {b off cap n:Nat} (h:PT W lo hi (.slice (some ⟨b,off,none⟩) (n+1) cap) (p::l)) (hn:n=l.length):
 PT W lo hi (.slice (if cap-1=0 then some ⟨b,off,none⟩else some ⟨b,off+6,none⟩) n (cap-1)) l:=by
 subst hn
 obtain ⟨A,cap',e,h1,h2,h3⟩:=h
 simp only [Value.slice.injEq,List.length_cons]at e h1
 obtain ⟨rfl,_,rfl⟩:=e
 refine ⟨_,_,rfl,by omega,by omega,fun hp=>?_⟩
 obtain ⟨b',off',e2,hb1,hb2,h4⟩:=h3 (by simp)
 simp only [Option.some.injEq,Addr.mk.injEq,and_true]at e2
 obtain ⟨rfl,rfl⟩:=e2
 rw [if_neg (by omega)]
 refine ⟨b,off+6,rfl,hb1,hb2,fun i hi j u hu=>?_⟩
 have :=h4 (i+1) (by simp;omega) j u (by simpa using hu)
 rw [show off+6+i*6+j=off+(i+1)*6+j by omega]
 exact this
end
theorem zip_getD (C:List Cl): ∀(IV:List Value) (i:Nat),IV.length=C.length->i<C.length->(C.zip IV).getD i cv0=(C.getD i default,IV.getD i undef):=by
 intro IV i h hi
 simp [List.getD_eq_getElem?_getD,List.getElem?_eq_getElem (show i<(C.zip IV).length by simp;omega),List.getElem?_eq_getElem hi,List.getElem?_eq_getElem (show i<IV.length by omega)]
theorem clC_get (C:List Cl): ∀(IV:List Value) (i j:Nat),IV.length=C.length->i<C.length->j<6->(clC C IV)[i*6+j]?=((C.getD i default).cellsV (IV.getD i undef))[j]?:=by
 induction C with
 |nil=>intro IV i j _ hi;simp at hi
 |cons c C ih=>
  intro IV i j h hi hj
  match IV,h with
  |v::IV,h=>
   have e:clC (c::C) (v::IV)=c.cellsV v++clC C IV:=rfl
   rw [e]
   rcases i with _|i
   ·rw [List.getElem?_append_left (by show 0*6+j<6;omega)]
    simp
   ·rw [List.getElem?_append_right (by show 6<=(i+1)*6+j;omega)]
    have :=ih IV i j (by simpa using h) (by simpa using hi) hj
    rw [show (i+1)*6+j-(c.cellsV v).length=i*6+j by show (i+1)*6+j-6=_;omega,this]
    simp
theorem CM.pt {W:World} {base bl lo hi:Nat} {v:Value} {C:List Cl} {IV:List Value} (h:CM W base bl v C IV) (h1:lo<=base) (h2:W.heap.size<=hi):
 ∃Z:List CV,Z.map (·.1)=C/\PT W lo hi v Z/\ ∀p∈Z,INN W lo hi p:=by
 have hzl:(C.zip IV).length=C.length:=by simp [h.il]
 refine ⟨C.zip IV,?_,?_,?_⟩
 ·exact List.map_fst_zip (by rw [h.il];exact Nat.le_refl _)
 ·obtain ⟨A,cap,e,hc1,hc2⟩:=own_cap h.row
  refine ⟨A,cap,by rw [hzl];exact e,by rw [hzl];exact hc1,hc2,fun hp=>?_⟩
  rw [hzl]at hp
  rcases h.row.2 with ⟨rfl,e0⟩|⟨g,cap',cur,e0,hg,hh,_⟩
  ·omega
  ·rw [e0]at e
   simp only [Value.slice.injEq]at e
   obtain ⟨rfl,_,_⟩:=e
   have hlt:g<W.heap.size:=own_lt h.row g (by rw [e0];rfl)
   refine ⟨g,0,rfl,by omega,by omega,fun i hi j u hu=>?_⟩
   rw [hzl]at hi
   rw [zip_getD _ _ _ h.il hi]at hu
   have hj:j<6:=(List.getElem?_eq_some_iff.1 hu).1
   have hrow:=h.row
   rw [e0]at hrow
   rw [Nat.zero_add,World.ownsRow.cellAt hrow _ (by omega),clC_get _ _ _ _ h.il hi hj]
   exact hu
 ·intro p hp
  obtain ⟨i,hi,rfl⟩:=List.mem_iff_getElem.1 hp
  have hi':i<C.length:=by rw [hzl]at hi;exact hi
  have hin:=h.inn i hi'
  have e1:(C.zip IV)[i]=(C.getD i default,IV.getD i undef):=by
   rw [<-zip_getD _ _ _ h.il hi']
   simp [List.getD_eq_getElem?_getD,List.getElem?_eq_getElem hi]
  rw [e1]
  obtain ⟨A,cap,e,hc1,hc2⟩:=own_cap hin
  refine ⟨A,cap,e,hc1,fun hp=>?_⟩
  dsimp only at hp
  rcases hin.2 with ⟨_,e0⟩|⟨g,cap',cur,e0,hg,hh,_⟩
  ·rw [e0]at hp;omega
  ·rw [e0]at e
   simp only [Value.slice.injEq]at e
   obtain ⟨rfl,_,_⟩:=e
   have hlt:g<W.heap.size:=own_lt hin g (by rw [e0];rfl)
   refine ⟨g,0,rfl,by omega,by omega,fun k hk=>?_⟩
   dsimp only at hk
   have hrow:=hin
   rw [e0]at hrow
   rw [Nat.zero_add,World.ownsRow.cellAt hrow _ (by omega)]
   dsimp only
   generalize C.getD i default=c at hk⊢
   simp [List.getD_eq_getElem?_getD,List.getElem?_eq_getElem hk]
theorem all_of_each (R:List Cl) (hR:R.Pairwise (fun a b=>a.began<b.began)) (hw: ∀c∈R,0<=c.who/\c.who<8) (P:CV->Prop) (Z:Nat->List CV)
 (hZ: ∀t:Nat,t<8->(Z t).map (·.1)=R.filter (fun c=>c.who==(t:Int))) (hP: ∀t:Nat,t<8-> ∀p∈Z t,P p):
 ∃RV:List CV,RV.map (·.1)=R/\(∀t:Nat,t<8->RV.filter (fun p=>p.1.who==(t:Int))=Z t)/\ ∀p∈RV,P p:=by
 let f:Cl->CV:=fun c=>(c,(((Z c.who.toNat).find? (fun p=>p.1.began==c.began)).map (·.2)).getD undef)
 have hmem: ∀t:Nat,t<8-> ∀p∈Z t,f p.1=p:=by
  intro t ht p hp
  have hp1:p.1∈R.filter (fun c=>c.who==(t:Int)):=by rw [<-hZ t ht];exact List.mem_map_of_mem hp
  have hwho:p.1.who=(t:Int):=by simpa using (List.mem_filter.1 hp1).2
  have hfind:(Z t).find? (fun q=>q.1.began==p.1.began)=some p:=by
   have hs:(Z t).Pairwise (fun a b=>a.1.began<b.1.began):=by
    have :=hR.filter (fun c=>c.who==(t:Int))
    rw [<-hZ t ht,List.pairwise_map]at this
    exact this
   obtain ⟨a,b,hab⟩:=List.append_of_mem hp
   rw [hab]at hs⊢
   rw [List.find?_append]
   have hn:a.find? (fun q=>q.1.began==p.1.began)=none:=by
    rw [List.find?_eq_none]
    intro q hq
    have :=(List.pairwise_append.1 hs).2.2 q hq p (by simp)
    simp
    omega
   rw [hn]
   simp
  show (p.1,_)=p
  rw [hwho,Int.toNat_natCast,hfind]
  rfl
 refine ⟨R.map f,?_,fun t ht=>?_,fun p hp=>?_⟩
 ·rw [List.map_map]
  exact List.map_id R
 ·rw [List.filter_map]
  have e:(fun p:CV=>p.1.who==(t:Int))∘f=fun c=>c.who==(t:Int):=rfl
  rw [e,<-hZ t ht,List.map_map]
  conv=>rhs;rw [<-List.map_id (Z t)]
  exact List.map_congr_left fun p hp=>hmem t ht p hp
 ·obtain ⟨c,hc,rfl⟩:=List.mem_map.1 hp
  obtain ⟨h0,h8⟩:=hw c hc
  have ht:c.who.toNat<8:=by omega
  have hc':c∈(Z c.who.toNat).map (·.1):=by
   rw [hZ _ ht]
   exact List.mem_filter.2 ⟨hc,by simp;omega⟩
  obtain ⟨q,hq,e⟩:=List.mem_map.1 hc'
  rw [<-e,hmem _ ht q hq]
  exact hP _ ht q hq
theorem each_tail (p:CV) (rest:List CV) (hw:0<=p.1.who) (t:Nat):(p::rest).filter (fun q=>q.1.who==(t:Int))=if t=p.1.who.toNat then p::rest.filter (fun q=>q.1.who==(t:Int))else rest.filter (fun q=>q.1.who==(t:Int)):=by
 rw [List.filter_cons]
 by_cases h:t=p.1.who.toNat
 ·rw [if_pos h,if_pos (by simp;omega)]
 ·rw [if_neg h,if_neg (by simp;omega)]
end Go.Proofs.YtmhfpjnkjlhbpaaGreatDoor
