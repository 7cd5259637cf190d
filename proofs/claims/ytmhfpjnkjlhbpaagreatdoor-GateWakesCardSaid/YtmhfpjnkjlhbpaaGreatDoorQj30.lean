/- Calls: as rows of cells whose last field is a row of their own; how they come about, event by event. The document's calls, one by one, as lists: each thread's are what goes through its events gathers. Calls (plain): what they say of events, and events of them. Calls of a machine's events (plain). barrier (plain): what the calls of threads say that enter it: nobody left ahead of the last one. law21.Meet.program: threads that enter a barrier, each of those that have a part in it so often. -/
import Derived.Test.YtmhfpjnkjlhbpaaGreatDoorQj29
import Derived.Test.YtmhfpjnkjlhbpaaGreatDoorQj25
import Derived.Laws.OwnMore
import Derived.Test.YtmhfpjnkjlhbpaaGreatDoorQj27
import Derived.Test.YtmhfpjnkjlhbpaaGreatDoorQj28
namespace Go.Proofs.YtmhfpjnkjlhbpaaGreatDoor
open Go.ChangeShapes Go.WideShapes Go.ChangeAt Go.RowKit Go.Deep
set_option linter.unusedVariables false
set_option maxRecDepth 100000
set_option linter.unusedSimpArgs false
structure Cl where
 (site who began ended result:Int)
 inner:List Int
instance:Inhabited Cl:=⟨⟨0,0,0,0,0,[]⟩⟩
def Cl.cellsV (c:Cl) (iv:Value):List Value:=[.int .i64 c.site,.int .i64 c.who,.int .i64 c.began,.int .i64 c.ended,.int .u32 c.result,iv]
def clC (C:List Cl) (IV:List Value):List Value:=(C.zip IV).flatMap fun p=>p.1.cellsV p.2
theorem clC_snoc (C:List Cl) (IV:List Value) (h:IV.length=C.length) (c:Cl) (iv:Value):clC (C++[c]) (IV++[iv])=clC C IV++c.cellsV iv:=by
 unfold clC
 rw [List.zip_append h.symm,List.flatMap_append]
 simp
theorem clC_len (C:List Cl) (IV:List Value) (h:IV.length=C.length):(clC C IV).length=C.length*6:=by
 unfold clC
 rw [slp_len6 (C.zip IV),List.length_zip,h,Nat.min_self]
where
 slp_len6: ∀l:List (Cl×Value),(l.flatMap fun p=>p.1.cellsV p.2).length=l.length*6
  |[]=>rfl
  |x::l=>by rw [List.flatMap_cons,List.length_append,slp_len6 l,List.length_cons];show 6+_=_;omega
structure CM (W:World) (base bl:Nat) (v:Value) (C:List Cl) (IV:List Value):Prop where
 il:IV.length=C.length
 row:W.ownsRow base 72 6 v C.length (clC C IV)
 inn: ∀j,j<C.length->W.ownsRow base 3 1 (IV.getD j undef) (C.getD j default).inner.length ((C.getD j default).inner.map (Value.int .i64))
 old: ∀j,j+1<C.length-> ∀i,(IV.getD j undef).ownBlock=some i->i<bl
 las: ∀j,j+1=C.length-> ∀i,(IV.getD j undef).ownBlock=some i->bl<=i
 b1:base<=bl
 b2:bl<=W.heap.size
section
variable {W W':World} {base bl:Nat} {v:Value} {C:List Cl} {IV:List Value}
theorem CM.nil (W:World) (base:Nat) (hb:base<=W.heap.size):CM W base base (.slice none 0 0) [] []:=
 ⟨rfl,⟨rfl,.inl ⟨rfl,rfl⟩⟩,fun j hj=>absurd hj (by simp),fun j hj=>absurd hj (by simp),fun j hj=>absurd hj (by simp),Nat.le_refl _,hb⟩
theorem CM.below (h:CM W base bl v C IV) (hb:Below W.heap.size W W'):CM W' base bl v C IV:=
 ⟨h.il,own_below h.row (Nat.le_refl _) hb,fun j hj=>own_below (h.inn j hj) (Nat.le_refl _) hb,h.old,h.las,h.b1,Nat.le_trans h.b2 hb.size⟩
theorem CM.alloc (h:CM W base bl v C IV) (o:Obj):CM (W.alloc o) base bl v C IV:=h.below ((Below.refl _ _).alloc (Nat.le_refl _) o)
theorem CM.grown {r:Nat} (h:CM W base bl v C IV) (hg:W.grownBy W' (some r)) (hr:r<base):CM W' base bl v C IV:=
 ⟨h.il,own_grown h.row hg hr,fun j hj=>own_grown (h.inn j hj) hg hr,h.old,h.las,h.b1,Nat.le_trans h.b2 hg.size⟩
theorem own_far {w w':World} {base:Nat} {e:TypeId} {size n:Nat} {v:Value} {xs:List Value} {row:Option Nat} (h:w.ownsRow base e size v n xs) (hg:w.grownBy w' row) (hne: ∀i,v.ownBlock=some i->row≠some i):w'.ownsRow base e size v n xs:=by
 obtain ⟨h1,h2⟩:=h
 refine ⟨h1,?_⟩
 rcases h2 with h2|⟨g,cap,cur,rfl,hgb,hh,q⟩
 ·exact .inl h2
 ·have hlt:g<w.heap.size:=by
   rcases Nat.lt_or_ge g w.heap.size with hlt|hge
   ·exact hlt
   ·rw [Array.getElem?_eq_none hge]at hh;cases hh
  exact .inr ⟨g,cap,cur,rfl,hgb,(hg.block g hlt (fun e=>hne g rfl e.symm)).trans hh,q⟩
theorem own_lt {w:World} {base:Nat} {e:TypeId} {size n:Nat} {v:Value} {xs:List Value} (h:w.ownsRow base e size v n xs): ∀i,v.ownBlock=some i->i<w.heap.size:=by
 intro i hi
 rcases h.2 with ⟨rfl,_⟩|⟨g,cap,cur,rfl,hgb,hh,q⟩
 ·cases hi
 ·obtain rfl:=Option.some.inj hi
  rcases Nat.lt_or_ge g w.heap.size with hlt|hge
  ·exact hlt
  ·rw [Array.getElem?_eq_none hge]at hh;cases hh
theorem CM.begin_ {w5:World} {v':Value} {c:Cl} {o:Obj} (h:CM W base bl v C IV) (hc:c.inner=[]) (hg:(W.alloc o).grownBy w5 v.ownBlock) (hown:w5.ownsRow base 72 6 v' (C.length+1) (clC C IV++c.cellsV (.slice none 0 0))):
 CM w5 base W.heap.size v' (C++[c]) (IV++[.slice none 0 0]):=by
 have h1:=h.alloc o
 have gl: ∀j,j<C.length->(IV++[Value.slice none 0 0]).getD j undef=IV.getD j undef/\(C++[c]).getD j default=C.getD j default:=fun j hj=>
  ⟨by simp [List.getD_eq_getElem?_getD,List.getElem?_append_left (show j<IV.length by rw [h.il];exact hj)],by simp [List.getD_eq_getElem?_getD,List.getElem?_append_left hj]⟩
 have ge:(IV++[Value.slice none 0 0]).getD C.length undef= .slice none 0 0/\(C++[c]).getD C.length default=c:=
  ⟨by rw [<-h.il];simp [List.getD_eq_getElem?_getD],by simp [List.getD_eq_getElem?_getD]⟩
 refine ⟨by simp [h.il],?_,fun j hj=>?_,fun j hj i hi=>?_,fun j hj i hi=>?_,Nat.le_trans h.b1 h.b2,?_⟩
 ·rw [clC_snoc _ _ h.il,List.length_append];exact hown
 ·rw [List.length_append]at hj
  rcases (by simp at hj;omega:j<C.length∨j=C.length)with hj|rfl
  ·rw [(gl j hj).1,(gl j hj).2]
   exact own_apart (h1.inn j hj) h1.row (by decide) hg
  ·rw [ge.1,ge.2,hc]
   exact ⟨rfl,.inl ⟨rfl,rfl⟩⟩
 ·rw [List.length_append]at hj
  have hj':j<C.length:=by simp at hj;exact hj
  rw [(gl j hj').1]at hi
  exact own_lt (h.inn j hj') i hi
 ·rw [List.length_append]at hj
  obtain rfl:j=C.length:=by simp at hj;exact hj
  rw [ge.1]at hi
  cases hi
 ·have :=hg.size
  simp at this
  omega
end
section
variable {W w5:World} {base bl g cap:Nat} {C:List Cl} {IV:List Value} {c:Cl} {lv:Value}
theorem snoc_get (h:IV.length=C.length):(∀(u:Value) j,j<C.length->(IV++[u]).getD j undef=IV.getD j undef)/\(∀(d:Cl) j,j<C.length->(C++[d]).getD j default=C.getD j default)/\(∀u:Value,(IV++[u]).getD C.length undef=u)/\(∀d:Cl,(C++[d]).getD C.length default=d):=
 ⟨fun u j hj=>by simp [List.getD_eq_getElem?_getD,List.getElem?_append_left (show j<IV.length by rw [h];exact hj)],fun d j hj=>by simp [List.getD_eq_getElem?_getD,List.getElem?_append_left hj],
  fun u=>by rw [<-h];simp [List.getD_eq_getElem?_getD],fun d=>by simp [List.getD_eq_getElem?_getD]⟩
theorem CM.il' (h:CM W base bl (.slice (some ⟨g,0,none⟩) (C.length+1) cap) (C++[c]) (IV++[lv])):IV.length=C.length:=by have :=h.il;simpa using this
theorem CM.cell (h:CM W base bl (.slice (some ⟨g,0,none⟩) (C.length+1) cap) (C++[c]) (IV++[lv])) (j:Nat) (hj:j<6):W.cell? ⟨g,C.length*6+j,none⟩=(c.cellsV lv)[j]?:=by
 have hrow:=h.row
 rw [clC_snoc _ _ h.il',List.length_append]at hrow
 rw [World.ownsRow.cellAt hrow _ (by show _<(C.length+1)*6;omega),List.getElem?_append_right (by rw [clC_len _ _ h.il'];omega),clC_len _ _ h.il']
 congr 1
 omega
theorem CM.frozen (h:CM W base bl (.slice (some ⟨g,0,none⟩) (C.length+1) cap) (C++[c]) (IV++[lv])) (j:Nat):W.frozen? ⟨g,j,none⟩=false:=by
 have hrow:=h.row
 rw [List.length_append]at hrow
 exact World.ownsRow.frozenAt hrow j
theorem set_last {L M N:List Value} (j:Nat) (u:Value) (h:M.set j u=N):(L++M).set (L.length+j) u=L++N:=by
 rw [List.set_append_right _ _ (by omega),Nat.add_sub_cancel_left,h]
theorem CM.inner {lv':Value} {o:Obj} {z:Int} (h:CM W base bl (.slice (some ⟨g,0,none⟩) (C.length+1) cap) (C++[c]) (IV++[lv])) (hg:(W.alloc o).grownBy w5 lv.ownBlock)
 (hown:w5.ownsRow base 3 1 lv' (c.inner.length+1) (c.inner.map (Value.int .i64)++[.int .i64 z])) (hnew:lv'.ownBlock=lv.ownBlock∨lv'.ownBlock=some (W.alloc o).heap.size):
 CM (w5.setCell ⟨g,C.length*6+5,none⟩ lv') base bl (.slice (some ⟨g,0,none⟩) (C.length+1) cap) (C++[{c with inner:=c.inner++[z]}]) (IV++[lv']):=by
 have h1:=h.alloc o
 obtain ⟨s1,s2,s3,s4⟩:=snoc_get h.il'
 have hlast:=h1.inn C.length (by simp)
 rw [s3,s4]at hlast
 have hlas:=h.las C.length (by simp)
 rw [s3]at hlas
 have hrow5:w5.ownsRow base 72 6 (.slice (some ⟨g,0,none⟩) (C.length+1) cap) (C.length+1) (clC C IV++c.cellsV lv):=by
  have :=own_apart h1.row hlast (by decide) hg
  rwa [clC_snoc _ _ h.il',List.length_append]at this
 have hst:=hrow5.stored (C.length*6+5) lv'
 have hset:w5.grownBy (w5.setCell ⟨g,C.length*6+5,none⟩ lv') (some g):=hst.2
 refine ⟨by simp [h.il'],?_,fun j hj=>?_,fun j hj i hi=>?_,fun j hj i hi=>?_,h.b1,?_⟩
 ·rw [clC_snoc _ _ h.il',List.length_append]
  have :=hst.1
  rw [<-clC_len C IV h.il',set_last 5 lv' (N:=Cl.cellsV {c with inner:=c.inner++[z]} lv') rfl]at this
  rw [clC_len C IV h.il']at this
  exact this
 ·rw [List.length_append]at hj
  rcases (by simp at hj;omega:j<C.length∨j=C.length)with hj|rfl
  ·rw [s1 _ j hj,s2 _ j hj]
   have h2:=h1.inn j (by simp;omega)
   rw [s1 _ j hj,s2 _ j hj]at h2
   have ho:=h.old j (by simp;omega)
   rw [s1 _ j hj]at ho
   exact own_apart (own_far h2 hg (fun i e e2=>by have :=ho i e;have :=hlas i e2;omega)) hrow5 (by decide) hset
  ·rw [s3,s4,List.length_append,List.map_append]
   exact own_apart hown hrow5 (by decide) hset
 ·rw [List.length_append]at hj
  have hj':j<C.length:=by simp at hj;exact hj
  rw [s1 _ j hj']at hi
  have ho:=h.old j (by simp;omega)
  rw [s1 _ j hj']at ho
  exact ho i hi
 ·rw [List.length_append]at hj
  obtain rfl:j=C.length:=by simp at hj;exact hj
  rw [s3]at hi
  rcases hnew with e|e
  ·rw [e]at hi;exact hlas i hi
  ·rw [e]at hi
   have :=Option.some.inj hi
   have :=h1.b2
   omega
 ·exact Nat.le_trans h1.b2 (Nat.le_trans hg.size hset.size)
theorem CM.later {o:Obj} (h:CM W base bl (.slice (some ⟨g,0,none⟩) (C.length+1) cap) (C++[c]) (IV++[lv])) (hg:(W.alloc o).grownBy w5 lv.ownBlock):w5.cell? ⟨g,C.length*6+5,none⟩=some lv/\w5.frozen? ⟨g,C.length*6+5,none⟩=false:=by
 have h1:=h.alloc o
 obtain ⟨s1,s2,s3,s4⟩:=snoc_get h.il'
 have hlast:=h1.inn C.length (by simp)
 rw [s3,s4]at hlast
 have hrow5:w5.ownsRow base 72 6 (.slice (some ⟨g,0,none⟩) (C.length+1) cap) (C.length+1) (clC C IV++c.cellsV lv):=by
  have :=own_apart h1.row hlast (by decide) hg
  rwa [clC_snoc _ _ h.il',List.length_append]at this
 refine ⟨?_,hrow5.frozenAt _⟩
 rw [hrow5.cellAt _ (by omega),List.getElem?_append_right (by rw [clC_len _ _ h.il'];omega),clC_len _ _ h.il',Nat.add_sub_cancel_left]
 rfl
theorem CM.fin (z:Int) (r:Int) (h:CM W base bl (.slice (some ⟨g,0,none⟩) (C.length+1) cap) (C++[c]) (IV++[lv])):
 CM ((W.setCell ⟨g,C.length*6+3,none⟩ (.int .i64 z)).setCell ⟨g,C.length*6+4,none⟩ (.int .u32 r)) base bl (.slice (some ⟨g,0,none⟩) (C.length+1) cap) (C++[{c with ended:=z,result:=r}]) (IV++[lv]):=by
 obtain ⟨s1,s2,s3,s4⟩:=snoc_get h.il'
 have hrow:=h.row
 rw [clC_snoc _ _ h.il',List.length_append]at hrow
 have st1:=hrow.stored (C.length*6+3) (.int .i64 z)
 have st2:=World.ownsRow.stored st1.1 (C.length*6+4) (.int .u32 r)
 have hg:W.grownBy ((W.setCell ⟨g,C.length*6+3,none⟩ (.int .i64 z)).setCell ⟨g,C.length*6+4,none⟩ (.int .u32 r)) (some g):=grown_trans' st1.2 st2.2
 refine ⟨by simp [h.il'],?_,fun j hj=>?_,fun j hj i hi=>?_,fun j hj i hi=>?_,h.b1,Nat.le_trans h.b2 hg.size⟩
 ·rw [clC_snoc _ _ h.il',List.length_append]
  have :=st2.1
  rw [<-clC_len C IV h.il',set_last 3 _ (N:=Cl.cellsV {c with ended:=z} lv) rfl,set_last 4 _ (N:=Cl.cellsV {c with ended:=z,result:=r} lv) rfl]at this
  rw [clC_len C IV h.il']at this
  exact this
 ·rw [List.length_append]at hj
  rcases (by simp at hj;omega:j<C.length∨j=C.length)with hj|rfl
  ·rw [s2 _ j hj]
   have h2:=h.inn j (by simp;omega)
   rw [s2 _ j hj]at h2
   exact own_apart h2 hrow (by decide) hg
  ·rw [s4]
   have h2:=h.inn C.length (by simp)
   rw [s4]at h2
   exact own_apart h2 hrow (by decide) hg
 ·exact h.old j (by simp at hj⊢;omega) i hi
 ·exact h.las j (by simp at hj⊢;omega) i hi
end
def modLast (f:Cl->Cl) (C:List Cl):List Cl:=match C.getLast? with
 |some c=>C.dropLast++[f c]
 |none=>C
def lastSite (C:List Cl):Int:=match C.getLast? with
 |some c=>c.site
 |none=>0
theorem modLast_snoc (f:Cl->Cl) (C:List Cl) (c:Cl):modLast f (C++[c])=C++[f c]:=by
 unfold modLast
 simp
theorem lastSite_snoc (C:List Cl) (c:Cl):lastSite (C++[c])=c.site:=by
 unfold lastSite
 simp
def cstep (t:Int) (s:List Cl×Bool) (x:Nat×EvB):List Cl×Bool:=
 if x.2.kind≠7 then (if s.2=true/\x.2.kind≠3 then (modLast (fun c=>{c with inner:=c.inner++[(x.1:Int)]}) s.1,true)else s)
 else if x.2.k % 2=0 then (s.1++[⟨x.2.k/2,t,(x.1:Int),-1,0,[]⟩],true)
 else if s.2=true/\lastSite s.1=x.2.k/2 then (modLast (fun c=>{c with ended:=(x.1:Int),result:=x.2.value}) s.1,false)else s
def callsF (t:Int) (pre:List (Nat×EvB)):List Cl×Bool:=pre.foldl (cstep t) ([],false)
theorem callsF_snoc (t:Int) (pre:List (Nat×EvB)) (x:Nat×EvB):callsF t (pre++[x])=cstep t (callsF t pre) x:=by unfold callsF;rw [List.foldl_append];rfl
def ostep (s:Cl×Bool) (x:Nat×EvB):Cl×Bool:=
 if s.2=false then s else if x.2.who≠s.1.who then s
 else if x.2.kind≠7 then (if x.2.kind≠3 then ({s.1 with inner:=s.1.inner++[(x.1:Int)]},true)else s)
 else if x.2.k % 2=0 then (s.1,false)
 else if x.2.k/2=s.1.site then ({s.1 with ended:=(x.1:Int),result:=x.2.value},false)else s
def newC (E:Nat->EvB) (i:Nat):Cl:=⟨(E i).k/2,(E i).who,(i:Int),-1,0,[]⟩
def begBB (E:Nat->EvB) (i:Nat):Bool:=(E i).kind==7&&(E i).k % 2==0
def evFrom (E:Nat->EvB) (i n:Nat):List (Nat×EvB):=(List.range n).map fun k=>(i+k,E (i+k))
theorem evFrom_succ (E:Nat->EvB) (i n:Nat):evFrom E i (n+1)=evFrom E i n++[(i+n,E (i+n))]:=by
 unfold evFrom
 rw [List.range_succ,List.map_append]
 rfl
def oneS (E:Nat->EvB) (len i:Nat):Cl×Bool:=(evFrom E (i+1) (len-(i+1))).foldl ostep (newC E i,true)
theorem oneS_new (E:Nat->EvB) (i:Nat):oneS E (i+1) i=(newC E i,true):=by
 unfold oneS
 rw [Nat.sub_self]
 rfl
theorem oneS_succ (E:Nat->EvB) (len i:Nat) (h:i<len):oneS E (len+1) i=ostep (oneS E len i) (len,E len):=by
 unfold oneS
 rw [show len+1-(i+1)=(len-(i+1))+1 by omega,evFrom_succ,List.foldl_append]
 rw [show i+1+(len-(i+1))=len by omega]
 rfl
def rs (E:Nat->EvB) (t:Int) (len:Nat):List (Cl×Bool):=((List.range len).filter fun i=>begBB E i&&(E i).who==t).map (oneS E len)
def allC (E:Nat->EvB) (len:Nat):List Cl:=((List.range len).filter fun i=>begBB E i&&(decide (0<=(E i).who)&&decide ((E i).who<8))).map fun i=>(oneS E len i).1
theorem ostep_who (s:Cl×Bool) (x:Nat×EvB):(ostep s x).1.who=s.1.who/\(ostep s x).1.began=s.1.began/\(ostep s x).1.site=s.1.site:=by
 unfold ostep
 repeat' split
 all_goals exact ⟨rfl,rfl,rfl⟩
theorem fold_who (l:List (Nat×EvB)): ∀s:Cl×Bool,(l.foldl ostep s).1.who=s.1.who/\(l.foldl ostep s).1.began=s.1.began/\(l.foldl ostep s).1.site=s.1.site:=by
 induction l with
 |nil=>intro s;exact ⟨rfl,rfl,rfl⟩
 |cons x l ih=>
  intro s
  obtain ⟨a,b,c⟩:=ih (ostep s x)
  obtain ⟨a',b',c'⟩:=ostep_who s x
  exact ⟨a.trans a',b.trans b',c.trans c'⟩
theorem oneS_whoB (E:Nat->EvB) (len i:Nat):(oneS E len i).1.who=(E i).who/\(oneS E len i).1.began=i/\(oneS E len i).1.site=(E i).k/2:=fold_who _ _
theorem rs_succ (E:Nat->EvB) (t:Int) (len:Nat):rs E t (len+1)=(rs E t len).map (fun s=>ostep s (len,E len))++(if begBB E len&&(E len).who==t then [(newC E len,true)]else []):=by
 unfold rs
 rw [List.range_succ,List.filter_append,List.map_append,List.map_map]
 congr 1
 ·apply List.map_congr_left
  intro i hi
  have :=List.mem_range.1 (List.mem_filter.1 hi).1
  exact oneS_succ E len i this
 ·by_cases h:(begBB E len&&(E len).who==t)=true
  ·rw [if_pos h,List.filter_cons_of_pos (p:=fun i=>begBB E i&&(E i).who==t) h]
   simp [oneS_new]
  ·rw [if_neg h,List.filter_cons_of_neg (p:=fun i=>begBB E i&&(E i).who==t) h]
   rfl
theorem ostep_off {s:Cl×Bool} (h:s.2=false) (x:Nat×EvB):ostep s x=s:=by
 unfold ostep
 rw [if_pos h]
theorem ostep_other {s:Cl×Bool} {x:Nat×EvB} (h:x.2.who≠s.1.who):ostep s x=s:=by
 unfold ostep
 by_cases h1:s.2=false
 ·rw [if_pos h1]
 ·rw [if_neg h1,if_pos h]
theorem gathered (E:Nat->EvB) (t:Int): ∀len,(callsF t (evsB E t len)).1=(rs E t len).map (·.1)/\
 (callsF t (evsB E t len)).2=((rs E t len).getLast?.map (·.2)).getD false/\(∀s∈(rs E t len).dropLast,s.2=false)/\(∀s∈rs E t len,s.1.who=t)
 |0=>⟨rfl,rfl,(fun s h=>absurd h List.not_mem_nil),(fun s h=>absurd h List.not_mem_nil)⟩
 |len+1=>by
  obtain ⟨h1,h2,h3,h4⟩:=gathered E t len
  rw [rs_succ]
  by_cases hw:(E len).who=t
  ·rw [evs_hitB hw,callsF_snoc]
   generalize callsF t (evsB E t len)=st at h1 h2⊢
   obtain ⟨C,o⟩:=st
   dsimp only at h1 h2
   generalize rs E t len=l at h1 h2 h3 h4⊢
   subst h1
   subst h2
   by_cases hk:(E len).kind=7
   ·by_cases hev:(E len).k % 2=0
    ·have hb:(begBB E len&&(E len).who==t)=true:=by simp [begBB,hk,hev,hw]
     rw [if_pos hb]
     have hmap:(l.map fun s=>ostep s (len,E len)).map (·.1)=l.map (·.1)/\ ∀s∈l.map (fun s=>ostep s (len,E len)),s.2=false/\s.1.who=t:=by
      constructor
      ·rw [List.map_map]
       apply List.map_congr_left
       intro s hs
       show (ostep s (len,E len)).1=s.1
       unfold ostep
       dsimp only
       repeat' split
       all_goals first|rfl|(exfalso;omega)
      ·intro s hs
       obtain ⟨s',hs',rfl⟩:=List.mem_map.1 hs
       refine ⟨?_,by rw [(ostep_who _ _).1];exact h4 _ hs'⟩
       unfold ostep
       rw [h4 _ hs']
       dsimp only
       by_cases h0:s'.2=false
       ·rw [if_pos h0];exact h0
       ·rw [if_neg h0,if_neg (by simp [hw]),if_neg (by simp [hk]),if_pos hev]
     unfold cstep
     dsimp only
     rw [if_neg (by simp [hk]),if_pos hev]
     refine ⟨?_,?_,fun s hs=>?_,fun s hs=>?_⟩
     ·rw [List.map_append,hmap.1]
      simp [newC,hw]
     ·simp
     ·rw [List.dropLast_concat]at hs
      exact (hmap.2 s hs).1
     ·rcases List.mem_append.1 hs with hs|hs
      ·exact (hmap.2 s hs).2
      ·rw [List.mem_singleton.1 hs];exact hw
    ·have hb: ¬(begBB E len&&(E len).who==t)=true:=by simp [begBB,hev]
     rw [if_neg hb,List.append_nil]
     rcases List.eq_nil_or_concat l with rfl|⟨a,s,rfl⟩
     ·unfold cstep
      dsimp only
      rw [if_neg (by simp [hk]),if_neg hev,if_neg (by simp)]
      exact ⟨rfl,rfl,(fun s h=>absurd h List.not_mem_nil),(fun s h=>absurd h List.not_mem_nil)⟩
     ·rw [List.concat_eq_append]at h3 h4⊢
      rw [List.dropLast_concat]at h3
      have ha:a.map (fun s=>ostep s (len,E len))=a:=by
       conv=>rhs;rw [<-List.map_id a]
       exact List.map_congr_left fun x hx=>ostep_off (h3 x hx) _
      have hs4:=h4 s (by simp)
      have hb4:(a++[s]).map (fun s=>ostep s (len,E len))=a++[ostep s (len,E len)]:=by rw [List.map_append,ha];rfl
      rw [hb4]
      simp only [List.map_append,List.map_cons,List.map_nil,List.getLast?_append,List.getLast?_singleton,Option.some_or,Option.map_some,Option.getD_some,List.dropLast_concat]
      unfold cstep
      dsimp only
      rw [if_neg (by simp [hk]),if_neg hev,lastSite_snoc]
      obtain ⟨c,o⟩:=s
      dsimp only at hs4⊢
      cases o
      ·rw [if_neg (by simp),ostep_off rfl]
       exact ⟨rfl,rfl,h3,h4⟩
      ·by_cases hs:c.site=(E len).k/2
       ·rw [if_pos ⟨rfl,hs⟩,modLast_snoc]
        have :ostep (c,true) (len,E len)=({c with ended:=(len:Int),result:=(E len).value},false):=by
         unfold ostep
         dsimp only
         rw [if_neg (by simp),if_neg (by simp [hs4,hw]),if_neg (by simp [hk]),if_neg hev,if_pos hs.symm]
        rw [this]
        refine ⟨rfl,rfl,h3,fun x hx=>?_⟩
        rcases List.mem_append.1 hx with hx|hx
        ·exact h4 x (List.mem_append_left _ hx)
        ·rw [List.mem_singleton.1 hx];exact hs4
       ·rw [if_neg (by simp [hs])]
        have :ostep (c,true) (len,E len)=(c,true):=by
         unfold ostep
         dsimp only
         rw [if_neg (by simp),if_neg (by simp [hs4,hw]),if_neg (by simp [hk]),if_neg hev,if_neg (fun e=>hs e.symm)]
        rw [this]
        exact ⟨rfl,rfl,h3,h4⟩
   ·have hb: ¬(begBB E len&&(E len).who==t)=true:=by simp [begBB,hk]
    rw [if_neg hb,List.append_nil]
    rcases List.eq_nil_or_concat l with rfl|⟨a,s,rfl⟩
    ·unfold cstep
     dsimp only
     rw [if_pos hk,if_neg (by simp)]
     exact ⟨rfl,rfl,(fun s h=>absurd h List.not_mem_nil),(fun s h=>absurd h List.not_mem_nil)⟩
    ·rw [List.concat_eq_append]at h3 h4⊢
     rw [List.dropLast_concat]at h3
     have ha:a.map (fun s=>ostep s (len,E len))=a:=by
      conv=>rhs;rw [<-List.map_id a]
      exact List.map_congr_left fun x hx=>ostep_off (h3 x hx) _
     have hs4:=h4 s (by simp)
     have hb4:(a++[s]).map (fun s=>ostep s (len,E len))=a++[ostep s (len,E len)]:=by rw [List.map_append,ha];rfl
     rw [hb4]
     simp only [List.map_append,List.map_cons,List.map_nil,List.getLast?_append,List.getLast?_singleton,Option.some_or,Option.map_some,Option.getD_some,List.dropLast_concat]
     unfold cstep
     dsimp only
     rw [if_pos hk]
     obtain ⟨c,o⟩:=s
     dsimp only at hs4⊢
     cases o
     ·rw [if_neg (by simp),ostep_off rfl]
      exact ⟨rfl,rfl,h3,h4⟩
     ·by_cases h3k:(E len).kind=3
      ·rw [if_neg (by simp [h3k])]
       have :ostep (c,true) (len,E len)=(c,true):=by
        unfold ostep
        dsimp only
        rw [if_neg (by simp),if_neg (by simp [hs4,hw]),if_pos hk,if_neg (by simp [h3k])]
       rw [this]
       exact ⟨rfl,rfl,h3,h4⟩
      ·rw [if_pos ⟨rfl,h3k⟩,modLast_snoc]
       have :ostep (c,true) (len,E len)=({c with inner:=c.inner++[(len:Int)]},true):=by
        unfold ostep
        dsimp only
        rw [if_neg (by simp),if_neg (by simp [hs4,hw]),if_pos hk,if_pos h3k]
       rw [this]
       refine ⟨rfl,rfl,h3,fun x hx=>?_⟩
       rcases List.mem_append.1 hx with hx|hx
       ·exact h4 x (List.mem_append_left _ hx)
       ·rw [List.mem_singleton.1 hx];exact hs4
  ·rw [evs_missB hw]
   have hb: ¬(begBB E len&&(E len).who==t)=true:=by simp [hw]
   have hl:(rs E t len).map (fun s=>ostep s (len,E len))=rs E t len:=by
    conv=>rhs;rw [<-List.map_id (rs E t len)]
    exact List.map_congr_left fun x hx=>ostep_other (by rw [h4 x hx];exact hw)
   rw [hl,if_neg hb,List.append_nil]
   exact ⟨h1,h2,h3,h4⟩
theorem callsF_all (E:Nat->EvB) (t:Int) (len:Nat) (h0:0<=t) (h8:t<8):(callsF t (evsB E t len)).1=(allC E len).filter (fun c=>c.who==t):=by
 rw [(gathered E t len).1]
 unfold rs allC
 rw [List.filter_map,List.filter_filter,List.map_map]
 congr 1
 apply List.filter_congr
 intro i hi
 show (begBB E i&&(E i).who==t)=((oneS E len i).1.who==t&&(begBB E i&&(decide (0<=(E i).who)&&decide ((E i).who<8))))
 rw [(oneS_whoB E len i).1]
 by_cases h:(E i).who=t
 ·rw [h]
  cases begBB E i<;>simp [h0,h8]
 ·have :((E i).who==t)=false:=by simpa using h
  rw [this]
  cases begBB E i<;>rfl
theorem allC_who (E:Nat->EvB) (len:Nat): ∀c∈allC E len,0<=c.who/\c.who<8:=by
 intro c hc
 obtain ⟨i,hi,rfl⟩:=List.mem_map.1 hc
 have :=(List.mem_filter.1 hi).2
 simp only [Bool.and_eq_true,decide_eq_true_eq]at this
 rw [(oneS_whoB E len i).1]
 exact this.2
theorem allC_sorted (E:Nat->EvB) (len:Nat):(allC E len).Pairwise (fun a b=>a.began<b.began):=by
 unfold allC
 rw [List.pairwise_map]
 have h:((List.range len).filter fun i=>begBB E i&&(decide (0<=(E i).who)&&decide ((E i).who<8))).Pairwise (· < ·):=List.Pairwise.filter _ List.pairwise_lt_range
 exact h.imp fun {a b} hab=>by
  rw [(oneS_whoB E len a).2.1,(oneS_whoB E len b).2.1]
  omega
theorem allC_len (E:Nat->EvB) (len:Nat):(allC E len).length<=len:=by
 unfold allC
 rw [List.length_map]
 have :=List.length_filter_le (fun i=>begBB E i&&(decide (0<=(E i).who)&&decide ((E i).who<8))) (List.range len)
 simpa using this
def EndAt (E:Nat->EvB) (i n:Nat) (c:Cl) (j:Nat):Prop:=i<j/\j<n/\c.ended=(j:Int)/\(E j).kind=7/\(E j).who=(E i).who/\(E j).k % 2≠0/\(E j).k/2=(E i).k/2/\c.result=(E j).value
theorem ended_at (E:Nat->EvB) (i:Nat): ∀d,(oneS E (i+1+d) i).1.ended= -1∨((oneS E (i+1+d) i).2=false/\ ∃j,EndAt E i (i+1+d) (oneS E (i+1+d) i).1 j)
 |0=> .inl (by rw [Nat.add_zero,oneS_new];rfl)
 |d+1=>by
  have ih:=ended_at E i d
  have hw:=oneS_whoB E (i+1+d) i
  rw [<-Nat.add_assoc,oneS_succ E _ i (by omega)]
  generalize oneS E (i+1+d) i=s at ih hw⊢
  have keep: ∀{j},EndAt E i (i+1+d) s.1 j->EndAt E i (i+1+d+1) s.1 j:=fun ⟨h1,h2,h3⟩=>⟨h1,by omega,h3⟩
  by_cases o:s.2=false
  ·have e:ostep s (i+1+d,E (i+1+d))=s:=by unfold ostep;rw [if_pos o]
   rw [e]
   exact ih.imp id (fun ⟨h,j,hj⟩=>⟨h,j,keep hj⟩)
  ·have hn:s.1.ended= -1:=ih.elim id (fun q=>absurd q.1 o)
   unfold ostep
   rw [if_neg o]
   dsimp only
   split
   ·exact .inl hn
   ·rename_i hwho
    split
    ·split
     ·exact .inl hn
     ·exact .inl hn
    ·rename_i hk
     split
     ·exact .inl hn
     ·rename_i hev
      split
      ·rename_i hs
       refine .inr ⟨rfl,i+1+d,by omega,by omega,rfl,by simpa using hk,?_,hev,?_,rfl⟩
       ·have :(E (i+1+d)).who=s.1.who:=by simpa using hwho
        rw [this,hw.1]
       ·rw [hs,hw.2.2]
      ·exact .inl hn
theorem call_at {E:Nat->EvB} {len:Nat} {c:Cl} (h:c∈allC E len): ∃i,i<len/\c=(oneS E len i).1/\(E i).kind=7/\(E i).k % 2=0/\c.who=(E i).who/\c.began=(i:Int)/\c.site=(E i).k/2/\(0<=(E i).who/\(E i).who<8)/\(c.ended= -1∨ ∃j,EndAt E i len c j):=by
 obtain ⟨i,hi,rfl⟩:=List.mem_map.1 h
 obtain ⟨h1,h2⟩:=List.mem_filter.1 hi
 have hlt:=List.mem_range.1 h1
 simp only [begBB,Bool.and_eq_true,beq_iff_eq,decide_eq_true_eq]at h2
 have hw:=oneS_whoB E len i
 refine ⟨i,hlt,rfl,h2.1.1,h2.1.2,hw.1,hw.2.1,hw.2.2,h2.2,?_⟩
 have :=ended_at E i (len-(i+1))
 rw [show i+1+(len-(i+1))=len by omega]at this
 exact this.imp id (fun q=>q.2)
def evB (x:Evt):EvB:=⟨x.kind,x.who,x.pc,x.addr,x.value,x.old,x.k % 4294967296,x.ok,Int.emod_nonneg _ (by decide),by have :=Int.emod_lt_of_pos x.k (by decide:(0:Int)<4294967296);omega⟩
def evF (l:List Evt) (i:Nat):EvB:=evB (l.getD i ev0)
theorem evF_sle {W:World} {A:Option Addr} {l:List Evt} (h:EvK l) (hs:SlE W A l.length 8 (fun i=>(l.getD i ev0).cells)):SlE W A l.length 8 (fun i=>(evF l i).cells):=fun hn=>by
 obtain ⟨b,off,e,hlt,hc⟩:=hs hn
 refine ⟨b,off,e,hlt,fun i hi j u hu=>hc i hi j u ?_⟩
 have hm:l.getD i ev0∈l:=getD_mem hi
 have hk:=h _ hm
 have e2:(l.getD i ev0).k % 4294967296=(l.getD i ev0).k:=Int.emod_eq_of_lt hk.1 (by omega)
 have e3:(evF l i).cells=(l.getD i ev0).cells:=by
  unfold evF evB EvB.cells Evt.cells
  dsimp only
  rw [e2]
 have hu':(evF l i).cells[j]?=some u:=hu
 rw [e3]at hu'
 exact hu'
theorem evF_at {l:List Evt} (h:EvK l) {i:Nat} (hi:i<l.length): ∃x,l[i]?=some x/\(evF l i).kind=x.kind/\(evF l i).who=x.who/\(evF l i).value=x.value/\(evF l i).k=x.k:=by
 refine ⟨l[i],List.getElem?_eq_getElem hi,?_⟩
 have hk:=h _ (List.getElem_mem hi)
 have e:l.getD i ev0=l[i]:=by rw [List.getD_eq_getElem?_getD,List.getElem?_eq_getElem hi];rfl
 unfold evF
 rw [e]
 exact ⟨rfl,rfl,rfl,Int.emod_eq_of_lt hk.1 (by omega)⟩
def cF (f:Nat->Bool) (n:Nat):Nat:=((List.range n).filter f).length
theorem cF_succ (f:Nat->Bool) (n:Nat):cF f (n+1)=cF f n+(if f n=true then 1 else 0):=by
 unfold cF
 rw [List.range_succ,List.filter_append,List.length_append]
 by_cases h:f n=true
 ·rw [if_pos h,List.filter_cons_of_pos h];rfl
 ·rw [if_neg h,List.filter_cons_of_neg h];rfl
theorem cF_congr {f g:Nat->Bool} {n:Nat} (h: ∀e,e<n->f e=g e):cF f n=cF g n:=by
 induction n with
 |zero=>rfl
 |succ n ih=>rw [cF_succ,cF_succ,ih (fun e he=>h e (by omega)),h n (by omega)]
theorem sumT_add (W:Nat) (f g:Nat->Nat):(sumT W fun u=>f u+g u)=sumT W f+sumT W g:=by
 induction W with
 |zero=>rfl
 |succ W ih=>rw [sumT_succ,sumT_succ,sumT_succ,ih];omega
theorem sumT_const (W k:Nat):(sumT W fun _=>k)=W*k:=by
 induction W with
 |zero=>simp [sumT]
 |succ W ih=>rw [sumT_succ,ih,Nat.succ_mul]
theorem cF_sum {N:Nat} {p:Nat->Bool} {b:Nat->Nat->Bool} {Q:Nat->Bool}: ∀{n:Nat},(∀e,e<n->(if p e=true then 1 else 0)=sumT N fun u=>if b u e=true then 1 else 0)->cF (fun e=>p e&&Q e) n=sumT N fun u=>cF (fun e=>b u e&&Q e) n
 |0,_=>by
  have :(sumT N fun u=>cF (fun e=>b u e&&Q e) 0)=sumT N fun _=>0:=rfl
  rw [this,sumT_const,Nat.mul_zero];rfl
 |n+1,h=>by
  have e:(sumT N fun u=>cF (fun e=>b u e&&Q e) (n+1))=sumT N fun u=>cF (fun e=>b u e&&Q e) n+(if (b u n&&Q n)=true then 1 else 0):=sumT_congr (fun u _=>cF_succ _ _)
  rw [e,sumT_add,cF_succ,<-cF_sum (fun e he=>h e (by omega))]
  congr 1
  cases hQ:Q n with
  |true=>
   simp only [Bool.and_true]
   exact h n (by omega)
  |false=>
   simp only [Bool.and_false]
   rw [sumT_const]
   simp
theorem cntE_take (f:Evt->Bool) (l:List Evt): ∀n,n<=l.length->cntE f (l.take n)=cF (fun j=>f (l.getD j ev0)) n
 |0,_=>by rw [List.take_zero];rfl
 |n+1,h=>by
  have e:l.take (n+1)=l.take n++[l.getD n ev0]:=by
   rw [List.take_succ_eq_append_getElem (by omega),List.getD_eq_getElem?_getD,List.getElem?_eq_getElem (by omega)];rfl
  rw [e,cntE_snoc,cntE_take f l n (by omega),cF_succ]
end Go.Proofs.YtmhfpjnkjlhbpaaGreatDoor
