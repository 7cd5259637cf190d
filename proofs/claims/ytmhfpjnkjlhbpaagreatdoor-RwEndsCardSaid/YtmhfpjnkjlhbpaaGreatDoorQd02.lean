/- Slices opened from their cells (nil, empty or not; slices of slices too); elements that are structs of integers. Instructions, codes, programs: as values, in memory, opened. Append onto a row of the call's own, the source any slice ('Sl': nil, empty or not); an owned row as a slice. Rows that a call owns, element by element. Whole rows (structs of many cells) that are blocks of their own: stored whole, loaded whole, handed back. Rows that a call owns and blocks that grow: which stay. (For seats that hold no Code* text.) -/
import Derived.Deep.DeepMust
import Derived.Test.YtmhfpjnkjlhbpaaGreatDoorQd01
import Derived.Deep.Fields
import Derived.Deep.Strs
import Derived.Maps.AppendAt
import Derived.Deep.AppendLies
import Derived.RegionTactic
import Derived.Laws.Rows
import Derived.Deep.MidRow
import Derived.Deep.DeepCutAuto
import Derived.Deep.RegionHeld3
namespace Go.Proofs.YtmhfpjnkjlhbpaaGreatDoor
open Go.ChangeShapes Go.WideShapes Go.ChangeAt Go.RowKit Go.Deep
set_option linter.unusedVariables false
set_option maxRecDepth 100000
theorem keepAt {B:Nat} {W w1:World} {b o:Nat} {v:Value} (hb:Below B W w1) (hlt:b<B) (h:W.cell? ⟨b,o,none⟩=some v):w1.cell? ⟨b,o,none⟩=some v:=
 (hb.cell (p:=⟨b,o,none⟩) hlt).trans h
theorem Sl.step {W w1:World} {A:Option Addr} {n:Nat} {C:Nat->Value} (h:Sl W A n C) (hb:Below W.heap.size W w1):Sl w1 A n C:=h.below (Nat.le_refl _) hb
theorem SlE.step {W w1:World} {A:Option Addr} {n s:Nat} {E:Nat->List Value} (h:SlE W A n s E) (hb:Below W.heap.size W w1):SlE w1 A n s E:=h.below (Nat.le_refl _) hb
section
variable {H:Type} {enc:TypeId×Value->H} {P:Program} {W:World}
theorem open_slc {α:Type} [Inhabited α] {t e:TypeId} {size:Nat} {fuel:Nat} {cs:List Value} {x:DataW H×List MemPlace} (ht:P.underlying t=some (.slice e)) (hsz:P.cellsOf e=size) (hpos:0<size)
 (E:α->List Value) (ok:α->Prop) (helem: ∀n cs x,DataW.trod enc P W 0 (fun _=>true) true n e cs=some x-> ∃a,cs=E a/\ok a)
 (h:DataW.trod enc P W 0 (fun _=>true) true fuel t cs=some x):
 ∃(A:Option Addr) (len cap:Nat) (F:Nat->α),cs=[.slice A len cap]/\len<=cap/\cap<=maxLen/\SlE W A len size (fun i=>E (F i))/\ ∀i,i<len->ok (F i):=by
 rcases Go.Deep.open_slice ht h with ⟨rfl,hx⟩|⟨a,len,cap,m,n,D,Pl,rfl,_,hl,hm,hmm,hx,hel⟩
 ·exact ⟨none,0,0,fun _=>default,rfl,Nat.le_refl _,Nat.zero_le _,SlE.nil,fun i hi=>absurd hi (by omega)⟩
 ·simp only [if_true]at hmm
  have hel2: ∀i,i<len-> ∃a',ok a'/\(E a').length=size/\ ∀j u,(E a')[j]?=some u->W.cell? ((a.add (i*size)).add j)=some u:=by
   intro i hi
   obtain ⟨cs',h1,h2⟩:=hel i (by omega)
   rw [hsz]at h1
   obtain ⟨a',rfl,ha⟩:=helem _ _ _ h2
   obtain ⟨_,hlen,hc⟩:=World.cells?_some h1
   refine ⟨a',ha,hlen,fun j u hu=>?_⟩
   have hj:j<size:=by rw [<-hlen];exact (List.getElem?_eq_some_iff.1 hu).1
   rw [hc j hj,hu]
  obtain ⟨F,hF⟩:=Go.Deep.choose_lt (p:=fun i a'=>ok a'/\(E a').length=size/\ ∀j u,(E a')[j]?=some u->W.cell? ((a.add (i*size)).add j)=some u) hel2
  refine ⟨some a,len,cap,F,rfl,hl,hm,fun hn=>?_,fun i hi=>(hF i hi).1⟩
  obtain ⟨b,off,spot⟩:=a
  obtain ⟨u0,hu0⟩: ∃u0,(E (F 0))[0]?=some u0:=⟨_,List.getElem?_eq_getElem (show 0<(E (F 0)).length by rw [(hF 0 hn).2.1];exact hpos)⟩
  have h00:=(hF 0 hn).2.2 0 u0 hu0
  have hspot:spot=none:=by simpa [Addr.add]using World.cell?_spot h00
  subst hspot
  refine ⟨b,off,rfl,?_,fun i hi j u hu=>?_⟩
  ·rw [add_plain,add_plain]at h00
   exact World.block_lt_of_cell? W _ h00
  ·have :=(hF i hi).2.2 j u hu
   rw [add_plain,add_plain]at this
   exact this
end
theorem sl_of_slE {W:World} {A:Option Addr} {n:Nat} {E:Nat->List Value} {C:Nat->Value} (h:SlE W A n 1 E) (e: ∀i,i<n->E i=[C i]):Sl W A n C:=fun hn=>by
 obtain ⟨b,off,rfl,hlt,hc⟩:=h hn
 exact ⟨b,off,rfl,hlt,fun i hi=>by
  have :=hc i hi 0 (C i) (by rw [e i hi];rfl)
  simpa using this⟩
structure Ins where
 (op a b c k:Int)
instance:Inhabited Ins:=⟨⟨0,0,0,0,0⟩⟩
def Ins.cells (i:Ins):List Value:=[.int .i64 i.op,.int .i64 i.a,.int .i64 i.b,.int .i64 i.c,.int .u32 i.k]
def Ins.val (i:Ins):Value:= .agg #[.int .i64 i.op,.int .i64 i.a,.int .i64 i.b,.int .i64 i.c,.int .u32 i.k]
structure Ins.Ok (i:Ins):Prop where
 op0: -9223372036854775808<=i.op
 op1:i.op<=9223372036854775807
 a0: -9223372036854775808<=i.a
 a1:i.a<=9223372036854775807
 b0: -9223372036854775808<=i.b
 b1:i.b<=9223372036854775807
 c0: -9223372036854775808<=i.c
 c1:i.c<=9223372036854775807
 k0:0<=i.k
 k1:i.k<=4294967295
structure Cd where
 A:Option Addr
 (len cap:Nat)
 F:Nat->Ins
instance:Inhabited Cd:=⟨⟨none,0,0,default⟩⟩
def Cd.val (c:Cd):Value:= .slice c.A c.len c.cap
structure Cd.Ok (c:Cd):Prop where
 hl:c.len<=c.cap
 hm:c.cap<=maxLen
 ins: ∀i,i<c.len->(c.F i).Ok
def Cd.At (c:Cd) (W:World):Prop:=SlE W c.A c.len 5 (fun i=>(c.F i).cells)
theorem Cd.At.step {c:Cd} {W w1:World} (h:c.At W) (hb:Below W.heap.size W w1):c.At w1:=SlE.step h hb
structure Pg where
 A:Option Addr
 (n cap:Nat)
 cd:Nat->Cd
 mA:Option Addr
 (m mcap:Nat)
 Z:Nat->Int
 room:Int
def Pg.val (p:Pg):Value:= .agg #[.slice p.A p.n p.cap,.slice p.mA p.m p.mcap,.int .i64 p.room]
structure Pg.Ok (p:Pg):Prop where
 hl:p.n<=p.cap
 hm:p.cap<=maxLen
 ml:p.m<=p.mcap
 mm:p.mcap<=maxLen
 cds: ∀t,t<p.n->(p.cd t).Ok
 z0: ∀i,i<p.m->0<=p.Z i/\p.Z i<=4294967295
 r0: -9223372036854775808<=p.room
 r1:p.room<=9223372036854775807
structure Pg.At (p:Pg) (W:World):Prop where
 codes:Sl W p.A p.n (fun t=>(p.cd t).val)
 code: ∀t,t<p.n->(p.cd t).At W
 mem:Sl W p.mA p.m (fun i=> .int .u32 (p.Z i))
theorem Pg.At.step {p:Pg} {W w1:World} (h:p.At W) (hb:Below W.heap.size W w1):p.At w1:=
 ⟨h.codes.step hb,fun t ht=>(h.code t ht).step hb,h.mem.step hb⟩
theorem Pg.At.drew {p:Pg} {W:World} (h:p.At W):p.At W.drew:=⟨h.codes,h.code,h.mem⟩
theorem Pg.At.alloc {p:Pg} {W:World} (h:p.At W) (o:Obj):p.At (W.alloc o):=h.step ((Below.refl _ _).alloc (Nat.le_refl _) o)
section
variable {H:Type} {enc:TypeId×Value->H} {W:World}
end
end Go.Proofs.YtmhfpjnkjlhbpaaGreatDoor
namespace Go.Proofs.YtmhfpjnkjlhbpaaGreatDoor
open Go.RowKit Go.ChangeShapes Go.WideShapes
theorem own_below {w w':World} {base:Nat} {e:TypeId} {size n:Nat} {v:Value} {xs:List Value} (h:w.ownsRow base e size v n xs) {B:Nat} (hB:w.heap.size<=B) (hb:Below B w w'):w'.ownsRow base e size v n xs:=by
 obtain ⟨h1,h2⟩:=h
 refine ⟨h1,?_⟩
 rcases h2 with h2|⟨g,cap,cur,hv,hg,hh,r⟩
 ·exact .inl h2
 ·have hlt:g<w.heap.size:=by
   rcases Nat.lt_or_ge g w.heap.size with hlt|hge
   ·exact hlt
   ·rw [Array.getElem?_eq_none hge]at hh;cases hh
  exact .inr ⟨g,cap,cur,hv,hg,(hb.block g (Nat.lt_of_lt_of_le hlt hB)).trans hh,r⟩
theorem own_base {w:World} {base base':Nat} {e:TypeId} {size n:Nat} {v:Value} {xs:List Value} (h:w.ownsRow base e size v n xs) (hb:base'<=base):w.ownsRow base' e size v n xs:=by
 obtain ⟨h1,h2⟩:=h
 refine ⟨h1,?_⟩
 rcases h2 with h2|⟨g,cap,cur,hv,hg,r⟩
 ·exact .inl h2
 ·exact .inr ⟨g,cap,cur,hv,Nat.le_trans hb hg,r⟩
theorem own_sl {w:World} {base:Nat} {e:TypeId} {size n:Nat} {v:Value} {xs:List Value} (h:w.ownsRow base e size v n xs):
 ∃A cap,v= .slice A n cap/\n<=cap/\Sl w A (n*size) (fun i=>xs.getD i undef):=by
 have h0:=h
 obtain ⟨h1,h2⟩:=h
 rcases h2 with ⟨rfl,rfl⟩|⟨g,cap,cur,rfl,hg,hh,hn,hc,hs,ht⟩
 ·exact ⟨none,0,rfl,Nat.le_refl _,by rw [Nat.zero_mul];exact Sl.nil⟩
 ·refine ⟨some ⟨g,0,none⟩,cap,rfl,hn,fun hpos=>⟨g,0,rfl,?_,fun i hi=>?_⟩⟩
  ·rcases Nat.lt_or_ge g w.heap.size with hlt|hge
   ·exact hlt
   ·rw [Array.getElem?_eq_none hge]at hh;cases hh
  ·rw [Nat.zero_add,h0.cellAt i hi]
   simp only [List.getD_eq_getElem?_getD]
   rw [List.getElem?_eq_getElem (by omega)]
   rfl
section
variable {P:Program} (w:World)
theorem run_append_sl (base:Nat) (t ty e:TypeId) (i:TypeInfo) (z:Value) (size bytes:Nat) (ht:P.underlying t=some (.slice e)) (hi:P.info? e=some i) (hz:i.zero=some z)
 (hsize:i.size=size) (hby:i.bytes=bytes) (hzs:z.cells.size=size) (hsz:0<size)
 (v:Value) (n:Nat) (xs:List Value) (hown:w.ownsRow base e size v n xs)
 (A:Option Addr) (m c:Nat) (C:Nat->Value) (hr:Sl w A (m*size) C) (h1: ∀k,k<m*size->(C k).oneCell'=true)
 (h63:n+m<=maxLen) (hbytes:(n+m)*bytes<=140737488355328) (hbase:base<=w.heap.size):
 ∃v' w',(Builtin.append_ #[t,t] ty #[v,.slice A m c]).run P w= .ok v' w'/\w'.ownsRow base e size v' (n+m) (xs++(List.range (m*size)).map C)/\w.grownBy w' v.ownBlock/\
  (v'.ownBlock=v.ownBlock∨v'.ownBlock=some w.heap.size):=by
 have hcell: ∀b off,A=some ⟨b,off,none⟩->(∀k,k<m*size->w.cell? ⟨b,off+k,none⟩=some (C k))-> ∀j u,((List.range (m*size)).map C)[j]?=some u->w.cell? ((⟨b,off,none⟩:Addr).add j)=some u:=by
  intro b off _ hc j u hu
  have hj:j<m*size:=by
   have :=(List.getElem?_eq_some_iff.1 hu).1
   simpa using this
  rw [add_plain,hc j hj]
  simpa [hj]using hu
 have hone: ∀u∈(List.range (m*size)).map C,u.oneCell'=true:=by
  intro u hu
  obtain ⟨k,hk,rfl⟩:=List.mem_map.1 hu
  exact h1 k (List.mem_range.1 hk)
 rcases Nat.eq_zero_or_pos (m*size)with h0|hpos
 ·have hm:m=0:=by
   rcases Nat.mul_eq_zero.1 h0 with h|h
   ·exact h
   ·omega
  subst hm
  rcases A with _|ad
  ·refine ⟨v,w,?_,by simpa using hown,World.grownBy.refl w _,.inl rfl⟩
   rcases hown.2 with ⟨rfl,rfl⟩|⟨g,cap,cur,rfl,_,_,hnc,_⟩
   ·simp [Builtin.append_,run_underlying ht,sizeOf,typeInfo,hi,Builtin.lenOf,Builtin.firstCells]
   ·simp [Builtin.append_,run_underlying ht,sizeOf,typeInfo,hi,Builtin.lenOf,Builtin.firstCells,hnc,storeCells]
  ·obtain ⟨v',w',hrun,h2,h3,_,h5⟩:=run_append_own_at (P:=P) w base t ty e i z size bytes ht hi hz hsize hby hzs hsz v n xs hown ad 0 c [] (by simp) (by simp) (by simp) h63 hbytes hbase
   exact ⟨v',w',hrun,by simpa using h2,h3,h5⟩
 ·obtain ⟨b,off,rfl,_,hc⟩:=hr hpos
  obtain ⟨v',w',hrun,h2,h3,_,h5⟩:=run_append_own_at (P:=P) w base t ty e i z size bytes ht hi hz hsize hby hzs hsz v n xs hown ⟨b,off,none⟩ m c _ (by simp) (hcell b off rfl hc) hone h63 hbytes hbase
  exact ⟨v',w',hrun,h2,h3,h5⟩
theorem wp_append_sl {o:Oper} {a:Act} {K:Act->World->Prop} {Q:Exit->Act->World->Prop} (s x:Operand) (t:TypeId)
 (ho:o.op= .call {callee:= .builtin .append,args:= #[s,x],argTypes:= #[t,t]})
 (base:Nat) (e:TypeId) (i:TypeInfo) (z:Value) (size bytes:Nat) (ht:P.underlying t=some (.slice e)) (hi:P.info? e=some i) (hz:i.zero=some z)
 (hsize:i.size=size) (hby:i.bytes=bytes) (hzs:z.cells.size=size) (hsz:0<size)
 (v:Value) (n:Nat) (xs:List Value) (hs:a.eval s=v) (hown:w.ownsRow base e size v n xs)
 (A:Option Addr) (m c:Nat) (C:Nat->Value) (hx:a.eval x= .slice A m c) (hr:Sl w A (m*size) C) (h1: ∀k,k<m*size->(C k).oneCell'=true)
 (h63:n+m<=maxLen) (hbytes:(n+m)*bytes<=140737488355328) (hbase:base<=w.heap.size)
 (h: ∀v' w',w'.ownsRow base e size v' (n+m) (xs++(List.range (m*size)).map C)->w.grownBy w' v.ownBlock->(v'.ownBlock=v.ownBlock∨v'.ownBlock=some w.heap.size)->K (a.put o.dst v') w'):o.wp P a w K Q:=by
 obtain ⟨v',w',hrun,h2,h3,h4⟩:=run_append_sl (P:=P) w base t o.type e i z size bytes ht hi hz hsize hby hzs hsz v n xs hown A m c C hr h1 h63 hbytes hbase
 unfold Oper.wp execOp
 simp only [ho,resolve,invoke,builtin,Sem.run_bind,Sem.run_pure,Result.andThen_ok,List.map_toArray,List.map_cons,List.map_nil,hs,hx,hrun]
 exact h v' w' h2 h3 h4
theorem wpList_append_sl {ops:Array Oper} {rest:List Oper} {o:Oper} {a:Act} {Q:Exit->Act->World->Prop} (hgd:o.guard=none) (s x:Operand) (t:TypeId)
 (ho:o.op= .call {callee:= .builtin .append,args:= #[s,x],argTypes:= #[t,t]})
 (base:Nat) (e:TypeId) (i:TypeInfo) (z:Value) (size bytes:Nat) (ht:P.underlying t=some (.slice e)) (hi:P.info? e=some i) (hz:i.zero=some z)
 (hsize:i.size=size) (hby:i.bytes=bytes) (hzs:z.cells.size=size) (hsz:0<size)
 (v:Value) (n:Nat) (xs:List Value) (hs:a.eval s=v) (hown:w.ownsRow base e size v n xs)
 (A:Option Addr) (m c:Nat) (C:Nat->Value) (hx:a.eval x= .slice A m c) (hr:Sl w A (m*size) C) (h1: ∀k,k<m*size->(C k).oneCell'=true)
 (h63:n+m<=maxLen) (hbytes:(n+m)*bytes<=140737488355328) (hbase:base<=w.heap.size)
 (h: ∀v' w',w'.ownsRow base e size v' (n+m) (xs++(List.range (m*size)).map C)->w.grownBy w' v.ownBlock->(v'.ownBlock=v.ownBlock∨v'.ownBlock=some w.heap.size)->wpList P ops Q rest (a.put o.dst v') w'):wpList P ops Q (o::rest) a w:=
 wpList_plain hgd fun _ hK=>wp_append_sl w s x t ho base e i z size bytes ht hi hz hsize hby hzs hsz v n xs hs hown A m c C hx hr h1 h63 hbytes hbase fun v' w' h2 h3 h4=>hK _ _ (h v' w' h2 h3 h4)
end
end Go.Proofs.YtmhfpjnkjlhbpaaGreatDoor
namespace Go.Proofs.YtmhfpjnkjlhbpaaGreatDoor
open Go.ChangeShapes Go.WideShapes Go.ChangeAt Go.RowKit Go.Deep
set_option linter.unusedVariables false
set_option maxRecDepth 100000
theorem flat_get {α:Type} (f:α->List Value) (s:Nat) (hf: ∀a,(f a).length=s) (d:α): ∀(l:List α) (i:Nat),i<l.length-> ∀j,j<s->(l.flatMap f)[i*s+j]?=(f (l.getD i d))[j]?
 |[],i,hi,_,_=>absurd hi (by simp)
 |a::l,0,_,j,hj=>by
  rw [List.flatMap_cons,Nat.zero_mul,Nat.zero_add,List.getElem?_append_left (by rw [hf];exact hj)]
  rfl
 |a::l,i+1,hi,j,hj=>by
  rw [List.flatMap_cons,List.getElem?_append_right (by rw [hf];exact Nat.le_trans (Nat.le_mul_of_pos_left s (by omega)) (Nat.le_add_right _ _)),hf,show (i+1)*s+j-s=i*s+j by rw [Nat.add_mul];omega]
  exact flat_get f s hf d l i (by simpa using hi) j hj
theorem flat_len {α:Type} (f:α->List Value) (s:Nat) (hf: ∀a,(f a).length=s): ∀l:List α,(l.flatMap f).length=l.length*s
 |[]=>by simp
 |a::l=>by rw [List.flatMap_cons,List.length_append,hf,flat_len f s hf l,List.length_cons,Nat.add_mul];omega
section
variable {w w':World} {base:Nat} {e:TypeId} {size n:Nat} {v:Value} {xs:List Value}
theorem own_ge (h:w.ownsRow base e size v n xs): ∀r,v.ownBlock=some r->base<=r:=by
 intro r hr
 rcases h.2 with ⟨rfl,_⟩|⟨g,cap,cur,rfl,hg,_⟩
 ·cases hr
 ·obtain rfl:=Option.some.inj hr
  exact hg
theorem Blk.grow_own {g:Nat} {t:TypeId} {cs:Array Value} (hb:Blk w g t cs) (h:w.ownsRow base e size v n xs) (hg:w.grownBy w' v.ownBlock) (hlt:g<base):Blk w' g t cs:=
 hb.grown hg (fun e=>by have :=own_ge h g e.symm;omega)
theorem below_own {w0:World} {B:Nat} (hb:Below B w0 w) (h:w.ownsRow base e size v n xs) (hg:w.grownBy w' v.ownBlock) (hB:B<=base) (hB0:B<=w0.heap.size):Below B w0 w':=
 hb.grown hg (Nat.le_trans hB0 hb.size) (fun k hk=>by have :=own_ge h k hk;omega)
theorem own_sle {α:Type} (f:α->List Value) (hf: ∀a,(f a).length=size) (d:α) (l:List α) (h:w.ownsRow base e size v l.length (l.flatMap f)):
 ∃A cap,v= .slice A l.length cap/\l.length<=cap/\SlE w A l.length size (fun i=>f (l.getD i d)):=by
 obtain ⟨A,cap,rfl,hc,hs⟩:=own_sl h
 refine ⟨A,cap,rfl,hc,fun hpos=>?_⟩
 by_cases hz:size=0
 ·subst hz
  rcases h.2 with ⟨hv,_⟩|⟨g,cap',cur,hv,hg,hh,_⟩
  ·injection hv with hv1 hv2
   omega
  ·injection hv with hv1 _
   refine ⟨g,0,hv1,?_,fun i hi j u hu=>?_⟩
   ·rcases Nat.lt_or_ge g w.heap.size with hlt|hge
    ·exact hlt
    ·rw [Array.getElem?_eq_none hge]at hh;cases hh
   ·have :=(List.getElem?_eq_some_iff.1 hu).1
    rw [hf]at this
    omega
 ·obtain ⟨b,off,rfl,hlt,hcc⟩:=hs (Nat.mul_pos hpos (by omega))
  refine ⟨b,off,rfl,hlt,fun i hi j u hu=>?_⟩
  have hj:j<size:=by
   have :=(List.getElem?_eq_some_iff.1 hu).1
   rwa [hf]at this
  have hij:i*size+j<l.length*size:=by
   have :(i+1)*size<=l.length*size:=Nat.mul_le_mul_right _ hi
   rw [Nat.add_mul]at this
   omega
  rw [Nat.add_assoc,hcc _ hij]
  have :=flat_get f size hf d l i hi j hj
  rw [hu]at this
  simp only [List.getD_eq_getElem?_getD,this]
  rfl
end
theorem sl_new (w:World) (t:TypeId) (cs:List Value):Sl (w.alloc (.cells cs.toArray t)) (some ⟨w.heap.size,0,none⟩) cs.length (fun i=>cs.getD i undef):=fun hpos=>
 ⟨w.heap.size,0,rfl,(Blk.new w t cs.toArray).lt,fun i hi=>by
  rw [Nat.zero_add,(Blk.new w t cs.toArray).cell]
  simp [List.getD_eq_getElem?_getD,List.getElem?_eq_getElem hi]⟩
theorem range_getD (cs:List Value) (n:Nat) (h:cs.length=n):(List.range n).map (fun i=>cs.getD i undef)=cs:=by
 subst h
 apply List.ext_getElem
 ·simp
 ·intro i h1 h2
  simp [List.getD_eq_getElem?_getD,List.getElem?_eq_getElem h2]
theorem setCells_row (g:Nat) (t:TypeId): ∀(vs:List Value) (o:Nat) (w:World) (cs:Array Value),Blk w g t cs->o+vs.length<=cs.size->
 ∃cs',Blk (w.setCells g o vs) g t cs'/\cs'.size=cs.size/\(∀j,j<vs.length->cs'[o+j]?=vs[j]?)/\(∀i,i<o∨o+vs.length<=i->cs'[i]?=cs[i]?)/\w.grownBy (w.setCells g o vs) (some g)
 |[],o,w,cs,hb,_=>⟨cs,hb,rfl,fun j hj=>absurd hj (by simp),fun _ _=>rfl,World.grownBy.refl w _⟩
 |v::r,o,w,cs,hb,hs=>by
  have hs':o+1+r.length<=(cs.setIfInBounds o v).size:=by simp at hs⊢;omega
  obtain ⟨cs',h1,h2,h3,h4,h5⟩:=setCells_row g t r (o+1) (w.setCell ⟨g,o,none⟩ v) (cs.setIfInBounds o v) (hb.set_ o v) hs'
  refine ⟨cs',h1,by simpa using h2,fun j hj=>?_,fun i hi=>?_,?_⟩
  ·rcases j with _|j
   ·rw [Nat.add_zero,h4 o (.inl (by omega)),Array.getElem?_setIfInBounds_self_of_lt (by simp at hs;omega)]
    rfl
   ·have :=h3 j (by simpa using hj)
    rw [show o+1+j=o+(j+1) by omega]at this
    simpa using this
  ·rw [h4 i (by simp at hi;omega),Array.getElem?_setIfInBounds_ne (by simp at hi;omega)]
  ·refine ⟨h5.os,h5.tape,h5.output,?_,fun i hi hne=>?_⟩
   ·have :=h5.size
    rw [show (w.setCell ⟨g,o,none⟩ v).heap.size=w.heap.size by simp [World.setCell]]at this
    exact this
   ·refine (h5.block i (by simpa [World.setCell]using hi) hne).trans (Below.heap_setCell w ⟨g,o,none⟩ v i (fun e=>hne (by rw [e])))
theorem setCells_whole {w:World} {g:Nat} {t:TypeId} {old cells:Array Value} (hb:Blk w g t old) (hs:old.size=cells.size):
 Blk (w.setCells g 0 cells.toList) g t cells/\w.grownBy (w.setCells g 0 cells.toList) (some g):=by
 obtain ⟨cs',h1,h2,h3,h4,h5⟩:=setCells_row g t cells.toList 0 w old hb (by simp [hs])
 have :cs'=cells:=by
  apply Array.ext_getElem?
  intro i
  by_cases hi:i<cells.size
  ·have :=h3 i (by simpa using hi)
   simpa using this
  ·rw [Array.getElem?_eq_none (by omega),Array.getElem?_eq_none (by omega)]
 rw [this]at h1
 exact ⟨h1,h5⟩
theorem Blk.there {w:World} {g:Nat} {t:TypeId} {cs:Array Value} (h:Blk w g t cs) (o n:Nat) (hn:o+n<=cs.size):w.there g o n:=fun j hj=>
 ⟨by rw [h.cell,Array.getElem?_eq_getElem (by omega)];rfl,h.frozen _⟩
theorem Blk.new2 (w:World) (A:Obj) (t:TypeId) (cs:Array Value):Blk ((w.alloc A).alloc (.cells cs t)) (w.heap.size+1) t cs:=by
 have :=Blk.new (w.alloc A) t cs
 rwa [show (w.alloc A).heap.size=w.heap.size+1 by simp]at this
section
variable {P:Program}
theorem wpList_store_row {ops:Array Oper} {rest:List Oper} {op:Oper} {a:Act} {w:World} {Q:Exit->Act->World->Prop} (hgd:op.guard=none) (ty:TypeId) (x y:Operand) (ho:op.op= .store ty x y)
 (g:Nat) (hx:a.eval x= .pointer (some ⟨g,0,none⟩)) (cells:Array Value) (hy:a.eval y= .agg cells) (t:TypeId) (old:Array Value) (hb:Blk w g t old) (hs:old.size=cells.size)
 (hi:(P.info? ty).map (·.size)=some cells.size) (h1:cells.all (·.oneCell')=true)
 (h: ∀w',Blk w' g t cells->w.grownBy w' (some g)->wpList P ops Q rest (a.put op.dst undef) w'):wpList P ops Q (op::rest) a w:=
 wpList_store_mid hgd ty x y ho g 0 cells hx hy (hb.there 0 _ (by omega)) hi h1 (h _ (setCells_whole hb hs).1 (setCells_whole hb hs).2)
theorem wpList_load_rowG {ops:Array Oper} {rest:List Oper} {o:Oper} {a:Act} {w:World} {Q:Exit->Act->World->Prop} (hgd:Region.wanted o (yielded ops a.tmps)=true) (ty:TypeId) (x:Operand) (ho:o.op= .load ty x)
 (g:Nat) (hx:a.eval x= .pointer (some ⟨g,0,none⟩)) (t:TypeId) (cs:Array Value) (fr:Nat×Nat) (d:TypeDesc) (hg:w.heap[g]?=some (.cells cs t fr))
 (hu:P.underlying ty=some d) (hd:(match d with| .struct _| .array _ _=>true|_=>false)=true) (hi:(P.info? ty).map (·.size)=some cs.size)
 (h:wpList P ops Q rest (a.put o.dst (.agg cs)) w):wpList P ops Q (o::rest) a w:=
 wpList_step fun _ hK=>by
  rw [if_pos hgd]
  exact wp_load_row ty x ho g hx t cs fr d hg hu hd hi (hK _ _ h)
theorem run_row (w:World) (g:Nat) (t ty:TypeId) (cs:Array Value) (d:TypeDesc) (hb:Blk w g t cs)
 (hu:P.underlying ty=some d) (hd:(match d with| .struct _| .array _ _=>true|_=>false)=true) (hi:(P.info? ty).map (·.size)=some cs.size):
 (loadVar ty ⟨g,0,none⟩).run P w= .ok (.agg cs) w:=run_loadVar_row w g t ty cs (0,0) d hb hu hd hi
theorem results_row_tmp {fn:Func} {p q:Tmp} {ty:TypeId} (h:fn.results= #[.cell p ty,.tmp q]) (tmps:Array Value) (w:World) (g:Nat) (v:Value)
 (hp:tmps.getD p undef= .pointer (some ⟨g,0,none⟩)) (hr:(loadVar ty ⟨g,0,none⟩).run P w= .ok v w):
 (results fn tmps).run P w= .ok (.tuple #[v,tmps.getD q undef]) w:=by
 have hp':tmps[p]?.getD undef= .pointer (some ⟨g,0,none⟩):=by simpa using hp
 simp [results,h,hp',asAddr,hr]
theorem results_row_row_tmp {fn:Func} {p p' q:Tmp} {ty ty':TypeId} (h:fn.results= #[.cell p ty,.cell p' ty',.tmp q]) (tmps:Array Value) (w:World) (g g':Nat) (v v':Value)
 (hp:tmps.getD p undef= .pointer (some ⟨g,0,none⟩)) (hr:(loadVar ty ⟨g,0,none⟩).run P w= .ok v w)
 (hp2:tmps.getD p' undef= .pointer (some ⟨g',0,none⟩)) (hr2:(loadVar ty' ⟨g',0,none⟩).run P w= .ok v' w):
 (results fn tmps).run P w= .ok (.tuple #[v,v',tmps.getD q undef]) w:=by
 have hp':tmps[p]?.getD undef= .pointer (some ⟨g,0,none⟩):=by simpa using hp
 have hp2':tmps[p']?.getD undef= .pointer (some ⟨g',0,none⟩):=by simpa using hp2
 simp [results,h,hp',hp2',asAddr,hr,hr2]
end
section
variable {P:Program} {ops:Array Oper} {S:World->Prop}
theorem yields_row {op:Oper} {a:Act} (hw:Region.wanted op (yielded ops a.tmps)=true) (ty:TypeId) (x:Operand) (ho:op.op= .load ty x)
 (g:Nat) (hx:a.eval x= .pointer (some ⟨g,0,none⟩)) (cs:Array Value) (hS: ∀w,S w->(loadVar ty ⟨g,0,none⟩).run P w= .ok (.agg cs) w):YieldsIf P ops S op (.agg cs) a:=
 .inl ⟨hw,fun w hw'=>by
  unfold execOp
  simp only [ho,hx,Instr.loadAt,Instr.sureAddr,Sem.run_bind,Sem.run_pure,Result.andThen_ok,hS w hw']⟩
end
section
variable {P:Program} {md:Region.Mode} {ops:Array Oper} {Q:Exit->Act->World->Prop} {S:World->Prop} {m:Nat}
def wpAnyG (P:Program) (md:Region.Mode) (ops:Array Oper) (Q:Exit->Act->World->Prop) (S:World->Prop) (m:Nat):Nat->Array Bool->Act->World->Prop
 |0,L,a,w=>Region.ready md ops L=[]/\Q .normal a w
 |f+1,L,a,w=>(Region.ready md ops L=[]->Q .normal a w)/\
  ∀i∈Region.ready md ops L,wpOp P ops Q i (fun a' w'=>(i≠m->L.getD m false=false->S w')/\wpAnyG P md ops Q S m f (L.setIfInBounds i true) a' w') a w
theorem wpAny_of_G: ∀(f:Nat) (L:Array Bool) (a:Act) (w:World),wpAnyG P md ops Q S m f L a w->wpAny P md ops Q f L a w
 |0,_,_,_,h=>h
 |f+1,_,_,_,h=>⟨h.1,fun i hi=>wpOp_mono (fun a' w' h'=>wpAny_of_G f _ a' w' h'.2) (h.2 i hi)⟩
def lastWaits (md:Region.Mode) (ops:Array Oper) (m i:Nat):Bool:=
 match ops[m]? with
 |none=>false
 |some o=>o.after.any fun e=>Region.binds md e&&(e.on==i||match ops[e.on]? with
  |none=>false
  |some o'=>o'.after.any fun e'=>Region.binds md e'&&e'.on==i)
def Closed (md:Region.Mode) (ops:Array Oper) (L:Array Bool):Prop:=
 ∀k o,ops[k]?=some o->L.getD k false=true-> ∀e∈o.after,Region.binds md e=true->L.getD e.on false=true
def closedB (md:Region.Mode) (ops:Array Oper) (L:Array Bool):Bool:=
 (List.range ops.size).all fun k=>!L.getD k false||match ops[k]? with
   |none=>true
   |some o=>o.after.all fun e=>!Region.binds md e||L.getD e.on false
theorem closedB_spec {L:Array Bool} (h:closedB md ops L=true):Closed md ops L:=by
 intro k o ho hk e he hb
 have h1:=List.all_eq_true.1 h k (List.mem_range.2 (Array.getElem?_eq_some_iff.1 ho).1)
 rw [ho,hk]at h1
 have h2:=Array.all_eq_true_iff_forall_mem.1 (show o.after.all (fun e=>!Region.binds md e||L.getD e.on false)=true by simpa using h1) e he
 rw [hb]at h2
 simpa using h2
theorem Closed.set {L:Array Bool} {j:Nat} (h:Closed md ops L) (hj:j∈Region.ready md ops L):Closed md ops (L.setIfInBounds j true):=by
 intro k o ho hk e he hb
 refine getD_set_true ?_
 by_cases hkj:k=j
 ·subst hkj
  obtain ⟨_,o',ho',hall⟩:=mem_ready.1 hj
  rw [ho]at ho'
  obtain rfl:=Option.some.inj ho'
  exact hall e he hb
 ·rw [getD_set_ne false (Ne.symm hkj)]at hk
  exact h k o ho hk e he hb
theorem lastWaits_listed {i:Nat} {L:Array Bool} (h:lastWaits md ops m i=true) (hc:Closed md ops L) (hm:L.getD m false=true):L.getD i false=true:=by
 unfold lastWaits at h
 cases ho:ops[m]? with
 |none=>rw [ho]at h;cases h
 |some o=>
  rw [ho]at h
  obtain ⟨e,he,hb⟩:=Array.any_eq_true'.1 (show o.after.any (fun e=>Region.binds md e&&(e.on==i||match ops[e.on]? with
   |none=>false
   |some o'=>o'.after.any fun e'=>Region.binds md e'&&e'.on==i))=true from h)
  simp only [Bool.and_eq_true,Bool.or_eq_true,beq_iff_eq]at hb
  obtain ⟨hb1,hb2⟩:=hb
  have h1:=hc m o ho hm e he hb1
  rcases hb2 with hb2|hb2
  ·rwa [hb2]at h1
  ·cases ho':ops[e.on]? with
   |none=>rw [ho']at hb2;cases hb2
   |some o'=>
    rw [ho']at hb2
    obtain ⟨e',he',hb'⟩:=Array.any_eq_true'.1 (show o'.after.any (fun e'=>Region.binds md e'&&e'.on==i)=true from hb2)
    simp only [Bool.and_eq_true,beq_iff_eq]at hb'
    have :=hc e.on o' ho' h1 e' he' hb'.1
    rwa [hb'.2]at this
theorem unlisted_both {L:Array Bool} {i:Nat} (h:L.getD i true=false):L.getD i false=false:=by
 rcases Nat.lt_or_ge i L.size with h'|h'
 ·simpa [h']using h
 ·simp [Array.getElem?_eq_none h']at h
theorem unlisted_true {L:Array Bool} {i:Nat} (h:L.getD i true=false):(L.setIfInBounds i true).getD i false=true:=by
 rcases Nat.lt_or_ge i L.size with h'|h'
 ·simp [h']
 ·simp [Array.getElem?_eq_none h']at h
theorem wpAnyG_first {T:World->Prop} {i:Nat} {oi:Oper} {v:Value} (hi:ops[i]?=some oi) (hsel: ∀(j:Nat) (o:Oper) cs b,ops[j]?=some o->o.op≠ .select cs b)
 (hQ: ∀c a w,Q (.panic c) (a.put oi.dst v) w->Q (.panic c) a w) (hne:i≠m) (hT:(∀w,T w)∨(lastWaits md ops m i=true/\ ∀w,S w->T w)):
 ∀(f:Nat) (L:Array Bool) (a:Act) (w:World),
  (∀j oj,ops[j]?=some oj->j≠i->L.getD j true=false->(∀e∈oj.after,Region.binds md e=true->e.on≠i)->oi.apart ops oj=true)->
  Closed md ops L->i∈Region.ready md ops L->YieldsIf P ops T oi v a->(L.getD m false=false->S w)->
  wpAnyG P md ops Q S m f (L.setIfInBounds i true) (a.put oi.dst v) w->wpAnyG P md ops Q S m (f+1) L a w
 |0,L,a,w,_,hcl,hr,hy,hS,H=>by
  have hun:=unlisted_both (mem_ready.1 hr).1
  have hTw:T w:=by
   rcases hT with hT|⟨hl,hT⟩
   ·exact hT w
   ·refine hT w (hS ?_)
    cases hq:L.getD m false
    ·rfl
    ·rw [lastWaits_listed hl hcl hq]at hun;cases hun
  refine ⟨fun h=>(by rw [h]at hr;cases hr),fun j hj=>?_⟩
  by_cases hji:j=i
  ·rw [hji];exact hy.wpOp hi hTw ⟨fun _ h=>hS h,H⟩
  ·have :=ready_mono hj hji
   rw [H.1]at this
   cases this
 |f+1,L,a,w,hfree,hcl,hr,hy,hS,H=>by
  have hun:=unlisted_both (mem_ready.1 hr).1
  have hTw:T w:=by
   rcases hT with hT|⟨hl,hT⟩
   ·exact hT w
   ·refine hT w (hS ?_)
    cases hq:L.getD m false
    ·rfl
    ·rw [lastWaits_listed hl hcl hq]at hun;cases hun
  refine ⟨fun h=>(by rw [h]at hr;cases hr),fun j hj=>?_⟩
  by_cases hji:j=i
  ·rw [hji];exact hy.wpOp hi hTw ⟨fun _ h=>hS h,H⟩
  ·obtain ⟨hjun,oj,hoj,hall⟩:=mem_ready.1 hj
   have hnot: ∀e∈oj.after,Region.binds md e=true->e.on≠i:=fun e he hb heq=>by
    have :=hall e he hb
    rw [heq,hun]at this
    cases this
   have h2:=wpOp_putIf hoj (hfree j oj hoj hji hjun hnot) (fun cs b=>hsel i oi cs b hi) (fun cs b=>hsel j oj cs b hoj) hQ hy (H.2 j (ready_mono hj hji))
   refine wpOp_mono (fun a' w' h3=>?_) h2
   obtain ⟨h31,h32,h33⟩:=h3
   have hSw:j≠m->L.getD m false=false->S w':=fun h1 h4=>h32 h1 (by rw [getD_set_ne false hne];exact h4)
   refine ⟨hSw,wpAnyG_first hi hsel hQ hne hT f (L.setIfInBounds j true) a' w' (fun k ok hk hki hu hno=>hfree k ok hk hki ?_ hno) (hcl.set hj) (ready_mono hr (Ne.symm hji)) h31 (fun hm=>?_) ?_⟩
   ·by_cases hjk:j=k
    ·rw [<-hjk];exact hjun
    ·rwa [getD_set_ne true hjk]at hu
   ·by_cases hjm:j=m
    ·subst hjm
     rw [unlisted_true hjun]at hm
     cases hm
    ·rw [getD_set_ne false hjm]at hm
     exact hSw hjm hm
   ·rw [Array.setIfInBounds_comm _ _ hji]
    exact h33
theorem takeG {i:Nat} {oi:Oper} {v:Value} {f:Nat} {L:Array Bool} {a:Act} {w:World} (hi:ops[i]?=some oi)
 (hs:Region.noSelect ops=true) (hf:Region.free md ops L i=true) (hr:(Region.ready md ops L).contains i=true) (hl:(lastWaits md ops m i&&closedB md ops L&&decide (i≠m))=true)
 (hQ: ∀c a w,Q (.panic c) (a.put oi.dst v) w->Q (.panic c) a w) (hy:YieldsIf P ops S oi v a) (hS:S w)
 (h:wpAnyG P md ops Q S m f (L.setIfInBounds i true) (a.put oi.dst v) w):wpAnyG P md ops Q S m (f+1) L a w:=by
 simp only [Bool.and_eq_true,decide_eq_true_eq]at hl
 exact wpAnyG_first hi (Region.noSelect_spec hs) hQ hl.2 (.inr ⟨hl.1.1,fun _ h=>h⟩) f L a w (Region.free_spec hi hf) (closedB_spec hl.1.2) (by simpa using hr) hy (fun _=>hS) h
theorem takeG0 {i:Nat} {oi:Oper} {v:Value} {f:Nat} {L:Array Bool} {a:Act} {w:World} (hi:ops[i]?=some oi)
 (hs:Region.noSelect ops=true) (hf:Region.free md ops L i=true) (hr:(Region.ready md ops L).contains i=true) (hl:(closedB md ops L&&decide (i≠m))=true)
 (hQ: ∀c a w,Q (.panic c) (a.put oi.dst v) w->Q (.panic c) a w) (hy:YieldsIf P ops (fun _=>True) oi v a) (hS:S w)
 (h:wpAnyG P md ops Q S m f (L.setIfInBounds i true) (a.put oi.dst v) w):wpAnyG P md ops Q S m (f+1) L a w:=by
 simp only [Bool.and_eq_true,decide_eq_true_eq]at hl
 exact wpAnyG_first hi (Region.noSelect_spec hs) hQ hl.2 (.inl fun _=>trivial) f L a w (Region.free_spec hi hf) (closedB_spec hl.1) (by simpa using hr) hy (fun _=>hS) h
theorem takeA {i:Nat} {oi:Oper} {v:Value} {f:Nat} {L:Array Bool} {a:Act} {w:World} (hi:ops[i]?=some oi) (hS:S w)
 (h:wpAnyG P md ops Q S m f (L.setIfInBounds i true) (a.put oi.dst v) w)
 (hs:Region.noSelect ops=true:=by kernel_rfl) (hf:Region.free md ops L i=true:=by kernel_rfl) (hr:(Region.ready md ops L).contains i=true:=by kernel_rfl) (hl:(closedB md ops L&&decide (i≠m))=true:=by kernel_rfl)
 (hQ: ∀c a w,Q (.panic c) (a.put oi.dst v) w->Q (.panic c) a w:=by exact fun _ _ _ h=>h) (hy:YieldsIf P ops (fun _=>True) oi v a:=by exact Or.inl ⟨by rfl,fun W hW=>by go_simp⟩):wpAnyG P md ops Q S m (f+1) L a w:=
 takeG0 hi hs hf hr hl hQ hy hS h
theorem takeB {i:Nat} {oi:Oper} {v:Value} {f:Nat} {L:Array Bool} {a:Act} {w:World} (hi:ops[i]?=some oi) (hy:YieldsIf P ops S oi v a) (hS:S w)
 (h:wpAnyG P md ops Q S m f (L.setIfInBounds i true) (a.put oi.dst v) w)
 (hs:Region.noSelect ops=true:=by kernel_rfl) (hf:Region.free md ops L i=true:=by kernel_rfl) (hr:(Region.ready md ops L).contains i=true:=by kernel_rfl) (hl:(lastWaits md ops m i&&closedB md ops L&&decide (i≠m))=true:=by kernel_rfl)
 (hQ: ∀c a w,Q (.panic c) (a.put oi.dst v) w->Q (.panic c) a w:=by exact fun _ _ _ h=>h):wpAnyG P md ops Q S m (f+1) L a w:=
 takeG hi hs hf hr hl hQ hy hS h
theorem onlyG {i:Nat} {o:Oper} {f:Nat} {L:Array Bool} {a:Act} {w:World} (hr:Region.ready md ops L=[i]) (ho:ops[i]?=some o)
 (h: ∀K':Act->World->Prop,Go.Shut (∀a w,S w->(S w->wpAnyG P md ops Q S m f (L.setIfInBounds i true) a w)->K' a w)->if Region.wanted o (yielded ops a.tmps)=true then Oper.wp P o a w K' Q else K' (a.put o.dst undef) w):
 wpAnyG P md ops Q S m (f+1) L a w:=
 ⟨fun h0=>(by rw [hr]at h0;cases h0),fun j hj=>by
  rw [hr]at hj
  obtain rfl:j=i:=by simpa using hj
  exact wpOp_step ho (fun K' hK=>h K' (fun a w hS hW=>hK a w ⟨fun _ _=>hS,hW hS⟩))⟩
def AllG (P:Program) (md:Region.Mode) (ops:Array Oper) (Q:Exit->Act->World->Prop) (S:World->Prop) (m f:Nat) (L:Array Bool) (a:Act) (w:World) (rs:List Nat):Prop:=
 ∀i∈rs,wpOp P ops Q i (fun a' w'=>(i≠m->L.getD m false=false->S w')/\wpAnyG P md ops Q S m f (L.setIfInBounds i true) a' w') a w
theorem AllG.nil {f:Nat} {L:Array Bool} {a:Act} {w:World}:AllG P md ops Q S m f L a w []:=fun _ h=>by cases h
theorem AllG.cons {f:Nat} {L:Array Bool} {a:Act} {w:World} {i:Nat} {o:Oper} {rs:List Nat} (ho:ops[i]?=some o)
 (h: ∀K':Act->World->Prop,Go.Shut (∀a w,S w->(S w->wpAnyG P md ops Q S m f (L.setIfInBounds i true) a w)->K' a w)->if Region.wanted o (yielded ops a.tmps)=true then Oper.wp P o a w K' Q else K' (a.put o.dst undef) w)
 (hs:AllG P md ops Q S m f L a w rs):AllG P md ops Q S m f L a w (i::rs):=fun j hj=>by
 rcases List.mem_cons.1 hj with rfl|hj
 ·exact wpOp_step ho (fun K' hK=>h K' (fun a w hS hW=>hK a w ⟨fun _ _=>hS,hW hS⟩))
 ·exact hs j hj
theorem manyG {rs:List Nat} {f:Nat} {L:Array Bool} {a:Act} {w:World} (hr:Region.ready md ops L=rs) (hne:rs≠[])
 (h:AllG P md ops Q S m f L a w rs):wpAnyG P md ops Q S m (f+1) L a w:=
 ⟨fun h0=>absurd (hr▸h0) hne,hr▸h⟩
theorem lastG {o:Oper} {f:Nat} {L:Array Bool} {a:Act} {w:World} (hr:Region.ready md ops L=[m]) (ho:ops[m]?=some o) (hd:Region.ready md ops (L.setIfInBounds m true)=[])
 (h: ∀K':Act->World->Prop,Go.Shut (∀a w,Q .normal a w->K' a w)->if Region.wanted o (yielded ops a.tmps)=true then Oper.wp P o a w K' Q else K' (a.put o.dst undef) w):
 wpAnyG P md ops Q S m (f+1) L a w:=
 ⟨fun h0=>(by rw [hr]at h0;cases h0),fun j hj=>by
  rw [hr]at hj
  obtain rfl:j=m:=by simpa using hj
  refine wpOp_step ho (fun K' hK=>h K' (fun a w hq=>hK a w ⟨fun e _=>absurd rfl e,?_⟩))
  cases f with
  |zero=>exact ⟨hd,hq⟩
  |succ f=>exact ⟨fun _=>hq,by rw [hd];simp⟩⟩
theorem startG {id:Nat} {a:Act} {w:World} (S:World->Prop) (m:Nat) (hm:P.follows .mixedOrders=true)
 (h:wpAnyG P .any ops Q S m ops.size (Array.replicate ops.size false) a w.drew):(Code.region id ops true).wp P Q a w:=
 wp_region_any hm (wpAny_of_G _ _ _ _ h)
end
section
variable {P:Program} {ops:Array Oper}
theorem step_store_row {op:Oper} {a:Act} {w:World} {K:Act->World->Prop} {Q:Exit->Act->World->Prop} {E:Prop} (hgd:op.guard=none) (ty:TypeId) (x y:Operand) (ho:op.op= .store ty x y)
 (g:Nat) (hx:a.eval x= .pointer (some ⟨g,0,none⟩)) (cells:Array Value) (hy:a.eval y= .agg cells) (t:TypeId) (old:Array Value) (hb:Blk w g t old) (hs:old.size=cells.size)
 (hi:(P.info? ty).map (·.size)=some cells.size) (h1:cells.all (·.oneCell')=true)
 (h: ∀w',Blk w' g t cells->w.grownBy w' (some g)->K (a.put op.dst undef) w'):if Region.wanted op (yielded ops a.tmps)=true then Oper.wp P op a w K Q else E:=by
 have hw:Region.wanted op (yielded ops a.tmps)=true:=by simp [Region.wanted,hgd]
 rw [if_pos hw]
 exact wp_store_mid ty x y ho g 0 cells hx hy (hb.there 0 _ (by omega)) hi h1 (h _ (setCells_whole hb hs).1 (setCells_whole hb hs).2)
end
theorem below_row {w W W':World} {B g:Nat} (h:Below B w W) (hg:W.grownBy W' (some g)) (hB:B<=W.heap.size) (hr:B<=g):Below B w W':=
 h.grown hg hB (fun k e=>by injection e with e;omega)
section
variable {w w':World} {base:Nat} {e:TypeId} {size n:Nat} {v:Value} {xs:List Value}
theorem own_grown {r:Nat} (h:w.ownsRow base e size v n xs) (hg:w.grownBy w' (some r)) (hr:r<base):w'.ownsRow base e size v n xs:=by
 obtain ⟨h1,h2⟩:=h
 refine ⟨h1,?_⟩
 rcases h2 with h2|⟨g,cap,cur,hv,hgb,hh,q⟩
 ·exact .inl h2
 ·have hlt:g<w.heap.size:=by
   rcases Nat.lt_or_ge g w.heap.size with hlt|hge
   ·exact hlt
   ·rw [Array.getElem?_eq_none hge]at hh;cases hh
  refine .inr ⟨g,cap,cur,hv,hgb,(hg.block g hlt (fun e=>?_)).trans hh,q⟩
  have :=Option.some.inj e
  omega
theorem grown_alloc {a b:World} {row:Option Nat} (h:a.grownBy b row) (o:Obj):a.grownBy (b.alloc o) row:=
 have hB:=(Below.refl b.heap.size b).alloc (Nat.le_refl _) o
 ⟨hB.os.trans h.os,hB.tape.trans h.tape,hB.output.trans h.output,Nat.le_trans h.size hB.size,fun i hi hne=>(hB.block i (Nat.lt_of_lt_of_le hi h.size)).trans (h.block i hi hne)⟩
end
theorem set_only {w:World} {g j:Nat} (u:Value):w.grownBy (w.setCell ⟨g,j,none⟩ u) (some g):=
 ⟨rfl,rfl,rfl,by simp [World.setCell],fun i hi hne=>Below.heap_setCell w ⟨g,j,none⟩ u i (fun e=>hne (by rw [e]))⟩
theorem grown_trans' {a b c:World} {row:Option Nat} (h:a.grownBy b row) (k:b.grownBy c row):a.grownBy c row:=
 ⟨k.os.trans h.os,k.tape.trans h.tape,k.output.trans h.output,Nat.le_trans h.size k.size,fun i hi hne=>(k.block i (Nat.lt_of_lt_of_le hi h.size) hne).trans (h.block i hi hne)⟩
theorem own_apart {w w':World} {base base':Nat} {e e':TypeId} {size n size' n':Nat} {v v':Value} {xs xs':List Value} (h:w.ownsRow base e size v n xs) (h':w.ownsRow base' e' size' v' n' xs') (hne:e≠e')
 (hg:w.grownBy w' v'.ownBlock):w'.ownsRow base e size v n xs:=by
 obtain ⟨h1,h2⟩:=h
 refine ⟨h1,?_⟩
 rcases h2 with h2|⟨g,cap,cur,hv,hgb,hh,q⟩
 ·exact .inl h2
 ·have hlt:g<w.heap.size:=by
   rcases Nat.lt_or_ge g w.heap.size with hlt|hge
   ·exact hlt
   ·rw [Array.getElem?_eq_none hge]at hh;cases hh
  refine .inr ⟨g,cap,cur,hv,hgb,(hg.block g hlt (fun e0=>?_)).trans hh,q⟩
  rcases h'.2 with ⟨rfl,_⟩|⟨g',cap',cur',rfl,_,hh',_⟩
  ·cases e0
  ·obtain rfl:g=g':=Option.some.inj e0
   rw [hh]at hh'
   have :=Option.some.inj hh'
   injection this with _ e1 _
   exact hne e1
theorem getD_snoc {α:Type} (l:List α) (x d:α) (t:Nat) (ht:t<(l++[x]).length):(t<l.length/\(l++[x]).getD t d=l.getD t d)∨(t=l.length/\(l++[x]).getD t d=x):=by
 rw [List.length_append]at ht
 rcases Nat.lt_or_ge t l.length with h|h
 ·exact .inl ⟨h,by simp [List.getD_eq_getElem?_getD,List.getElem?_append_left h]⟩
 ·obtain rfl:t=l.length:=by simp at ht;omega
  exact .inr ⟨rfl,by simp [List.getD_eq_getElem?_getD]⟩
theorem own_cap {w:World} {base:Nat} {e:TypeId} {size n:Nat} {v:Value} {xs:List Value} (h:w.ownsRow base e size v n xs): ∃A cap,v= .slice A n cap/\n<=cap/\cap<=maxLen:=by
 rcases h.2 with ⟨rfl,rfl⟩|⟨g,cap,cur,rfl,_,_,h1,h2,_⟩
 ·exact ⟨none,0,rfl,Nat.le_refl _,Nat.zero_le _⟩
 ·exact ⟨_,_,rfl,h1,h2⟩
theorem getD_mem {α:Type} {l:List α} {d:α} {i:Nat} (h:i<l.length):l.getD i d∈l:=by
 simp [List.getD_eq_getElem?_getD,List.getElem?_eq_getElem h]
theorem sl_new2 (w:World) (A:Obj) (t:TypeId) (cs:List Value):Sl ((w.alloc A).alloc (.cells cs.toArray t)) (some ⟨w.heap.size+1,0,none⟩) cs.length (fun i=>cs.getD i undef):=by
 have :=sl_new (w.alloc A) t cs
 rwa [show (w.alloc A).heap.size=w.heap.size+1 by simp]at this
end Go.Proofs.YtmhfpjnkjlhbpaaGreatDoor
