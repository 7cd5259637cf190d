/- Queues of sleepers: in memory; find, Asleep, Sleep, All. Queues of sleepers: Asleep, Sleep, All. Queues of sleepers: rows cut and cleared; the closure of Wake; IndexFunc over it. Queues of sleepers: IndexFunc and DeleteFunc over the closure of Wake; Wake. Queues of sleepers: slices.Delete of one; Rouse. -/
import Derived.Test.YtmhfpjnkjlhbpaaGreatDoorQd02
import Derived.WalkSpells
import Derived.Laws.OwnMore
import Derived.Deep.RegionLaw
namespace Go.Proofs.YtmhfpjnkjlhbpaaGreatDoor
open Go.ChangeShapes Go.WideShapes Go.ChangeAt Go.RowKit Go.Deep
set_option linter.unusedVariables false
set_option maxRecDepth 100000
set_option linter.unusedSimpArgs false
open List renaming setIfInBounds_toArray->zD,set_cons_zero->zE,set_cons_succ->zF
abbrev Slp:=Int×Int
def slp (x:Slp):List Value:=[.int .i64 x.1,.int .i64 x.2]
def fnd (l:List Slp) (who:Int):Nat:=l.findIdx fun x=>x.1==who
theorem fnd_hit {l:List Slp} {who:Int} {i:Nat} (hi:i<l.length) (h:(l.getD i (0,0)).1=who) (hn: ∀j,j<i->(l.getD j (0,0)).1≠who):fnd l who=i:=by
 unfold fnd
 rw [List.findIdx_eq hi]
 rw [List.getD_eq_getElem?_getD,List.getElem?_eq_getElem hi]at h
 refine ⟨by simpa using h,fun j hj=>?_⟩
 have :=hn j hj
 rw [List.getD_eq_getElem?_getD,List.getElem?_eq_getElem (show j<l.length by omega)]at this
 simpa using this
theorem fnd_miss {l:List Slp} {who:Int} (hn: ∀j,j<l.length->(l.getD j (0,0)).1≠who):fnd l who=l.length:=by
 unfold fnd
 rw [List.findIdx_eq_length]
 intro x hx
 obtain ⟨j,hj,rfl⟩:=List.getElem_of_mem hx
 have :=hn j hj
 rw [List.getD_eq_getElem?_getD,List.getElem?_eq_getElem hj]at this
 simpa using this
def fndI (l:List Slp) (who:Int):Int:=if fnd l who<l.length then (fnd l who:Int)else-1
structure K (w:World) (kb base:Nat) (v:Value) (l:List Slp):Prop where
 blk:Blk w kb 107 #[v]
 row:w.ownsRow base 213 2 v l.length (l.flatMap slp)
 lt:kb<base
theorem K.sle {w:World} {kb base:Nat} {v:Value} {l:List Slp} (h:K w kb base v l): ∃A cap,v= .slice A l.length cap/\l.length<=cap/\SlE w A l.length 2 (fun i=>slp (l.getD i (0,0))):=own_sle slp (fun _=>rfl) (0,0) l h.row
theorem K.below {w w':World} {kb base:Nat} {v:Value} {l:List Slp} (h:K w kb base v l) (hb:Below w.heap.size w w'):K w' kb base v l:=⟨h.blk.below hb h.blk.lt,own_below h.row (Nat.le_refl _) hb,h.lt⟩
structure KStep (w w':World) (kb:Nat) (v:Value):Prop where
 os:w'.os=w.os
 tape:w'.tape=w.tape
 output:w'.output=w.output
 size:w.heap.size<=w'.heap.size
 block: ∀i,i<w.heap.size->i≠kb->some i≠v.ownBlock->w'.heap[i]?=w.heap[i]?
theorem KStep.of_below {w w':World} {kb:Nat} {v:Value} (h:Below w.heap.size w w'):KStep w w' kb v:=⟨h.os,h.tape,h.output,h.size,fun i hi _ _=>h.block i hi⟩
theorem KStep.below {w w':World} {kb base B:Nat} {v:Value} {l:List Slp} (h:KStep w w' kb v) (hk:K w kb base v l) (hB:B<=kb):Below B w w':=
 ⟨h.os,h.tape,h.output,h.size,fun i hi=>h.block i (Nat.lt_of_lt_of_le hi (Nat.le_trans hB (Nat.le_of_lt hk.blk.lt))) (by omega) (fun e=>by have :=own_ge hk.row i e.symm;have :=hk.lt;omega)⟩
theorem KStep.row {w w':World} {kb base b e size n:Nat} {v x:Value} {l:List Slp} {xs:List Value} (h:KStep w w' kb v) (hk:K w kb base v l) (hr:w.ownsRow b e size x n xs) (h1:e≠213) (h2:e≠107):w'.ownsRow b e size x n xs:=by
 obtain ⟨q1,q2⟩:=hr
 refine ⟨q1,?_⟩
 rcases q2 with q2|⟨g,cap,cur,hv,hgb,hh,q⟩
 ·exact .inl q2
 ·have hlt:g<w.heap.size:=by
   rcases Nat.lt_or_ge g w.heap.size with hlt|hge
   ·exact hlt
   ·rw [Array.getElem?_eq_none hge]at hh;cases hh
  refine .inr ⟨g,cap,cur,hv,hgb,(h.block g hlt (fun e0=>?_) (fun e0=>?_)).trans hh,q⟩
  ·subst e0
   have hb:=hk.blk
   unfold Blk at hb
   rw [hb]at hh
   have :=Option.some.inj hh
   injection this with _ e1 _
   exact h2 e1.symm
  ·rcases hk.row.2 with ⟨rfl,_⟩|⟨g',cap',cur',rfl,_,hh',_⟩
   ·cases e0
   ·obtain rfl:g=g':=Option.some.inj e0
    rw [hh']at hh
    have :=Option.some.inj hh
    injection this with _ e1 _
    exact h1 e1.symm
theorem KStep.trans {w w' w'':World} {kb:Nat} {v v':Value} (h:KStep w w' kb v) (k:KStep w' w'' kb v') (hv: ∀i,v'.ownBlock=some i->v.ownBlock=some i∨w.heap.size<=i):KStep w w'' kb v:=
 ⟨k.os.trans h.os,k.tape.trans h.tape,k.output.trans h.output,Nat.le_trans h.size k.size,fun i hi h1 h2=>(k.block i (Nat.lt_of_lt_of_le hi h.size) h1 (fun e=>by
  rcases hv i e.symm with h3|h3
  ·exact h2 h3.symm
  ·omega)).trans (h.block i hi h1 h2)⟩
theorem find1_any (who a b:Int) (c:Nat) (w:World) (hc:w.cell? ⟨c,0,none⟩=some (.int .i64 who)) (hlt:c<w.heap.size):
 Calls Tryz.prog 164 #[.agg #[.int .i64 a,.int .i64 b],.pointer (some ⟨c,0,none⟩)] w fun e w'=>e= .returned (.bool (a==who))/\Below w.heap.size w w':=by
 have hc':(w.alloc (.cells #[.int .i64 a,.int .i64 b] 213)).cell? ⟨c,0,none⟩=some (.int .i64 who):=keepAt ((Below.refl w.heap.size w).alloc (Nat.le_refl _) _) hlt hc
 go_enter Tryz.func164,Tryz.ntmps164
 go_wp2
 go_ret
 exact ⟨rfl,(Below.refl _ _).alloc (Nat.le_refl _) _⟩
set_option maxHeartbeats 1000000 in
theorem index_find (A:Option Addr) (len cap:Nat) (l:List Slp) (hl:l.length=len) (hm:len<=1000000) (who:Int) (c:Nat) (w:World) (hs:SlE w A len 2 (fun i=>slp (l.getD i (0,0)))) (hc:w.cell? ⟨c,0,none⟩=some (.int .i64 who)) (hlt:c<w.heap.size):
 Calls Tryz.prog 163 #[.slice A len cap, .func (.func 164) #[] #[.pointer (some ⟨c, 0, none⟩)]] w fun e w' => e = .returned (.int .i64 (fndI l who)) /\ Below w.heap.size w w' := by
 have HS:=Lib.hid hs
 have HC:=Lib.hid hc
 have HL:=Lib.hid hl
 clear hs hc hl
 go_enter Tryz.func163,Tryz.ntmps163
 go_wp2
 go_loopw [8] (fun i wr=> ∃k:Nat,k<=len/\i= .int .i64 k/\(∀j,j<k->(l.getD j (0,0)).1≠who)/\Below w.heap.size w wr) (fun i _=>len-(intOf i).toNat)
 case atStart=>exact ⟨0,Nat.zero_le _,rfl,fun j hj=>absurd hj (by omega),Below.refl _ _⟩
 case round=>
  obtain ⟨k,hk,rfl,hn,hB⟩:=hrel
  have HN:=Lib.hid hn
  clear hn
  by_cases hkl:k<len
  ·have hk1:(k:Int)<(len:Int):=by omega
   have hk0:(0:Int)<=(k:Int):=by omega
   obtain ⟨b,off,rfl,hb,hcc⟩:=HS.out (by omega)
   obtain ⟨⟨x,y⟩,hxy⟩: ∃p,l.getD k (0,0)=p:=⟨_,rfl⟩
   have k0:=hcc k hkl 0 (.int .i64 (l.getD k (0,0)).1) rfl
   have k1:=hcc k hkl 1 (.int .i64 (l.getD k (0,0)).2) rfl
   rw [hxy]at k0 k1
   dsimp only at k0 k1
   rw [Nat.add_zero]at k0
   replace k0:=keepAt hB hb k0
   replace k1:=keepAt hB hb k1
   have hcw:=keepAt hB hlt HC.out
   have hltw:c<wr.heap.size:=Nat.lt_of_lt_of_le hlt hB.size
   have HX:=Lib.hid hxy
   clear hcc hxy
   have cF:=find1_any who x y c wr hcw hltw
   by_cases hx:x=who
   ·subst hx
    rw [show (x==x)=true from by simp]at cF
    go_wp2_with fail
    refine cF.mono ?_
    rintro e w1 ⟨rfl,hb1⟩
    go_wp2
    go_ret
    have hf:fndI l x=(k:Int):=by
     unfold fndI
     rw [fnd_hit (by rw [HL.out];exact hkl) (by rw [HX.out]) HN.out,if_pos (by rw [HL.out];exact hkl)]
    exact ⟨by rw [hf];rfl,step_below hB hb1⟩
   ·have hxb:(x==who)=false:=by simp [hx]
    rw [hxb]at cF
    clear hxb
    go_wp2_with fail
    refine cF.mono ?_
    rintro e w1 ⟨rfl,hb1⟩
    have hB1:=step_below hB hb1
    go_wp2
    go_roundw
    case rel=>
     refine ⟨k+1,by omega,by go_num,fun j hj=>?_,hB1⟩
     rcases (by omega:j<k∨j=k)with h|rfl
     ·exact HN.out j h
     ·rw [HX.out];exact hx
    case measure=>simp [intOf];omega
  ·obtain rfl:len=k:=by omega
   have hk1: ¬(len:Int)<(len:Int):=by omega
   go_wp2
   go_ret
   have hf:fndI l who= -1:=by
    unfold fndI
    rw [fnd_miss (by rw [HL.out];exact HN.out),if_neg (by omega)]
   exact ⟨by rw [hf];rfl,hB⟩
theorem slp_info:(Tryz.prog.info? 213).map (fun i=>(i.zero,i.size,i.bytes))=some (some (.agg #[.int .i64 0,.int .i64 0]),2,16):=by kernel_rfl
def aslp (l:List Slp) (who:Int):Int×Bool:=if fnd l who<l.length then ((l.getD (fnd l who) (0,0)).2,true)else (0,false)
def slpE (l:List Slp) (who:Int):Int:=if who<0∨7<who then 1 else if fnd l who<l.length then 6 else 0
theorem zeroCells2 (x y:Value) (n:Nat) (hx:x.oneCell'=true) (hy:y.oneCell'=true):(Builtin.zeroCells #[x,y] n).toList.length=n*2/\ ∀v∈(Builtin.zeroCells #[x,y] n).toList,v.oneCell'=true:=by
 constructor
 ·simp [Builtin.zeroCells]
 ·intro v hv
  simp only [Builtin.zeroCells,Array.toList_map,List.mem_map]at hv
  obtain ⟨i,_,rfl⟩:=hv
  show ((#[x,y]:Array Value)[i % 2]!).oneCell'=true
  rcases (by omega:i % 2=0∨i % 2=1)with e|e<;>rw [e]
  ·exact hx
  ·exact hy
theorem own_clear {w:World} {base g len cap:Nat} {e t:TypeId} {xs:List Value} {z:Value} {x y:Value} (h:w.ownsRow base e 2 (.slice (some ⟨g,0,none⟩) len cap) len xs) (ht:Tryz.prog.underlying t=some (.slice e)) (hv: ∀w,(zeroValue e).run Tryz.prog w= .ok z w)
 (hz:z.cells= #[x,y]) (hx:x.oneCell'=true) (hy:y.oneCell'=true) (i c:Nat) (hi:i<len):
 ∃w',(∀ty,(Builtin.clear_ #[t] ty #[.slice (some ⟨g,i*2,none⟩) (len-i) c]).run Tryz.prog w= .ok (.tuple #[]) w')/\w'.ownsRow base e 2 (.slice (some ⟨g,0,none⟩) i cap) i (xs.take (i*2))/\w.grownBy w' (some g):=by
 obtain ⟨h1,h2⟩:=h
 rcases h2 with ⟨h',_⟩|⟨g',cap',cur,h',hb,hg,hnc,hcm,hcs,htake⟩
 ·simp at h'
 ·simp only [Value.slice.injEq,Option.some.injEq,Addr.mk.injEq,and_true,true_and]at h'
  obtain ⟨rfl,rfl⟩:=h'
  obtain ⟨zl,zone⟩:=zeroCells2 x y (len-i) hx hy
  have hblk:Blk w g e cur:=hg
  obtain ⟨cs',q1,q2,q3,q4,q5⟩:=setCells_row g e (Builtin.zeroCells #[x,y] (len-i)).toList (i*2) w cur hblk (by rw [zl,hcs];omega)
  refine ⟨_,fun ty=>?_,⟨by rw [List.length_take,h1];omega,.inr ⟨g,cap,cs',rfl,hb,q1,by omega,hcm,by omega,?_⟩⟩,q5⟩
  ·have hst:=run_storeCells_cells (P:=Tryz.prog) g (i*2) (Builtin.zeroCells #[x,y] (len-i)).toList 0 w (fun j hj=>by rw [Nat.add_zero,hblk.cell,Array.getElem?_eq_getElem (by rw [hcs];omega)];rfl) (fun j hj=>hblk.frozen _) zone
   simp only [Nat.add_zero]at hst
   obtain ⟨m,hm⟩: ∃m,len-i=m+1:=⟨len-i-1,by omega⟩
   rw [hm]at hst⊢
   simp [Builtin.clear_,run_underlying ht,hv,hz,hst]
  ·apply List.ext_getElem?
   intro k
   by_cases hk:k<i*2
   ·rw [List.getElem?_take_of_lt hk,List.getElem?_take_of_lt hk,<-htake,List.getElem?_take_of_lt (by omega)]
    have :=q4 k (.inl hk)
    simpa using this
   ·rw [List.getElem?_eq_none (by simp;omega),List.getElem?_eq_none (by simp;omega)]
theorem flat_set (l:List Slp) (i:Nat) (x:Slp) (hi:i<l.length):((l.flatMap slp).set (i*2) (.int .i64 x.1)).set (i*2+1) (.int .i64 x.2)=(l.set i x).flatMap slp:=by
 induction l generalizing i with
 |nil=>exact absurd hi (by simp)
 |cons y l ih=>
  rcases i with _|i
  ·rfl
  ·have h2:(i+1)*2=i*2+2:=by omega
   rw [h2,List.flatMap_cons,zF,List.flatMap_cons,<-ih i (by simpa using hi)]
   rfl
def wstep (addr:Int) (n:Nat) (s:List Slp×List Int) (x:Slp):List Slp×List Int:=if x.2=addr/\s.2.length<n then (s.1,s.2++[x.1])else (s.1++[x],s.2)
def wk (addr:Int) (n:Nat) (l:List Slp):List Slp×List Int:=l.foldl (wstep addr n) ([],[])
theorem wk_snoc (addr:Int) (n:Nat) (l:List Slp) (x:Slp):wk addr n (l++[x])=wstep addr n (wk addr n l) x:=by unfold wk;rw [List.foldl_append];rfl
theorem take_snoc {α:Type} (l:List α) (k:Nat) (d:α) (h:k<l.length):l.take (k+1)=l.take k++[l.getD k d]:=by
 rw [List.take_succ_eq_append_getElem h]
 simp [List.getD_eq_getElem?_getD,List.getElem?_eq_getElem h]
theorem wk_len' (addr:Int) (n:Nat): ∀(l:List Slp) (s:List Slp×List Int),(l.foldl (wstep addr n) s).1.length+(l.foldl (wstep addr n) s).2.length=s.1.length+s.2.length+l.length
 |[],s=>rfl
 |x::l,s=>by
  rw [List.foldl_cons,wk_len' addr n l]
  unfold wstep
  split<;>simp<;>omega
theorem wk_len (addr:Int) (n:Nat) (l:List Slp):(wk addr n l).1.length+(wk addr n l).2.length=l.length:=by
 have :=wk_len' addr n l ([],[])
 simpa [wk]using this
structure O (w:World) (ab nb ob b0:Nat) (addr:Int) (n:Nat) (ov:Value) (outs:List Int):Prop where
 a:Blk w ab 3 #[.int .i64 addr]
 n:Blk w nb 42 #[.int .u32 (n:Int)]
 blk:Blk w ob 70 #[ov]
 row:w.ownsRow b0 3 1 ov outs.length (outs.map (Value.int .i64))
 lt:ob<b0
 la:ab<b0
 ln:nb<b0
 hs:b0<=w.heap.size
 ao:ab≠ob
 no:nb≠ob
theorem O.below {w w':World} {ab nb ob b0:Nat} {addr:Int} {n:Nat} {ov:Value} {outs:List Int} (h:O w ab nb ob b0 addr n ov outs) (hb:Below w.heap.size w w'):O w' ab nb ob b0 addr n ov outs:=
 ⟨h.a.below hb h.a.lt,h.n.below hb h.n.lt,h.blk.below hb h.blk.lt,own_below h.row (Nat.le_refl _) hb,h.lt,h.la,h.ln,Nat.le_trans h.hs hb.size,h.ao,h.no⟩
theorem int_info:(Tryz.prog.info? 3).map (fun i=>(i.zero,i.size,i.bytes))=some (some (.int .i64 0),1,8):=by kernel_rfl
theorem wake1_no (ab nb ob b0:Nat) (addr:Int) (n:Nat) (ov:Value) (outs:List Int) (hn:n<=4294967295) (ho:outs.length<=10000) (x:Slp) (hx: ¬(x.2=addr/\outs.length<n)) (w:World) (h:O w ab nb ob b0 addr n ov outs):
 Calls Tryz.prog 176 #[.agg #[.int .i64 x.1,.int .i64 x.2],.pointer (some ⟨ab,0,none⟩),.pointer (some ⟨ob,0,none⟩),.pointer (some ⟨nb,0,none⟩)] w fun e w'=>e= .returned (.bool false)/\Below w.heap.size w w':=by
 obtain ⟨a,b⟩:=x
 dsimp only at hx⊢
 have hal:=(Below.refl w.heap.size w).alloc (Nat.le_refl _) (.cells #[.int .i64 a,.int .i64 b] 213)
 have ka:=keepAt hal h.a.lt ((h.a.cell 0).trans rfl)
 have kn:=keepAt hal h.n.lt ((h.n.cell 0).trans rfl)
 have ko:=keepAt hal h.blk.lt ((h.blk.cell 0).trans rfl)
 obtain ⟨oA,oc,rfl,_,_⟩:=own_sl h.row
 clear h
 by_cases hb:b=addr
 ·subst hb
  have hlt: ¬outs.length<n:=fun h=>hx ⟨rfl,h⟩
  have hge:(n:Int)<=(outs.length:Int):=by omega
  have hne:(b !=b)=false:=by simp
  clear hx hlt
  generalize outs.length=k at*
  go_enter Tryz.func176,Tryz.ntmps176
  go_wp2
  go_ret
  exact ⟨rfl,hal⟩
 ·have hne:(b !=addr)=true:=by simp [hb]
  clear hx hb
  go_enter Tryz.func176,Tryz.ntmps176
  go_wp2
  go_ret
  exact ⟨rfl,hal⟩
def Woken (w w':World) (ab nb ob b0:Nat) (addr:Int) (n:Nat) (ov:Value) (outs:List Int):Prop:= ∃ov',O w' ab nb ob b0 addr n ov' outs/\KStep w w' ob ov
set_option maxHeartbeats 1000000 in
theorem wake1_yes (ab nb ob b0:Nat) (addr:Int) (n:Nat) (ov:Value) (outs:List Int) (hn:n<=4294967295) (ho:outs.length<=10000) (x:Slp) (hx:x.2=addr) (hlt:outs.length<n) (w:World) (h:O w ab nb ob b0 addr n ov outs):
 Calls Tryz.prog 176 #[.agg #[.int .i64 x.1,.int .i64 x.2],.pointer (some ⟨ab,0,none⟩),.pointer (some ⟨ob,0,none⟩),.pointer (some ⟨nb,0,none⟩)] w fun e w'=>e= .returned (.bool true)/\Woken w w' ab nb ob b0 addr n ov (outs++[x.1]):=by
 obtain ⟨a,b⟩:=x
 dsimp only at hx⊢
 subst hx
 have hal:=(Below.refl w.heap.size w).alloc (Nat.le_refl _) (.cells #[.int .i64 a,.int .i64 b] 213)
 have h1:=h.below hal
 have hal2:=(Below.refl (w.alloc (.cells #[.int .i64 a,.int .i64 b] 213)).heap.size (w.alloc (.cells #[.int .i64 a,.int .i64 b] 213))).alloc (Nat.le_refl _) (.cells #[.int .i64 a] 3)
 have h2:=h1.below hal2
 have ka:(w.alloc (.cells #[.int .i64 a,.int .i64 b] 213)).cell? ⟨ab,0,none⟩=some (.int .i64 b):=(h1.a.cell 0).trans rfl
 have kn:(w.alloc (.cells #[.int .i64 a,.int .i64 b] 213)).cell? ⟨nb,0,none⟩=some (.int .u32 (n:Int)):=(h1.n.cell 0).trans rfl
 have ko:(w.alloc (.cells #[.int .i64 a,.int .i64 b] 213)).cell? ⟨ob,0,none⟩=some ov:=(h1.blk.cell 0).trans rfl
 obtain ⟨oA,oc,rfl,_,_⟩:=own_sl h.row
 have hown:=h2.row
 have hblk:=h2.blk
 have hA:=h2.a
 have hN:=h2.n
 have hlb:=h.lt
 have hla:=h.la
 have hln:=h.ln
 have hbase:=h2.hs
 have hS2:KStep w ((w.alloc (.cells #[.int .i64 a,.int .i64 b] 213)).alloc (.cells #[.int .i64 a] 3)) ob (.slice oA outs.length oc):=KStep.of_below (step_below hal hal2)
 have hsl:=sl_new2 w (.cells #[.int .i64 a,.int .i64 b] 213) 3 [.int .i64 a]
 have hone: ∀k,k<1*1->([Value.int .i64 a].getD k undef).oneCell'=true:=fun k hk=>by
  obtain rfl:k=0:=by omega
  rfl
 have hlt': ¬(n:Int)<=(outs.length:Int):=by omega
 have hne:(b !=b)=false:=by simp
 have HD:=Lib.hid (And.intro h.ao h.no)
 obtain ⟨i0,hi,hy0,hy1,hy2⟩:=info_parts int_info
 clear h h1 h2 hal hal2
 go_enter Tryz.func176,Tryz.ntmps176
 go_wp2_with (at_builtin;refine wpList_append_sl _ rfl (.tmp 18) (.tmp 21) 70 rfl b0 3 i0 _ 1 8 Tryz.underlying70 hi hy0 hy1 hy2 rfl (by omega) _ outs.length _ rfl hown _ 1 _ (fun i=>[Value.int .i64 a].getD i undef) rfl hsl hone (by unfold maxLen;omega) (by omega) hbase ?_;intro v' w5 hown5 hg5 _;rw [range_getD [Value.int .i64 a] (1*1) rfl]at hown5;have hb5:=hblk.grow_own hown hg5 hlb;have f0:=hb5.frozen 0;have q0:w5.cell? ⟨ob,0,none⟩=some (.slice oA outs.length oc):=(hb5.cell 0).trans rfl;have h5:O (w5.setCell ⟨ob,0,none⟩ v') ab nb ob b0 b n v' (outs++[a]):=⟨(hA.grow_own hown hg5 hla).far (by exact HD.out.1) v',(hN.grow_own hown hg5 hln).far (by exact HD.out.2) v',hb5.set_ 0 v',by rw [List.length_append,List.map_append];exact own_grown hown5 (set_only _) hlb,hlb,hla,hln,Nat.le_trans hbase (Nat.le_trans hg5.size (set_only (w:=w5) (g:=ob) (j:=0) v').size),HD.out.1,HD.out.2⟩;have hS5:KStep w (w5.setCell ⟨ob,0,none⟩ v') ob (.slice oA outs.length oc):=⟨hg5.os.trans hS2.os,hg5.tape.trans hS2.tape,hg5.output.trans hS2.output,by have :=hg5.size;have :=hS2.size;have :=(set_only (w:=w5) (g:=ob) (j:=0) v').size;omega,fun i hi h1 h2=>(Below.heap_setCell w5 ⟨ob,0,none⟩ v' i h1).trans ((hg5.block i (Nat.lt_of_lt_of_le hi hS2.size) h2).trans (hS2.block i hi h1 h2))⟩;obtain ⟨nA,nc,rfl,_,_⟩:=own_sl hown5;have H5:=Lib.hid (And.intro h5 hS5);clear h5 hS5 hown hown5 hg5 hblk hb5 hS2 hsl hone hA hN)
 go_ret
 exact ⟨rfl,_,H5.out.1,H5.out.2⟩
section
variable {w w':World} {kb g b b0 n0 n size s:Nat} {tb te t e:TypeId} {cs cs2:Array Value} {v x:Value} {xs xs0:List Value}
theorem KStep.rowG (h:KStep w w' kb v) (hb:Blk w kb tb cs) (hr0:w.ownsRow b0 te s v n0 xs0) (hr:w.ownsRow b e size x n xs) (h1:e≠te) (h2:e≠tb):w'.ownsRow b e size x n xs:=by
 obtain ⟨q1,q2⟩:=hr
 refine ⟨q1,?_⟩
 rcases q2 with q2|⟨g,cap,cur,hv,hgb,hh,q⟩
 ·exact .inl q2
 ·have hlt:g<w.heap.size:=by
   rcases Nat.lt_or_ge g w.heap.size with hlt|hge
   ·exact hlt
   ·rw [Array.getElem?_eq_none hge]at hh;cases hh
  refine .inr ⟨g,cap,cur,hv,hgb,(h.block g hlt (fun e0=>?_) (fun e0=>?_)).trans hh,q⟩
  ·subst e0
   unfold Blk at hb
   rw [hb]at hh
   have :=Option.some.inj hh
   injection this with _ e1 _
   exact h2 e1.symm
  ·rcases hr0.2 with ⟨rfl,_⟩|⟨g',cap',cur',rfl,_,hh',_⟩
   ·cases e0
   ·obtain rfl:g=g':=Option.some.inj e0
    rw [hh']at hh
    have :=Option.some.inj hh
    injection this with _ e1 _
    exact h1 e1.symm
theorem KStep.blkG (h:KStep w w' kb v) (hr0:w.ownsRow b0 te s v n0 xs0) (hg:Blk w g t cs) (h1:g≠kb) (h2:t≠te):Blk w' g t cs:=by
 refine (h.block g hg.lt h1 (fun e0=>?_)).trans hg
 rcases hr0.2 with ⟨rfl,_⟩|⟨g',cap',cur',rfl,_,hh',_⟩
 ·cases e0
 ·obtain rfl:g=g':=Option.some.inj e0
  unfold Blk at hg
  rw [hh']at hg
  have :=Option.some.inj hg
  injection this with _ e1 _
  exact h2 e1.symm
end
def IdxW (l:List Slp) (ab nb ob b0:Nat) (addr:Int) (n:Nat) (w:World) (e:Ending) (w':World):Prop:=
 (e= .returned (.int .i64 (-1))/\wk addr n l=(l,[])/\Below w.heap.size w w')∨
   ∃k,k<l.length/\e= .returned (.int .i64 (k:Int))/\wk addr n (l.take (k+1))=(l.take k,[(l.getD k (0,0)).1])/\Woken w w' ab nb ob b0 addr n (.slice none 0 0) [(l.getD k (0,0)).1]
set_option maxHeartbeats 1000000 in
theorem index_wake (A:Option Addr) (len cap:Nat) (l:List Slp) (hl:l.length=len) (hm:len<=10000) (ab nb ob b0:Nat) (addr:Int) (n:Nat) (hn:n<=4294967295) (w:World) (hs:SlE w A len 2 (fun i=>slp (l.getD i (0,0)))) (h:O w ab nb ob b0 addr n (.slice none 0 0) []):
 Calls Tryz.prog 163 #[.slice A len cap, .func (.func 176) #[] #[.pointer (some ⟨ab, 0, none⟩), .pointer (some ⟨ob, 0, none⟩), .pointer (some ⟨nb, 0, none⟩)]] w (IdxW l ab nb ob b0 addr n w) := by
 have HS:=Lib.hid hs
 have HO:=Lib.hid h
 have HL:=Lib.hid hl
 clear hs h hl
 go_enter Tryz.func163,Tryz.ntmps163
 go_wp2
 go_loopw [8] (fun i wr=> ∃k:Nat,k<=len/\i= .int .i64 k/\wk addr n (l.take k)=(l.take k,[])/\Below w.heap.size w wr) (fun i _=>len-(intOf i).toNat)
 case atStart=>exact ⟨0,Nat.zero_le _,rfl,rfl,Below.refl _ _⟩
 case round=>
  obtain ⟨k,hk,rfl,hw,hB⟩:=hrel
  have HW:=Lib.hid hw
  clear hw
  by_cases hkl:k<len
  ·have hk1:(k:Int)<(len:Int):=by omega
   have hk0:(0:Int)<=(k:Int):=by omega
   obtain ⟨b,off,rfl,hb,hcc⟩:=HS.out (by omega)
   obtain ⟨⟨x,y⟩,hxy⟩: ∃p,l.getD k (0,0)=p:=⟨_,rfl⟩
   have k0:=hcc k hkl 0 (.int .i64 (l.getD k (0,0)).1) rfl
   have k1:=hcc k hkl 1 (.int .i64 (l.getD k (0,0)).2) rfl
   rw [hxy]at k0 k1
   dsimp only at k0 k1
   rw [Nat.add_zero]at k0
   replace k0:=keepAt hB hb k0
   replace k1:=keepAt hB hb k1
   have hsn:wk addr n (l.take (k+1))=wstep addr n (l.take k,[]) (x,y):=by
    rw [take_snoc l k (0,0) (by rw [HL.out];exact hkl),wk_snoc,HW.out,hxy]
   have htk:l.take (k+1)=l.take k++[(x,y)]:=by rw [take_snoc l k (0,0) (by rw [HL.out];exact hkl),hxy]
   have hO:=HO.out.below hB
   have HX:=Lib.hid (And.intro hxy (And.intro hsn htk))
   clear hcc hxy hsn htk
   by_cases hx:y=addr/\0<n
   ·have cF:=wake1_yes ab nb ob b0 addr n (.slice none 0 0) [] hn (by simp) (x,y) hx.1 hx.2 wr hO
    have HXX:=Lib.hid hx
    clear hx
    dsimp only at cF
    go_wp2_with fail
    refine cF.mono ?_
    rintro e w1 ⟨rfl,ov1,hO1,hS1⟩
    go_wp2
    go_ret
    refine .inr ⟨k,by rw [HL.out];exact hkl,rfl,?_,?_⟩
    ·rw [HX.out.2.1,HX.out.1]
     exact if_pos HXX.out
    ·rw [HX.out.1]
     exact ⟨ov1,hO1,(KStep.of_below hB).trans hS1 (fun i e=>by cases e)⟩
   ·have cF:=wake1_no ab nb ob b0 addr n (.slice none 0 0) [] hn (by simp) (x,y) hx wr hO
    have HXX:=Lib.hid hx
    clear hx
    dsimp only at cF
    go_wp2_with fail
    refine cF.mono ?_
    rintro e w1 ⟨rfl,hb1⟩
    have hB1:=step_below hB hb1
    go_wp2
    go_roundw
    case rel=>
     refine ⟨k+1,by omega,by go_num,?_,hB1⟩
     rw [HX.out.2.1,HX.out.2.2]
     exact if_neg HXX.out
    case measure=>simp [intOf];omega
  ·obtain rfl:len=k:=by omega
   have hk1: ¬(len:Int)<(len:Int):=by omega
   go_wp2
   go_ret
   refine .inl ⟨rfl,?_,hB⟩
   have :=HW.out
   rwa [List.take_of_length_le (by rw [HL.out];exact Nat.le_refl _)]at this
theorem slp_zero: ∀w,(zeroValue 213).run Tryz.prog w= .ok (.agg #[.int .i64 0,.int .i64 0]) w:=fun _=>by kernel_rfl
theorem mid_get (S:List Slp) (l:List Slp) (j:Nat) (h:S.length<=j) (hS:S.length<=l.length):(S++l.drop S.length).getD j (0,0)=l.getD j (0,0):=by
 rw [List.getD_eq_getElem?_getD,List.getD_eq_getElem?_getD,List.getElem?_append_right h,List.getElem?_drop]
 congr 2
 omega
theorem mid_len (S:List Slp) (l:List Slp) (hS:S.length<=l.length):(S++l.drop S.length).length=l.length:=by
 rw [List.length_append,List.length_drop];omega
theorem mid_set (S:List Slp) (l:List Slp) (x:Slp) (h:S.length<l.length):(S++l.drop S.length).set S.length x=(S++[x])++l.drop (S++[x]).length:=by
 rw [List.set_append_right _ _ (Nat.le_refl _),Nat.sub_self,List.length_append,List.append_assoc]
 congr 1
 rw [List.drop_eq_getElem_cons h]
 rfl
theorem flat_take (l m:List Slp):((l++m).flatMap slp).take (l.length*2)=l.flatMap slp:=by
 rw [List.flatMap_append,List.take_left']
 induction l with
 |nil=>rfl
 |cons x l ih=>rw [List.flatMap_cons,List.length_append,ih,List.length_cons];show 2+_=_;omega
theorem own_ne {w:World} {base g a cap n k s:Nat} {e t:TypeId} {xs:List Value} {cs:Array Value} (h:w.ownsRow base e s (.slice (some ⟨g,0,none⟩) n cap) k xs) (hb:Blk w a t cs) (ht:t≠e):a≠g:=by
 intro e0
 subst e0
 rcases h.2 with ⟨e1,_⟩|⟨g',cap',cur',e1,_,hh',_⟩
 ·cases e1
 ·injection e1 with e1 _ _
  injection e1 with e1
  injection e1 with e1 _
  subst e1
  unfold Blk at hb
  rw [hb]at hh'
  have :=Option.some.inj hh'
  injection this with _ e2 _
  exact ht e2
theorem O.grown {w w':World} {ab nb ob b0:Nat} {addr:Int} {n:Nat} {ov:Value} {outs:List Int} {base g cap m k:Nat} {xs:List Value} (h:O w ab nb ob b0 addr n ov outs) (hr:w.ownsRow base 213 2 (.slice (some ⟨g,0,none⟩) m cap) k xs) (hg:w.grownBy w' (some g)):O w' ab nb ob b0 addr n ov outs:=
 ⟨h.a.grown hg (fun e=>own_ne hr h.a (by decide) (Option.some.inj e)),h.n.grown hg (fun e=>own_ne hr h.n (by decide) (Option.some.inj e)),h.blk.grown hg (fun e=>own_ne hr h.blk (by decide) (Option.some.inj e)),
  own_apart h.row hr (by decide) hg,h.lt,h.la,h.ln,Nat.le_trans h.hs hg.size,h.ao,h.no⟩
theorem KStep.grown {w w' w'':World} {kb g cap len:Nat} (h:KStep w w' kb (.slice (some ⟨g,0,none⟩) len cap)) (hg:w'.grownBy w'' (some g)):KStep w w'' kb (.slice (some ⟨g,0,none⟩) len cap):=
 ⟨hg.os.trans h.os,hg.tape.trans h.tape,hg.output.trans h.output,Nat.le_trans h.size hg.size,fun j hj h1 h2=>(hg.block j (Nat.lt_of_lt_of_le hj h.size) h2).trans (h.block j hj h1 h2)⟩
def DelW (l:List Slp) (ab nb ob b0 base:Nat) (addr:Int) (n:Nat) (v:Value) (w:World) (e:Ending) (w':World):Prop:=
 ∃v' ov',e= .returned v'/\w'.ownsRow base 213 2 v' (wk addr n l).1.length ((wk addr n l).1.flatMap slp)/\v'.ownBlock=v.ownBlock/\O w' ab nb ob b0 addr n ov' (wk addr n l).2/\KStep w w' ob v
set_option maxRecDepth 100000 in
set_option maxHeartbeats 4000000 in
theorem delete_wake (l:List Slp) (hm:l.length<=10000) (ab nb ob b0 base:Nat) (addr:Int) (n:Nat) (hn:n<=4294967295) (v:Value) (w:World) (hb0:w.heap.size<=b0) (hr:w.ownsRow base 213 2 v l.length (l.flatMap slp)) (h:O w ab nb ob b0 addr n (.slice none 0 0) []):
 Calls Tryz.prog 175 #[v, .func (.func 176) #[] #[.pointer (some ⟨ab, 0, none⟩), .pointer (some ⟨ob, 0, none⟩), .pointer (some ⟨nb, 0, none⟩)]] w (DelW l ab nb ob b0 base addr n v w) := by
 obtain ⟨A,cap,rfl,hlc,hs⟩:=own_sle slp (fun _=>rfl) (0,0) l hr
 have cI:=index_wake A l.length cap l rfl hm ab nb ob b0 addr n hn w hs h
 have HR:=Lib.hid (And.intro hr h)
 have hcm:cap<=9223372036854775807:=by
  rcases hr.2 with ⟨e,_⟩|⟨g,c,cur,e,_,_,_,h2,_⟩
  ·injection e with _ _ e;omega
  ·injection e with _ _ e;unfold maxLen at h2;omega
 clear hs hr h
 go_enter Tryz.func175,Tryz.ntmps175
 go_wp2_with fail
 refine cI.mono ?_
 rintro e w1 (⟨rfl,hw,hb1⟩|⟨k,hkl,rfl,hw,ov1,hO1,hS1⟩)
 ·have HW:=Lib.hid hw
  clear hw
  go_wp2
  go_ret
  refine ⟨_,.slice none 0 0,rfl,?_,rfl,?_,KStep.of_below hb1⟩
  ·rw [HW.out];exact own_below HR.out.1 (Nat.le_refl _) hb1
  ·rw [HW.out];exact HR.out.2.below hb1
 ·obtain ⟨g,rfl⟩: ∃g,A=some ⟨g,0,none⟩:=by
   rcases HR.out.1.2 with ⟨_,e⟩|⟨g,c,cur,e,_⟩
   ·omega
   ·injection e with e _ _;exact ⟨g,e⟩
  have hr1:w1.ownsRow base 213 2 (.slice (some ⟨g,0,none⟩) l.length cap) l.length (l.flatMap slp):=hS1.rowG HR.out.2.blk HR.out.2.row HR.out.1 (by decide) (by decide)
  have hS2:KStep w w1 ob (.slice (some ⟨g,0,none⟩) l.length cap):=⟨hS1.os,hS1.tape,hS1.output,hS1.size,fun i hi h1 _=>hS1.block i hi h1 (by intro e;cases e)⟩
  obtain ⟨len,hlen⟩: ∃len,l.length=len:=⟨_,rfl⟩
  have HL:=Lib.hid hlen
  have HW:=Lib.hid (And.intro hw (And.intro hO1 (And.intro hr1 hS2)))
  clear hw hO1 hr1 hS2 hS1 cI
  rw [hlen]at hm hlc hkl⊢
  clear hlen
  have hkm:((k:Int)== -1)=false:=by simp
  go_wp2_with fail
  go_loopw [5,6] (fun i t wr=> ∃(j:Nat) (S:List Slp×List Int) (ov:Value),k<j/\j<=len/\t= .int .i64 j/\i= .int .i64 S.1.length/\wk addr n (l.take j)=S/\1<=S.2.length/\S.1.length+S.2.length=j/\
   wr.ownsRow base 213 2 (.slice (some ⟨g,0,none⟩) len cap) len ((S.1++l.drop S.1.length).flatMap slp)/\O wr ab nb ob b0 addr n ov S.2/\KStep w wr ob (.slice (some ⟨g,0,none⟩) len cap)) (fun _ t _=>len-(intOf t).toNat)
  case atStart=>
   refine ⟨k+1,_,ov1,by omega,by omega,by go_num,?_,HW.out.1,by simp,?_,?_,HW.out.2.1,?_⟩
   ·rw [List.length_take,Nat.min_eq_left (by rw [HL.out];omega)]
   ·rw [List.length_take,Nat.min_eq_left (by rw [HL.out];omega)];rfl
   ·have :=HW.out.2.2.1
    rw [HL.out]at this
    rw [List.length_take,Nat.min_eq_left (by rw [HL.out];omega),List.take_append_drop]
    exact this
   ·have :=HW.out.2.2.2
    rwa [HL.out]at this
  case round=>
   clear HW
   obtain ⟨j,⟨S,T⟩,ov,hkj,hjl,rfl,rfl,hw,hT,hST,hrow,hO,hS⟩:=hrel
   dsimp only at hT hST hrow hO hS hw⊢
   have hSl:S.length<j:=by omega
   have HW:=Lib.hid hw
   clear hw
   by_cases hjn:j<len
   ·obtain ⟨⟨x,y⟩,hxy⟩: ∃p,l.getD j (0,0)=p:=⟨_,rfl⟩
    have hRlen:(S++l.drop S.length).length=len:=by rw [mid_len _ _ (by rw [HL.out];omega),HL.out]
    obtain ⟨A2,c2,e2,_,hsl⟩:=own_sle slp (fun _=>rfl) (0,0) (S++l.drop S.length) (by rw [hRlen];exact hrow)
    rw [hRlen]at e2 hsl
    injection e2 with e2 _ e3
    subst e2 e3
    obtain ⟨b',off',eo,hgl,hcc⟩:=hsl (by omega)
    injection eo with eo
    injection eo with eo1 eo2
    subst eo1 eo2
    have k0:=hcc j hjn 0 (.int .i64 ((S++l.drop S.length).getD j (0,0)).1) rfl
    have k1:=hcc j hjn 1 (.int .i64 ((S++l.drop S.length).getD j (0,0)).2) rfl
    rw [mid_get S l j (by omega) (by rw [HL.out];omega),hxy]at k0 k1
    rw [Nat.zero_add]at k0 k1
    rw [Nat.add_zero]at k0
    dsimp only at k0 k1
    have hal:=(Below.refl wr.heap.size wr).alloc (Nat.le_refl _) (.cells #[.int .i64 x,.int .i64 y] 213)
    have hO1:=hO.below hal
    have hrow1:=own_below hrow (Nat.le_refl _) hal
    have hS1:KStep w (wr.alloc (.cells #[.int .i64 x,.int .i64 y] 213)) ob (.slice (some ⟨g,0,none⟩) len cap):=hS.trans (KStep.of_below hal) (fun i e=> .inl e)
    have hbx:=Blk.new wr 213 #[.int .i64 x,.int .i64 y]
    have hj0:(0:Int)<=(j:Int):=by omega
    have hj1:(j:Int)<(len:Int):=by omega
    have hsn:wk addr n (l.take (j+1))=wstep addr n (S,T) (x,y):=by rw [take_snoc l j (0,0) (by rw [HL.out];exact hjn),wk_snoc,HW.out,hxy]
    have HX:=Lib.hid hsn
    clear hsl hcc hxy hsn hO hrow hS
    by_cases hx:y=addr/\T.length<n
    ·have cF:=wake1_yes ab nb ob b0 addr n ov T hn (by omega) (x,y) hx.1 hx.2 _ hO1
     have HXX:=Lib.hid hx
     have HZ:=Lib.hid (And.intro hrow1 (And.intro hO1 hS1))
     clear hx hrow1 hO1 hS1 hal hbx
     dsimp only at cF
     go_wp2_with fail
     refine cF.mono ?_
     rintro e w2 ⟨rfl,ov2,hO2,hS2⟩
     have HY:=Lib.hid (And.intro hO2 hS2)
     clear hO2 hS2
     go_wp2
     go_roundw
     case rel=>
      refine ⟨j+1,(S,T++[x]),ov2,by omega,by omega,by go_num,rfl,?_,by simp,by simp;omega,?_,HY.out.1,?_⟩
      ·rw [HX.out];exact if_pos HXX.out
      ·exact HY.out.2.rowG HZ.out.2.1.blk HZ.out.2.1.row HZ.out.1 (by decide) (by decide)
      ·exact HZ.out.2.2.trans HY.out.2 (fun i e=> .inr (Nat.le_trans hb0 (own_ge HZ.out.2.1.row i e)))
     case measure=>simp [intOf];omega
    ·have cF:=wake1_no ab nb ob b0 addr n ov T hn (by omega) (x,y) hx _ hO1
     have HXX:=Lib.hid hx
     have HZ:=Lib.hid (And.intro hrow1 (And.intro hO1 (And.intro hS1 (And.intro hbx hal))))
     clear hx hrow1 hO1 hS1 hal hbx
     dsimp only at cF
     go_wp2_with fail
     refine cF.mono ?_
     rintro e w2 ⟨rfl,hb2⟩
     obtain ⟨hrow1,hO1,hS1,hbx,hal⟩:=HZ.out
     have hrow2:=own_below hrow1 (Nat.le_refl _) hb2
     have hO2:=hO1.below hb2
     have hS2:KStep w w2 ob (.slice (some ⟨g,0,none⟩) len cap):=hS1.trans (KStep.of_below hb2) (fun i e=> .inl e)
     have hbx2:=hbx.below hb2 hbx.lt
     have x0:=hbx2.cell 0
     have x1:=hbx2.cell 1
     simp only [List.getElem?_toArray,List.getElem?_cons_zero,List.getElem?_cons_succ]at x0 x1
     have f0:=hrow2.frozenAt (S.length*2)
     have f1:=hrow2.frozenAt (S.length*2+1)
     obtain ⟨A3,c3,e3,_,hsl⟩:=own_sle slp (fun _=>rfl) (0,0) (S++l.drop S.length) (by rw [hRlen];exact hrow2)
     rw [hRlen]at e3 hsl
     injection e3 with e3 _ e4
     subst e3 e4
     obtain ⟨b',off',eo,_,hcc⟩:=hsl (by omega)
     injection eo with eo
     injection eo with eo1 eo2
     subst eo1 eo2
     have q0:=hcc S.length (by omega) 0 (.int .i64 ((S++l.drop S.length).getD S.length (0,0)).1) rfl
     have q1:=hcc S.length (by omega) 1 (.int .i64 ((S++l.drop S.length).getD S.length (0,0)).2) rfl
     rw [Nat.zero_add]at q0 q1
     rw [Nat.add_zero]at q0
     have hne:S.length*2≠S.length*2+1:=by omega
     have hi0:(0:Int)<=(S.length:Int):=by omega
     have hi1:(S.length:Int)<(len:Int):=by omega
     have hg1:=(set_only (w:=w2) (g:=g) (j:=S.length*2) (.int .i64 x)).trans (set_only (w:=w2.setCell ⟨g,S.length*2,none⟩ (.int .i64 x)) (g:=g) (j:=S.length*2+1) (.int .i64 y))
     have hrow3:=((hrow2.stored (S.length*2) (.int .i64 x)).1.stored (S.length*2+1) (.int .i64 y)).1
     have HY:=Lib.hid (And.intro hO2 (And.intro hS2 (And.intro hrow2 (And.intro hg1 hrow3))))
     clear hsl hcc hrow1 hO1 hS1 hbx hal hrow2 hO2 hS2 hbx2 hg1 hrow3 hb2 HZ
     go_wp2
     go_roundw
     case rel=>
      obtain ⟨hO2,hS2,hrow2,hg1,hrow3⟩:=HY.out
      refine ⟨j+1,(S++[(x,y)],T),ov,by omega,by omega,by go_num,by rw [List.length_append];go_num,?_,hT,by simp;omega,?_,hO2.grown hrow2 hg1,hS2.grown hg1⟩
      ·rw [HX.out];exact if_neg HXX.out
      ·rw [flat_set _ _ (x,y) (by rw [hRlen];omega),mid_set _ _ _ (by rw [HL.out];omega)]at hrow3
       exact hrow3
     case measure=>simp [intOf];omega
   ·obtain rfl:len=j:=by omega
    have hj1: ¬(len:Int)<(len:Int):=by omega
    obtain ⟨w3,hclr,hrow3,hg3⟩:=own_clear hrow Tryz.underlying105 slp_zero rfl rfl rfl S.length (cap-S.length) (by omega)
    rw [flat_take]at hrow3
    have hO3:=hO.grown hrow hg3
    have hS3:=hS.grown hg3
    have hi1:(S.length:Int)<=(len:Int):=by omega
    have hi2:(S.length:Int)<(cap:Int):=by omega
    have HY:=Lib.hid (And.intro hrow3 (And.intro hO3 hS3))
    clear hrow hO hS hrow3 hg3 hO3 hS3
    go_wp2
    go_ret
    have hw:wk addr n l=(S,T):=by
     have :=HW.out
     rwa [List.take_of_length_le (by rw [HL.out];exact Nat.le_refl _)]at this
    refine ⟨_,ov,rfl,?_,rfl,?_,?_⟩
    ·rw [hw];exact HY.out.1
    ·rw [hw];exact HY.out.2.1
    ·rw [HL.out];exact HY.out.2.2
theorem own_put {w:World} {base g len cap s:Nat} {e:TypeId} {xs news:List Value} {p:Nat} (h:w.ownsRow base e s (.slice (some ⟨g,0,none⟩) len cap) len xs) (hp:p+news.length<=len*s):
 (w.setCells g p news).ownsRow base e s (.slice (some ⟨g,0,none⟩) len cap) len (xs.take p++news++xs.drop (p+news.length))/\w.grownBy (w.setCells g p news) (some g):=by
 obtain ⟨h1,h2⟩:=h
 rcases h2 with ⟨h',_⟩|⟨g',cap',cur,h',hb,hg,hnc,hcm,hcs,htake⟩
 ·simp at h'
 ·simp only [Value.slice.injEq,Option.some.injEq,Addr.mk.injEq,and_true,true_and]at h'
  obtain ⟨rfl,rfl⟩:=h'
  have hls:len*s<=cap*s:=Nat.mul_le_mul_right _ hnc
  obtain ⟨cs',q1,q2,q3,q4,q5⟩:=setCells_row g e news p w cur hg (by rw [hcs];omega)
  refine ⟨⟨by simp [h1];omega,.inr ⟨g,cap,cs',rfl,hb,q1,hnc,hcm,by omega,?_⟩⟩,q5⟩
  apply List.ext_getElem?
  intro k
  have hx: ∀k,k<len*s->xs[k]?=cur.toList[k]?:=fun k hk=>by rw [<-htake,List.getElem?_take_of_lt hk]
  by_cases hk:k<len*s
  ·rw [List.getElem?_take_of_lt hk,Array.getElem?_toList]
   by_cases k1:k<p
   ·rw [q4 k (.inl k1),List.append_assoc,List.getElem?_append_left (by simp;omega),List.getElem?_take_of_lt k1,hx k hk,Array.getElem?_toList]
   ·by_cases k2:k<p+news.length
    ·have :=q3 (k-p) (by omega)
     rw [show p+(k-p)=k from by omega]at this
     rw [this,List.getElem?_append_left (by simp;omega),List.getElem?_append_right (by simp;omega)]
     congr 1
     simp
     omega
    ·rw [q4 k (.inr (by omega)),List.getElem?_append_right (by simp;omega),List.getElem?_drop]
     have e1:p+news.length+(k-(xs.take p++news).length)=k:=by simp;omega
     rw [e1,hx k hk,Array.getElem?_toList]
  ·rw [List.getElem?_eq_none (by simp;omega),List.getElem?_eq_none (by simp;omega)]
theorem slp_len (l:List Slp):(l.flatMap slp).length=l.length*2:=by
 induction l with
 |nil=>rfl
 |cons x l ih=>rw [List.flatMap_cons,List.length_append,ih,List.length_cons];show 2+_=_;omega
theorem flat_take' (l:List Slp) (i:Nat) (hi:i<=l.length):(l.flatMap slp).take (i*2)=(l.take i).flatMap slp:=by
 have :=flat_take (l.take i) (l.drop i)
 rw [List.take_append_drop,List.length_take,Nat.min_eq_left hi]at this
 exact this
theorem flat_drop (l:List Slp) (i:Nat) (hi:i<=l.length):(l.flatMap slp).drop (i*2)=(l.drop i).flatMap slp:=by
 have h:l.flatMap slp=(l.take i).flatMap slp++(l.drop i).flatMap slp:=by rw [<-List.flatMap_append,List.take_append_drop]
 rw [h,List.drop_left']
 rw [slp_len,List.length_take,Nat.min_eq_left hi]
def DelO (l:List Slp) (i base:Nat) (v:Value) (w:World) (e:Ending) (w':World):Prop:=
 ∃v',e= .returned v'/\w'.ownsRow base 213 2 v' (l.eraseIdx i).length ((l.eraseIdx i).flatMap slp)/\v'.ownBlock=v.ownBlock/\w.grownBy w' v.ownBlock
set_option maxHeartbeats 2000000 in
theorem delete_one (l:List Slp) (hm:l.length<=10000) (i base:Nat) (hi:i<l.length) (v:Value) (w:World) (hr:w.ownsRow base 213 2 v l.length (l.flatMap slp)):
 Calls Tryz.prog 130 #[v,.int .i64 (i:Int),.int .i64 ((i:Int)+1)] w (DelO l i base v w):=by
 obtain ⟨A,cap,rfl,hlc,hs⟩:=own_sle slp (fun _=>rfl) (0,0) l hr
 have hcm:cap<=9223372036854775807:=by
  rcases hr.2 with ⟨e,_⟩|⟨g,c,cur,e,_,_,_,h2,_⟩
  ·injection e with _ _ e;omega
  ·injection e with _ _ e;unfold maxLen at h2;omega
 obtain ⟨g,off,rfl,hgl,hcc⟩:=hs (by omega)
 obtain rfl:off=0:=by
  rcases hr.2 with ⟨e,_⟩|⟨g',c,cur,e,_⟩
  ·cases e
  ·injection e with e _ _;injection e with e;injection e with _ e _
 obtain ⟨i0,hi0,hy0,hy1,hy2⟩:=info_parts slp_info
 obtain ⟨len,hlen⟩: ∃len,l.length=len:=⟨_,rfl⟩
 have hr':=hr
 rw [hlen]at hr' hm hi hlc hcc⊢
 have hnl:((l.drop (i+1)).flatMap slp).length=(len-(i+1))*2:=by rw [slp_len,List.length_drop,hlen]
 have hng: ∀j u,((l.drop (i+1)).flatMap slp)[j]?=some u->w.drew.cell? ⟨g,(i+1)*2+j,none⟩=some u:=fun j u hu=>by
  have hj:j<(len-(i+1))*2:=by rw [<-hnl];exact (List.getElem?_eq_some_iff.1 hu).1
  rw [<-flat_drop l (i+1) (by omega),List.getElem?_drop]at hu
  rw [World.cell?_drew,World.ownsRow.cellAt hr _ (by rw [hlen];omega)]
  exact hu
 obtain ⟨A,hA,hnews⟩: ∃A:Addr,(if cap=i+1 then some (⟨g,0,none⟩:Addr)else some ⟨g,(i+1)*2,none⟩)=some A/\Hid (∀j u,((l.drop (i+1)).flatMap slp)[j]?=some u->w.drew.cell? (A.add j)=some u):=by
  by_cases h:cap=i+1
  ·refine ⟨⟨g,0,none⟩,by simp [h],fun j u hu=>?_⟩
   have :=(List.getElem?_eq_some_iff.1 hu).1
   rw [hnl]at this
   omega
  ·exact ⟨⟨g,(i+1)*2,none⟩,by simp [h],fun j u hu=>by rw [Addr.add_lit];exact hng j u hu⟩
 have s1:Hid (((l.drop (i+1)).flatMap slp).length=(len-(i+1))*2):=hnl
 have s2:Hid (∀u∈(l.drop (i+1)).flatMap slp,u.oneCell'=true):=by
  intro u hu
  obtain ⟨x,_,hx⟩:=List.mem_flatMap.1 hu
  rcases (by simpa [slp]using hx:u= .int .i64 x.1∨u= .int .i64 x.2)with rfl|rfl<;>rfl
 have s3:Hid (∀j,j<((l.drop (i+1)).flatMap slp).length->(w.drew.cell? ⟨g,0+i*2+j,none⟩).isSome=true/\w.drew.frozen? ⟨g,0+i*2+j,none⟩=false):=by
  intro j hj
  rw [hnl]at hj
  refine ⟨?_,hr.frozenAt _⟩
  rw [World.cell?_drew,World.ownsRow.cellAt hr _ (by rw [hlen];omega),List.getElem?_eq_getElem (by rw [slp_len,hlen];omega)]
  rfl
 have hmn:i+(len-(i+1))=len-1:=by omega
 have hput:=own_put (w:=w.drew) (p:=i*2) (news:=(l.drop (i+1)).flatMap slp) (s:=2) hr'.drew (by rw [s1.out];omega)
 have hxs:(l.flatMap slp).take (i*2)++(l.drop (i+1)).flatMap slp++(l.flatMap slp).drop (i*2+((l.drop (i+1)).flatMap slp).length)=(l.eraseIdx i++l.drop (len-1)).flatMap slp:=by
  rw [s1.out,show i*2+(len-(i+1))*2=(len-1)*2 from by omega,flat_take' l i (by omega),flat_drop l (len-1) (by omega),List.eraseIdx_eq_take_drop_succ,List.flatMap_append,List.flatMap_append]
 rw [hxs]at hput
 have hel:(l.eraseIdx i).length=len-1:=by rw [List.length_eraseIdx,if_pos (by omega)];omega
 obtain ⟨hrow,hg1⟩:=hput
 obtain ⟨w3,hclr,hrow3,hg3⟩:=own_clear hrow Tryz.underlying105 slp_zero rfl rfl rfl (len-1) (cap-(len-1)) (by omega)
 rw [<-hel,flat_take,hel]at hrow3
 have HF:=Lib.hid (And.intro hrow3 (hg1.trans hg3))
 have hi1:(i:Int)+1<=(len:Int):=by omega
 have hi2:(i:Int)<(cap:Int):=by omega
 have hi3:(i:Int)<=(i:Int)+1:=by omega
 have hne:((i:Int)==(i:Int)+1)=false:=by simp;omega
 have hic:i<=cap:=by omega
 have hwr:IntKind.i64.wrap ((i:Int)+1)=(i:Int)+1:=IntWalk.i64_in _ (by omega)
 have hp0:(0:Int)<=(i:Int)+1:=by omega
 have hp2:((i:Int)+1).toNat=i+1:=by omega
 have HE:=Lib.hid hel
 clear hr hr' hs hcc hlen hnl hng hrow hg1 hrow3 hg3 hxs hel
 go_enter Tryz.func130,Tryz.ntmps130
 go_upto_region 5 with fail
 refine startG (fun _=>True) 7 (by kernel_rfl) ?_
 try simp only [Act.put,zD,zE,zF]
 refine takeB (i:=0) (v:= .slice (some ⟨g,0,none⟩) len cap) rfl (Or.inl ⟨by rfl,fun W hW=>by go_simp⟩) trivial ?_
 try simp only [Act.put,zD,zE,zF]
 refine takeB (i:=1) (v:= .int .i64 (i:Int)) rfl (Or.inl ⟨by rfl,fun W hW=>by go_simp⟩) trivial ?_
 try simp only [Act.put,zD,zE,zF]
 refine takeB (i:=2) (v:= .slice (some ⟨g,0,none⟩) i cap) rfl (Or.inl ⟨by rfl,fun W hW=>by go_simp⟩) trivial ?_
 try simp only [Act.put,zD,zE,zF]
 refine takeB (i:=3) (v:= .slice (some ⟨g,0,none⟩) len cap) rfl (Or.inl ⟨by rfl,fun W hW=>by go_simp⟩) trivial ?_
 try simp only [Act.put,zD,zE,zF]
 refine takeB (i:=4) (v:= .int .i64 ((i:Int)+1)) rfl (Or.inl ⟨by rfl,fun W hW=>by go_simp⟩) trivial ?_
 try simp only [Act.put,zD,zE,zF]
 refine takeB (i:=5) (v:= .slice (some A) (len-(i+1)) (cap-(i+1))) rfl (Or.inl ⟨by rfl,fun W hW=>by go_simp⟩) trivial ?_
 try simp only [Act.put,zD,zE,zF]
 refine onlyG (i:=6) (by kernel_rfl) rfl (fun K hK=>?_)
 refine step_append_room rfl (.tmp 22) (.tmp 25) 105 rfl 213 i0 2 Tryz.underlying105 hi0 hy1 g 0 i cap (by simp [Act.eval,Act.put]) A (len-(i+1)) (cap-(i+1)) ((l.drop (i+1)).flatMap slp) (by simp [Act.eval,Act.put]) s1.out hnews.out s2.out (by omega) s3.out ?_
 rw [hmn,Nat.zero_add]
 refine hK.out _ _ trivial (fun _=>?_)
 clear hK K
 try simp only [Act.put,zD,zE,zF]
 refine lastG (by kernel_rfl) rfl (by kernel_rfl) (fun K hK=>?_)
 go_simp
 refine hK.out _ _ ?_
 clear hK K
 try simp only [Act.put,zD,zE,zF]
 have hm1:((len-1:Nat):Int)<=(len:Int):=by omega
 have hm2:((len-1:Nat):Int)<(cap:Int):=by omega
 have hm3:(len:Int)<=(cap:Int):=by omega
 go_wp2_with fail
 go_ret
 exact ⟨_,rfl,by rw [HE.out];exact HF.out.1,rfl,⟨HF.out.2.os,HF.out.2.tape,HF.out.2.output,HF.out.2.size,HF.out.2.block⟩⟩
end Go.Proofs.YtmhfpjnkjlhbpaaGreatDoor
