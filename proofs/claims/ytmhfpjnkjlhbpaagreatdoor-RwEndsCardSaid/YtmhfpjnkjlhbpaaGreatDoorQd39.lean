/- Machines of threads (plain): what serves the laws. rw (plain): what law22's programs start from. append([]byte{}, x...): a slice of its own. The heap of dues in memory; its methods. container/heap over the dues: up, down, Fix. -/
import Derived.Test.YtmhfpjnkjlhbpaaGreatDoorQd23
import Derived.Test.YtmhfpjnkjlhbpaaGreatDoorQd28
import Derived.Test.YtmhfpjnkjlhbpaaGreatDoorQd38
import Derived.Test.YtmhfpjnkjlhbpaaGreatDoorQd25
import Derived.Test.YtmhfpjnkjlhbpaaGreatDoorQd36
import Derived.Test.YtmhfpjnkjlhbpaaGreatDoorQd02
import Derived.RegionTactic
import Derived.BigRegion
import Derived.Deep.QuietTactic
import Derived.BigQuiet
import Derived.IntWalk
namespace Go.Proofs.YtmhfpjnkjlhbpaaGreatDoor
open Go.ChangeShapes Go.WideShapes Go.ChangeAt Go.RowKit Go.Deep
set_option linter.unusedVariables false
set_option maxRecDepth 100000
set_option linter.unusedSimpArgs false
theorem doneM_at {s:Mst} (h:doneM s=true) {t:Nat} (ht:t<s.ths.length):doneT s t=true:=List.all_eq_true.1 h t (List.mem_range.2 ht)
theorem doneT_two {s:Mst} {t:Nat} (h:doneT s t=true) (hs:(thM s t).st=0∨(thM s t).st=1∨(thM s t).st=2):(thM s t).st=2/\bufM s t=[]:=by
 unfold doneT at h
 simp only [Bool.and_eq_true,bne_iff_ne,ne_eq,beq_iff_eq]at h
 obtain ⟨⟨h1,h2⟩,h3⟩:=h
 exact ⟨(hs.resolve_left h1).resolve_left h2,List.eq_nil_of_length_eq_zero h3⟩
theorem doneM_of {s:Mst} (h: ∀t,t<s.ths.length->(thM s t).st=2/\bufM s t=[]):doneM s=true:=doneM_yes fun t ht=>by
 obtain ⟨h1,h2⟩:=h t ht
 have h1':(s.ths.getD t tha).st=2:=h1
 have h2':s.bufs.getD t []=[]:=h2
 unfold doneT
 rw [h1',h2']
 rfl
theorem range_getD_pk (L:List (Int×Int)) {n:Nat} (h:L.length=n):((List.range n).map fun i=>L.getD i (0,0))=L:=by
 subst h
 refine List.ext_getElem (by simp) fun i h1 h2=>?_
 simp [List.getD_eq_getElem?_getD,List.getElem?_eq_getElem h2]
theorem mem_val {l:List Int} {i:Nat} (h:i<l.length):(l.map fun z=>Value.int .u32 z).getD i undef= .int .u32 (l.getD i 0):=by
 rw [List.getD_eq_getElem?_getD,List.getD_eq_getElem?_getD,List.getElem?_map,List.getElem?_eq_getElem h];rfl
theorem mem_cells {W:World} {base:Nat} {v:Value} {l:List Int} {n:Nat} (h:W.ownsRow base 42 1 v l.length (l.map fun z=> .int .u32 z)) (hn:l.length=n) (hp:0<n): ∃b o c,v= .slice (some ⟨b,o,none⟩) n c/\b<W.heap.size/\ ∀i,i<n->W.cell? ⟨b,o+i,none⟩=some (.int .u32 (l.getD i 0)):=by
 obtain ⟨A,c,rfl,_,hs⟩:=own_sl h
 obtain ⟨b,o,rfl,hl,hx⟩:=hs (by omega)
 exact ⟨b,o,c,by rw [hn],hl,fun i hi=>(hx i (by omega)).trans (congrArg some (mem_val (by omega)))⟩
theorem rwm_begin {p:Pg} {B:MB} (hp:p.Ok) (hN:NewM p B) (hroom:B.room=p.room) (hr:1<=p.room/\p.room<=16) (hm:p.m=17+p.n) (hZ: ∀i,p.Z i=0) (hn1:1<=p.n) (hn:p.n<=4) (kd:Nat->Nat->Bool) (rd:Nat->Nat) (hrd: ∀t,t<p.n->rd t<=4) (hcd: ∀t,t<p.n->(p.cd t).len=(rwT t (kd t) (rd t)).length/\(p.cd t).F=fun i=>(rwT t (kd t) (rd t)).getD i default):
 B.codes.length=p.n/\(∀t,t<p.n->Coded B t (rd t) (rwB (kd t)) (fun n=>rwRd t (kd t n) (rwB (kd t) n)))/\ ∃m h,m<=20000/\RwR p.n kd rd (fun t=>rwB (kd t)) B (t0 p) m h:=by
 have hB:=newM_ok hN (by omega) (by omega)
 have h0:=t0_ok hp hN
 have hw:Wf B (t0 p):=⟨h0,by show ((List.range p.m).map p.Z).length=B.m;rw [List.length_map,List.length_range,hN.m],by rw [hroom];exact hr.1⟩
 have hnc:B.codes.length=p.n:=hN.n
 have hC: ∀t,t<B.codes.length->Coded B t (rd t) (rwB (kd t)) (fun n=>rwRd t (kd t n) (rwB (kd t) n)):=fun t ht=>by
  rw [hnc]at ht
  have h1:=hN.cd t ht
  have h2:=hcd t ht
  refine coded_of rfl (fun n _=>by rw [rwRd_len];rfl) (by rw [h1.1,h2.1];rfl) (by rw [h1.2.1,h2.2];rfl) (fun n hn op hop=>?_) (by have :=rwB_le (kd t) (rd t);have :=hrd t ht;omega) (by rw [hN.m,hm];omega)
  rw [hN.m,hm]
  exact rwRd_ok (kd t) (by omega) (by omega) hn op hop
 have hth: ∀t,(vw (t0 p)).th t=tha:=fun t=>by
  show (List.replicate p.n tha).getD t tha=tha
  rw [List.getD_eq_getElem?_getD,List.getElem?_replicate];split<;>rfl
 have hbf: ∀t,(vw (t0 p)).bf t=[]:=fun t=>by
  show (List.replicate p.n ([]:List Ent)).getD t []=[]
  rw [List.getD_eq_getElem?_getD,List.getElem?_replicate];split<;>rfl
 have hmem: ∀a,(vw (t0 p)).mem a=0:=fun a=>by
  show ((List.range p.m).map p.Z).getD a 0=0
  rw [List.getD_eq_getElem?_getD,List.getElem?_map]
  cases (List.range p.m)[a]? with
  |none=>rfl
  |some i=>exact hZ i
 have H:=rwm_start (nt:=p.n) (kd:=kd) (rd:=rd) (by omega) hrd hth hbf hmem rfl
 exact ⟨hnc,fun t ht=>hC t (by rw [hnc];exact ht),rw_begin hw hrd H (fun _=>rfl) hth hbf rfl hn⟩
theorem RwR.nt {nt:Nat} {kd:Nat->Nat->Bool} {rd:Nat->Nat} {bs:Nat->Nat->Nat} {B:MB} {s:Mst} {m:Nat} {h:Int×Int} (hR:RwR nt kd rd bs B s m h):s.mem.length=B.m:=hR.1.m
theorem RwR.fin {nt:Nat} {kd:Nat->Nat->Bool} {rd:Nat->Nat} {bs:Nat->Nat->Nat} {B:MB} {s:Mst} {m:Nat} {h:Int×Int} (hR:RwR nt kd rd bs B s m h) (hn:s.ths.length=nt) (hd:doneM s=true):
 s.mem.getD 0 0=((sumT nt fun t=>wrs (kd t) (rd t):Nat):Int):=by
 obtain ⟨hw,g,pn,po,H,V,_,_⟩:=hR
 have hall: ∀t,t<nt->(thM s t).st=2/\bufM s t=[]:=fun t ht=>by
  have h1:doneT s t=true:=doneM_at hd (by rw [hn];exact ht)
  exact doneT_two h1 (by obtain ⟨n,o,_,q|q⟩:=H.loc t ht;exact q.2.1.elim .inl (fun z=> .inr (.inl z));exact q.2.2.1.elim .inl (fun z=> .inr (.inr z)))
 have hF: ∀t,t<nt->RFree (g.at_ (vw s) t) (wrs (kd t) (rd t)) ((vw s).bf t):=fun t ht=>(H.loc t ht).done (hall t ht).1
 have hwn:g.w=none:=by
  cases h:g.w with
  |none=>rfl
  |some u=>
   have hu:=(H.sh1 u h).2.1
   exact absurd h (of_decide_eq_false (hF u hu).wt)
 have e2:g.D=sumT nt fun t=>wrs (kd t) (rd t):=H.D.trans (sumT_congr (fun t ht=>(hF t ht).c))
 have hs:=(H.sh0 hwn).2
 rw [e2]at hs
 exact hs
theorem newb_info:(Tryz.prog.info? 5).map (fun i=>(i.zero,i.size,i.bytes))=some (some (.int .u8 0),1,1):=by kernel_rfl
theorem wpList_bytes_new {w:World} {ops:Array Oper} {rest:List Oper} {o:Oper} {a:Act} {Q:Exit->Act->World->Prop} (hgd:o.guard=none) (s x:Operand)
 (ho:o.op= .call {callee:= .builtin .append,args:= #[s,x],argTypes:= #[24,24]}) (g:Nat) (hg:w.heap.size=g) (hs:a.eval s= .slice (some ⟨g,0,none⟩) 0 0)
 (A:Option Addr) (m c:Nat) (C:Nat->Value) (hx:a.eval x= .slice A m c) (hr:Sl w A m C) (h1: ∀k,k<m->(C k).oneCell'=true) (hb:m<=10000000)
 (h: ∀A' c' w',(m=0∨ ∃g' cs,A'=some ⟨g',0,none⟩/\Blk w' g' 5 cs/\g<=g'/\ ∀j,j<m->cs[j]?=some (C j))->m<=c'->c'<=maxLen->Below g w w'->wpList Tryz.prog ops Q rest (a.put o.dst (.slice A' m c')) w'):
 wpList Tryz.prog ops Q (o::rest) a (w.alloc (.cells #[] 5)):=by
 subst hg
 obtain ⟨i0,hi,hz0,hz1,hz2⟩:=info_parts newb_info
 have hal:=(Below.refl w.heap.size w).alloc (Nat.le_refl _) (.cells #[] 5)
 have hnew:=Blk.new w 5 #[]
 refine wpList_append_sl _ hgd s x 24 ho w.heap.size 5 i0 _ 1 1 Tryz.underlying24 hi hz0 hz1 hz2 rfl (by omega) (.slice (some ⟨w.heap.size,0,none⟩) 0 0) 0 [] hs
  ⟨rfl,.inr ⟨w.heap.size,0,#[],rfl,Nat.le_refl _,hnew,Nat.le_refl _,by unfold maxLen;omega,rfl,rfl⟩⟩ A m c C hx (by rw [Nat.mul_one];exact hr.step hal) (fun k hk=>h1 k (by omega)) (by unfold maxLen;omega) (by omega) hal.size ?_
 intro v' w' h2 h3 _
 have hB:Below w.heap.size w w':=hal.trans (below_of_grown hal.size h3 (fun k e=>by have :=Option.some.inj (show some w.heap.size=some k from e);omega))
 rw [Nat.zero_add]at h2
 obtain ⟨h4,h5⟩:=h2
 rcases h5 with ⟨rfl,hm⟩|⟨g',cap,cur,rfl,hg',hh,hn,hc,hs',ht⟩
 ·subst hm
  exact h none 0 w' (.inl rfl) (Nat.le_refl _) (by unfold maxLen;omega) hB
 ·refine h (some ⟨g',0,none⟩) cap w' (.inr ⟨g',cur,rfl,hh,hg',fun j hj=>?_⟩) hn hc hB
  have e:=congrArg (fun l=>l[j]?) ht
  simp only [List.getElem?_take,List.nil_append,List.getElem?_map]at e
  rw [if_pos (by omega),List.getElem?_range (by omega)]at e
  simpa using e
theorem dlen_any (A:Option Addr) (n cap:Nat) (w:World):Calls Tryz.prog 193 #[.slice A n cap] w fun e w'=>e= .returned (.int .i64 (n:Int))/\w=w':=by
 go_enter Tryz.func193,Tryz.ntmps193
 go_wp2
 go_ret
 exact ⟨rfl,rfl⟩
theorem dless_any (b off n cap i j:Nat) (x y:Int) (hi:i<n) (hj:j<n) (w:World) (h1:w.cell? ⟨b,off+i*3+2,none⟩=some (.int .i64 x)) (h2:w.cell? ⟨b,off+j*3+2,none⟩=some (.int .i64 y)):
 Calls Tryz.prog 194 #[.slice (some ⟨b,off,none⟩) n cap,.int .i64 (i:Int),.int .i64 (j:Int)] w fun e w'=>e= .returned (.bool (decide (x<y)))/\ ∃q,w'=w.drewN q:=by
 have hi':(i:Int)<(n:Int):=by omega
 have hj':(j:Int)<(n:Int):=by omega
 have hi0:(0:Int)<=(i:Int):=by omega
 have hj0:(0:Int)<=(j:Int):=by omega
 go_enter Tryz.func194,Tryz.ntmps194
 go_wp2
 go_quiet (fail)
 go_wp2
 go_ret
 exact ⟨rfl,_,rfl⟩
theorem m_push (p:Addr) (w:World):(method 361 164 (.pointer (some p)) "Push").run Tryz.prog w= .ok (195,.pointer (some p)) w:=by kernel_rfl
theorem m_len0 (p:Addr) (w:World):(method 361 164 (.pointer (some p)) "Len").run Tryz.prog w=((loadVar 166 p)>>=fun v=>pure (193,v):Sem (FuncId×Value)).run Tryz.prog w:=by kernel_rfl
theorem m_less0 (p:Addr) (w:World):(method 361 164 (.pointer (some p)) "Less").run Tryz.prog w=((loadVar 166 p)>>=fun v=>pure (194,v):Sem (FuncId×Value)).run Tryz.prog w:=by kernel_rfl
theorem m_swap0 (p:Addr) (w:World):(method 361 164 (.pointer (some p)) "Swap").run Tryz.prog w=((loadVar 166 p)>>=fun v=>pure (196,v):Sem (FuncId×Value)).run Tryz.prog w:=by kernel_rfl
theorem load_dues {w:World} {Bd:Nat} {v:Value} (h:w.cell? ⟨Bd,0,none⟩=some v):(loadVar 166 ⟨Bd,0,none⟩).run Tryz.prog w= .ok v w:=by
 simp [loadVar,Tryz.underlying166,h,go_sem]
def ICells (cur:Array Value) (n:Nat) (F:Nat->Itm):Prop:= ∀i,i<n->cur[i*3]?=some (.int .i64 (F i).kind)/\cur[i*3+1]?=some (.int .i64 (F i).who)/\cur[i*3+2]?=some (.int .i64 (F i).due)
theorem ICells.congr {cur:Array Value} {n:Nat} {F G:Nat->Itm} (h:ICells cur n F) (e: ∀i,i<n->F i=G i):ICells cur n G:=fun i hi=>by rw [<-e i hi];exact h i hi
theorem ICells.size {cur:Array Value} {n:Nat} {F:Nat->Itm} (h:ICells cur n F):n*3<=cur.size:=by
 rcases Nat.eq_zero_or_pos n with rfl|hp
 ·omega
 ·have :=(Array.getElem?_eq_some_iff.1 (h (n-1) (by omega)).2.2).1
  omega
def put3 (c:Array Value) (i:Nat) (x:Itm):Array Value:=((c.setIfInBounds (i*3) (.int .i64 x.kind)).setIfInBounds (i*3+1) (.int .i64 x.who)).setIfInBounds (i*3+2) (.int .i64 x.due)
theorem put3_size (c:Array Value) (i:Nat) (x:Itm):(put3 c i x).size=c.size:=by simp [put3]
theorem put3_cells {c:Array Value} {n:Nat} {F:Nat->Itm} (h:ICells c n F) (i:Nat) (hi:i<n) (x:Itm):ICells (put3 c i x) n (fun k=>if k=i then x else F k):=fun k hk=>by
 have hs:=h.size
 unfold put3
 by_cases e:k=i
 ·subst e
  dsimp only
  rw [if_pos rfl]
  refine ⟨?_,?_,?_⟩
  ·rw [Array.getElem?_setIfInBounds_ne (by omega),Array.getElem?_setIfInBounds_ne (by omega),Array.getElem?_setIfInBounds_self_of_lt (by omega)]
  ·rw [Array.getElem?_setIfInBounds_ne (by omega),Array.getElem?_setIfInBounds_self_of_lt (by simp;omega)]
  ·rw [Array.getElem?_setIfInBounds_self_of_lt (by simp;omega)]
 ·obtain ⟨h1,h2,h3⟩:=h k hk
  dsimp only
  rw [if_neg e]
  refine ⟨?_,?_,?_⟩
  ·rw [Array.getElem?_setIfInBounds_ne (by omega),Array.getElem?_setIfInBounds_ne (by omega),Array.getElem?_setIfInBounds_ne (by omega),h1]
  ·rw [Array.getElem?_setIfInBounds_ne (by omega),Array.getElem?_setIfInBounds_ne (by omega),Array.getElem?_setIfInBounds_ne (by omega),h2]
  ·rw [Array.getElem?_setIfInBounds_ne (by omega),Array.getElem?_setIfInBounds_ne (by omega),Array.getElem?_setIfInBounds_ne (by omega),h3]
theorem grown_set {a b:World} {g:Nat} (h:a.grownBy b (some g)) (j:Nat) (u:Value):a.grownBy (b.setCell ⟨g,j,none⟩ u) (some g):=
 ⟨h.os,h.tape,h.output,by simpa [World.setCell]using h.size,fun i hi hne=>(Below.heap_setCell b ⟨g,j,none⟩ u i (fun e=>hne (by rw [e]))).trans (h.block i hi hne)⟩
theorem grown_drew {a b:World} {row:Option Nat} (h:a.grownBy b row):a.grownBy b.drew row:=⟨h.os,h.tape,h.output,h.size,h.block⟩
def Swapped (W:World) (g n:Nat) (cur:Array Value) (F:Nat->Itm) (e:Ending) (W':World):Prop:=
 (∃v,e= .returned v)/\ ∃cur',Blk W' g 169 cur'/\cur'.size=cur.size/\ICells cur' n F/\W.grownBy W' (some g)
set_option maxHeartbeats 1000000 in
theorem dswap_any (g n cap i j:Nat) (cur:Array Value) (F:Nat->Itm) (hi:i<n) (hj:j<n) (hij:i≠j) (w:World) (hb:Blk w g 169 cur) (hc:ICells cur n F):
 Calls Tryz.prog 196 #[.slice (some ⟨g,0,none⟩) n cap,.int .i64 (i:Int),.int .i64 (j:Int)] w (Swapped w g n cur (swp F i j)):=by
 have hi':(i:Int)<(n:Int):=by omega
 have hj':(j:Int)<(n:Int):=by omega
 have hi0:(0:Int)<=(i:Int):=by omega
 have hj0:(0:Int)<=(j:Int):=by omega
 obtain ⟨a0,a1,a2⟩:=hc i hi
 obtain ⟨b0,b1,b2⟩:=hc j hj
 have HC:=Lib.hid (And.intro hc (And.intro hb hij))
 have c0:=(hb.cell (i*3)).trans a0
 have c1:=(hb.cell (i*3+1)).trans a1
 have c2:=(hb.cell (i*3+2)).trans a2
 have d0:=(hb.cell (j*3)).trans b0
 have d1:=(hb.cell (j*3+1)).trans b1
 have d2:=(hb.cell (j*3+2)).trans b2
 have f0:=hb.frozen (i*3)
 have f1:=hb.frozen (i*3+1)
 have f2:=hb.frozen (i*3+2)
 have g0:=hb.frozen (j*3)
 have g1:=hb.frozen (j*3+1)
 have g2:=hb.frozen (j*3+2)
 clear a0 a1 a2 b0 b1 b2 hc hb
 go_enter Tryz.func196,Tryz.ntmps196
 go_wp2
 go_region
 all_goals
  go_wp2
  go_end0
  obtain ⟨hc,hb,hij⟩:=HC.out
  refine ⟨⟨_,rfl⟩,put3 (put3 cur i (F j)) j (F i),?_,by rw [put3_size,put3_size],(put3_cells (put3_cells hc i hi (F j)) j hj (F i)).congr (fun k hk=>?_),?_⟩
  ·exact ((((((hb.set_ _ _).set_ _ _).set_ _ _).set_ _ _).set_ _ _).set_ _ _).drew
  ·unfold swp
   by_cases e1:k=j
   ·by_cases e2:k=i
    ·exact absurd (e2.symm.trans e1) hij
    ·rw [if_pos e1,if_neg e2,if_pos e1]
   ·rw [if_neg e1]
    by_cases e2:k=i
    ·rw [if_pos e2,if_pos e2]
    ·rw [if_neg e2,if_neg e2,if_neg e1]
  ·exact grown_drew (grown_set (grown_set (grown_set (grown_set (grown_set (grown_set (World.grownBy.refl w _) _ _) _ _) _ _) _ _) _ _) _ _)
structure HS (W:World) (Bd g n cap:Nat) (F:Nat->Itm):Prop where
 box:Blk W Bd 166 #[.slice (some ⟨g,0,none⟩) n cap]
 row: ∃cur,Blk W g 169 cur/\cur.size=cap*3/\ICells cur n F
 ne:Bd≠g
 nc:n<=cap
 cm:cap<=maxLen
theorem HS.cell {W:World} {Bd g n cap:Nat} {F:Nat->Itm} (h:HS W Bd g n cap F):W.cell? ⟨Bd,0,none⟩=some (.slice (some ⟨g,0,none⟩) n cap):=(h.box.cell 0).trans rfl
theorem HS.drewN {W:World} {Bd g n cap:Nat} {F:Nat->Itm} (h:HS W Bd g n cap F) (q:Nat):HS (W.drewN q) Bd g n cap F:=by
 obtain ⟨cur,h1,h2,h3⟩:=h.row
 exact ⟨h.box.drewN q,⟨cur,h1.drewN q,h2,h3⟩,h.ne,h.nc,h.cm⟩
theorem HS.due {W:World} {Bd g n cap:Nat} {F:Nat->Itm} (h:HS W Bd g n cap F) (i:Nat) (hi:i<n):W.cell? ⟨g,0+i*3+2,none⟩=some (.int .i64 (F i).due):=by
 obtain ⟨cur,h1,h2,h3⟩:=h.row
 rw [Nat.zero_add]
 exact (h1.cell _).trans (h3 i hi).2.2
theorem HS.swapped {W W':World} {Bd g n cap:Nat} {F G:Nat->Itm} {cur:Array Value} {e:Ending} (h:HS W Bd g n cap F) (hs:cur.size=cap*3) (k:Swapped W g n cur G e W'):HS W' Bd g n cap G:=by
 obtain ⟨_,cur',h1,h2,h3,h4⟩:=k
 exact ⟨h.box.grown h4 (fun e=>h.ne (Option.some.inj e)),⟨cur',h1,by rw [h2,hs],h3⟩,h.ne,h.nc,h.cm⟩
theorem HS.less {W:World} {Bd g n cap:Nat} {F:Nat->Itm} (h:HS W Bd g n cap F) {i j:Nat} (hi:i<n) (hj:j<n):
 Calls Tryz.prog 194 #[.slice (some ⟨g,0,none⟩) n cap,.int .i64 (i:Int),.int .i64 (j:Int)] W fun e w'=>e= .returned (.bool (decide ((F i).due<(F j).due)))/\ ∃q,w'=W.drewN q:=
 dless_any g 0 n cap i j _ _ hi hj W (h.due i hi) (h.due j hj)
def HSwap (W:World) (Bd g n cap:Nat) (G:Nat->Itm) (e:Ending) (W':World):Prop:=(∃v,e= .returned v)/\HS W' Bd g n cap G/\W.grownBy W' (some g)
theorem HS.swap {W:World} {Bd g n cap:Nat} {F:Nat->Itm} (h:HS W Bd g n cap F) {i j:Nat} (hi:i<n) (hj:j<n) (hij:i≠j):
 Calls Tryz.prog 196 #[.slice (some ⟨g,0,none⟩) n cap,.int .i64 (i:Int),.int .i64 (j:Int)] W (HSwap W Bd g n cap (swp F i j)):=by
 obtain ⟨cur,h1,h2,h3⟩:=h.row
 refine (dswap_any g n cap i j cur F hi hj hij W h1 h3).mono fun e W' k=>⟨k.1,h.swapped h2 k,?_⟩
 obtain ⟨_,_,_,_,_,h4⟩:=k
 exact h4
theorem m_len {W:World} {Bd g n cap:Nat} {F:Nat->Itm} (h:HS W Bd g n cap F):(method 361 164 (.pointer (some ⟨Bd,0,none⟩)) "Len").run Tryz.prog W= .ok (193,.slice (some ⟨g,0,none⟩) n cap) W:=by
 rw [m_len0,Sem.run_bind,load_dues h.cell]
 rfl
theorem m_less {W:World} {Bd g n cap:Nat} {F:Nat->Itm} (h:HS W Bd g n cap F):(method 361 164 (.pointer (some ⟨Bd,0,none⟩)) "Less").run Tryz.prog W= .ok (194,.slice (some ⟨g,0,none⟩) n cap) W:=by
 rw [m_less0,Sem.run_bind,load_dues h.cell]
 rfl
theorem m_swap {W:World} {Bd g n cap:Nat} {F:Nat->Itm} (h:HS W Bd g n cap F):(method 361 164 (.pointer (some ⟨Bd,0,none⟩)) "Swap").run Tryz.prog W= .ok (196,.slice (some ⟨g,0,none⟩) n cap) W:=by
 rw [m_swap0,Sem.run_bind,load_dues h.cell]
 rfl
def HEnd (W:World) (Bd g n cap:Nat) (F:Nat->Itm) (e:Ending) (W':World):Prop:=
 (∃v,e= .returned v)/\ ∃G,Swaps n F G/\Heap n G/\HS W' Bd g n cap G/\W.grownBy W' (some g)
theorem grown_drewN {a b:World} {row:Option Nat} (h:a.grownBy b row) (q:Nat):a.grownBy (b.drewN q) row:=⟨h.os,h.tape,h.output,h.size,h.block⟩
set_option maxHeartbeats 2000000 in
theorem up_any (Bd g n cap j0:Nat) (F:Nat->Itm) (hj0:j0<n) (hn:n<=1000) (W:World) (hS:HS W Bd g n cap F) (hU:ButUp n F j0):
 Calls Tryz.prog 131 #[.iface 164 (.pointer (some ⟨Bd,0,none⟩)),.int .i64 (j0:Int)] W (HEnd W Bd g n cap F):=by
 go_enter Tryz.func131,Tryz.ntmps131
 go_wp2
 go_loopw [1] (fun v wr=> ∃(j:Nat) (G:Nat->Itm),j<n/\v= .int .i64 (j:Int)/\Swaps n F G/\ButUp n G j/\HS wr Bd g n cap G/\W.grownBy wr (some g)) (fun v _=>(intOf v).toNat)
 case atStart=>exact ⟨j0,F,hj0,rfl,.refl,hU,hS,World.grownBy.refl W _⟩
 case round=>
  clear hS hU hj0
  obtain ⟨j,G,hj,rfl,hsw,hbu,hs,hg⟩:=hrel
  rcases Nat.eq_zero_or_pos j with rfl|hp
  ·have HX:=Lib.hid (And.intro hsw (And.intro hbu (And.intro hs hg)))
   clear hsw hbu hs hg
   go_wp2
   go_end0
   exact ⟨⟨_,rfl⟩,G,HX.out.1,HX.out.2.1.root,HX.out.2.2.1,HX.out.2.2.2⟩
  ·have hp1:(0:Int)<=(j:Int)-1:=by omega
   have hp2:(j:Int)-1<=1000:=by omega
   obtain ⟨p,hpp⟩: ∃p,par j=p:=⟨_,rfl⟩
   have hpj:p<j:=by unfold par at hpp;omega
   have hpn:p<n:=by omega
   have he:((j:Int)-1)/2=(p:Int):=by unfold par at hpp;omega
   have hne:((p:Int)==(j:Int))=false:=by simp;omega
   have hm:=m_less hs
   have hL:=hs.less hj hpn
   obtain ⟨dj,hdj⟩: ∃d,(G j).due=d:=⟨_,rfl⟩
   obtain ⟨dp,hdp⟩: ∃d,(G p).due=d:=⟨_,rfl⟩
   rw [hdj,hdp]at hL
   have HX:=Lib.hid (And.intro hsw (And.intro hbu (And.intro hs (And.intro hg (And.intro hpp (And.intro hdj hdp))))))
   clear hsw hbu hs hg hpp hdj hdp
   go_wp2_with fail
   refine hL.mono ?_
   rintro e w1 ⟨rfl,q,rfl⟩
   clear hL hm
   by_cases hl:dj<dp
   ·have hlb:decide (dj<dp)=true:=by simpa using hl
    have hm2:=m_swap (HX.out.2.2.1.drewN q)
    have hS2:=(HX.out.2.2.1.drewN q).swap hpn hj (by omega)
    have HL:=Lib.hid hl
    clear hl
    go_wp2_with fail
    refine hS2.mono ?_
    rintro e w2 ⟨⟨ve,rfl⟩,hs3,hg3⟩
    obtain ⟨hsw,hbu,hs,hg,hpp,hdj,hdp⟩:=HX.out
    have hbu3:=hbu.step hp hj (by rw [hpp,hdj,hdp];exact HL.out)
    rw [hpp]at hbu3
    have hsw3:=hsw.step p j hpn hj
    have hg4:=grown_trans' (grown_drewN hg q) hg3
    have HY:=Lib.hid (And.intro hsw3 (And.intro hbu3 (And.intro hs3 hg4)))
    clear hS2 hm2 hs3 hg3 hsw hbu hs hg hpp hdj hdp hbu3 hsw3 hg4 HX HL
    go_wp2
    go_roundw
    case rel=>exact ⟨p,_,hpn,rfl,HY.out.1,HY.out.2.1,HY.out.2.2.1,HY.out.2.2.2⟩
    case measure=>simp [intOf];omega
   ·have hlb:decide (dj<dp)=false:=by simpa using hl
    have HL:=Lib.hid hl
    clear hl
    go_wp2
    go_end0
    obtain ⟨hsw,hbu,hs,hg,hpp,hdj,hdp⟩:=HX.out
    have :=HL.out
    exact ⟨⟨_,rfl⟩,G,hsw,hbu.done (by rw [hpp,hdj,hdp];omega),hs.drewN q,grown_drewN hg q⟩
def DEnd (W:World) (Bd g n cap i0:Nat) (F:Nat->Itm) (e:Ending) (W':World):Prop:=
 ∃mv:Bool,e= .returned (.bool mv)/\ ∃G,Swaps n F G/\(mv=true->Heap n G)/\(mv=false->ButUp n G i0)/\HS W' Bd g n cap G/\W.grownBy W' (some g)
theorem dend {W W':World} {Bd g n cap i0 i:Nat} {F G:Nat->Itm} (hi0:i0<=i) (hsw:Swaps n F G) (hb:But n G i) (hu:i≠i0->(G (par i)).due<=(G i).due) (hs:HS W' Bd g n cap G) (hg:W.grownBy W' (some g))
 (hlow: ∀c,c<n->0<c->par c=i->(G i).due<=(G c).due):DEnd W Bd g n cap i0 F (.returned (.bool (decide (i0<i)))) W':=by
 refine ⟨_,rfl,G,hsw,fun h=>hb.heap hlow (fun h0=>hu ?_),fun h=>?_,hs,hg⟩
 ·have :=of_decide_eq_true h;omega
 ·have :=of_decide_eq_false h
  obtain rfl:i=i0:=by omega
  exact hb.stop hlow
set_option maxRecDepth 100000 in
set_option maxHeartbeats 4000000 in
theorem down_any (Bd g n cap i0:Nat) (F:Nat->Itm) (hi0:i0<n) (hn:n<=1000) (W:World) (hS:HS W Bd g n cap F) (hB:But n F i0):
 Calls Tryz.prog 132 #[.iface 164 (.pointer (some ⟨Bd,0,none⟩)),.int .i64 (i0:Int),.int .i64 (n:Int)] W (DEnd W Bd g n cap i0 F):=by
 go_enter Tryz.func132,Tryz.ntmps132
 go_wp2
 go_loopw [7] (fun v wr=> ∃(i:Nat) (G:Nat->Itm),i<n/\i0<=i/\v= .int .i64 (i:Int)/\Swaps n F G/\But n G i/\(i≠i0->(G (par i)).due<=(G i).due)/\HS wr Bd g n cap G/\W.grownBy wr (some g)) (fun v _=>n-(intOf v).toNat)
 case atStart=>exact ⟨i0,F,hi0,Nat.le_refl _,rfl,.refl,hB,fun h=>absurd rfl h,hS,World.grownBy.refl W _⟩
 case round=>
  clear hS hB hi0
  obtain ⟨i,G,hi,hii,rfl,hsw,hbu,hup,hs,hg⟩:=hrel
  by_cases hj1:n<=2*i+1
  ·have hj1':(n:Int)<=2*(i:Int)+1:=by omega
   have hlow: ∀c,c<n->0<c->par c=i->(G i).due<=(G c).due:=fun c hc h0 hp=>by unfold par at hp;omega
   have HX:=Lib.hid (dend hii hsw hbu hup hs hg hlow)
   clear hsw hbu hup hs hg hlow
   go_wp2
   go_ret
   exact HX.out
  ·have hp2:2*(i:Int)<=2000:=by omega
   have hp3:(0:Int)<=2*(i:Int):=by omega
   obtain ⟨a,ha⟩: ∃a:Nat,2*(i:Int)+1=(a:Int):=⟨2*i+1,by omega⟩
   obtain ⟨b,hb⟩: ∃b:Nat,(a:Int)+1=(b:Int):=⟨a+1,by omega⟩
   have ga:a=2*i+1:=by omega
   have gb:b=2*i+2:=by omega
   have han:a<n:=by omega
   have hbi:b<=2000:=by omega
   have hai:i<a:=by omega
   have hn1: ¬(n:Int)<=(a:Int):=by omega
   have hn2: ¬(a:Int)<0:=by omega
   have hpa:par a=i:=by unfold par;omega
   have hpb:par b=i:=by unfold par;omega
   have hchild: ∀c,0<c->par c=i->c=a∨c=b:=fun c h0 hp=>by unfold par at hp;omega
   have hm:=m_less hs
   obtain ⟨di,hdi⟩: ∃d,(G i).due=d:=⟨_,rfl⟩
   obtain ⟨da,hda⟩: ∃d,(G a).due=d:=⟨_,rfl⟩
   obtain ⟨db,hdb⟩: ∃d,(G b).due=d:=⟨_,rfl⟩
   have HX:=Lib.hid (And.intro hsw (And.intro hbu (And.intro hup (And.intro hs (And.intro hg (And.intro hdi (And.intro hda (And.intro hdb (And.intro hpa (And.intro hpb hchild))))))))))
   have HG:=Lib.hid (And.intro ga gb)
   clear hsw hbu hup hs hg hdi hda hdb hpa hpb hchild ga gb
   by_cases hbn:b<n
   ·have hn3:(b:Int)<(n:Int):=by omega
    have hL:=HX.out.2.2.2.1.less hbn han
    rw [HX.out.2.2.2.2.2.2.1,HX.out.2.2.2.2.2.2.2.1]at hL
    go_wp2_with fail
    refine hL.mono ?_
    rintro e w1 ⟨rfl,q,rfl⟩
    clear hL hm
    by_cases hx:db<da
    ·have hxb:decide (db<da)=true:=by simpa using hx
     have HXX:=Lib.hid hx
     clear hx
     have hS1:=HX.out.2.2.2.1.drewN q
     have hm1:=m_less hS1
     have hL1:=hS1.less (i:=b) (j:=i) hbn hi
     rw [HX.out.2.2.2.2.2.2.2.1,HX.out.2.2.2.2.2.1]at hL1
     have HMIN:Hid (∀c,c<n->0<c->par c=i->(G b).due<=(G c).due):=Lib.hid (fun c hc h0 hp=>by
      have h1:=HX.out.2.2.2.2.2.2.2.1
      have h2:=HX.out.2.2.2.2.2.2.1
      have h3:=HX.out.2.2.2.2.2.2.2.1
      rcases HX.out.2.2.2.2.2.2.2.2.2.2 c h0 hp with rfl|rfl
      ·have :=HXX.out;omega
      ·omega)
     have HS1:=Lib.hid hS1
     clear hS1
     go_wp2_with fail
     refine hL1.mono ?_
     rintro e w2 ⟨rfl,q2,rfl⟩
     clear hL1 hm1
     by_cases hl:db<di
     ·have hlb:decide (db<di)=true:=by simpa using hl
      have hS2:=(HX.out.2.2.2.1.drewN (q+q2))
      have hm2:=m_swap hS2
      have hW2:=hS2.swap (i:=i) (j:=b) hi hbn (by omega)
      have HL:=Lib.hid hl
      clear hl hS2
      go_wp2_with fail
      refine hW2.mono ?_
      rintro e w3 ⟨⟨ve,rfl⟩,hs3,hg3⟩
      have hst:=HX.out.2.1.step (j:=b) hbn (by omega) HX.out.2.2.2.2.2.2.2.2.2.1 HMIN.out (by rw [HX.out.2.2.2.2.2.2.2.1,HX.out.2.2.2.2.2.1];exact HL.out)
      have hup3:b≠i0->(swp G i b (par b)).due<=(swp G i b b).due:=fun _=>hst.2.1
      have hg4:=grown_trans' (grown_drewN HX.out.2.2.2.2.1 (q+q2)) hg3
      have HY:=Lib.hid (And.intro (HX.out.1.step i b hi hbn) (And.intro hst.1 (And.intro hup3 (And.intro hs3 hg4))))
      clear hm2 hW2 hs3 hg3 hst hup3 hg4
      go_wp2
      go_roundw
      case rel=>exact ⟨b,_,hbn,by omega,rfl,HY.out.1,HY.out.2.1,HY.out.2.2.1,HY.out.2.2.2.1,HY.out.2.2.2.2⟩
      case measure=>simp [intOf];omega
     ·have hlb:decide (db<di)=false:=by simpa using hl
      have HL:=Lib.hid hl
      have hE:=dend hii HX.out.1 HX.out.2.1 HX.out.2.2.1 (HX.out.2.2.2.1.drewN (q+q2)) (grown_drewN HX.out.2.2.2.2.1 (q+q2)) (fun c hc h0 hp=>by
       have h1:=HMIN.out c hc h0 hp
       have h2:=HL.out
       have h3:=HX.out.2.2.2.2.2.2.2.1
       have h4:=HX.out.2.2.2.2.2.1
       omega)
      have HE:=Lib.hid hE
      clear hl hE
      go_wp2
      go_ret
      exact HE.out
    ·have hxb:decide (db<da)=false:=by simpa using hx
     have HXX:=Lib.hid hx
     clear hx
     have hS1:=HX.out.2.2.2.1.drewN q
     have hm1:=m_less hS1
     have hL1:=hS1.less (i:=a) (j:=i) han hi
     rw [HX.out.2.2.2.2.2.2.1,HX.out.2.2.2.2.2.1]at hL1
     have HMIN:Hid (∀c,c<n->0<c->par c=i->(G a).due<=(G c).due):=Lib.hid (fun c hc h0 hp=>by
      have h1:=HX.out.2.2.2.2.2.2.1
      have h2:=HX.out.2.2.2.2.2.2.1
      have h3:=HX.out.2.2.2.2.2.2.2.1
      rcases HX.out.2.2.2.2.2.2.2.2.2.2 c h0 hp with rfl|rfl
      ·omega
      ·have :=HXX.out;omega)
     have HS1:=Lib.hid hS1
     clear hS1
     go_wp2_with fail
     refine hL1.mono ?_
     rintro e w2 ⟨rfl,q2,rfl⟩
     clear hL1 hm1
     by_cases hl:da<di
     ·have hlb:decide (da<di)=true:=by simpa using hl
      have hS2:=(HX.out.2.2.2.1.drewN (q+q2))
      have hm2:=m_swap hS2
      have hW2:=hS2.swap (i:=i) (j:=a) hi han (by omega)
      have HL:=Lib.hid hl
      clear hl hS2
      go_wp2_with fail
      refine hW2.mono ?_
      rintro e w3 ⟨⟨ve,rfl⟩,hs3,hg3⟩
      have hst:=HX.out.2.1.step (j:=a) han (by omega) HX.out.2.2.2.2.2.2.2.2.1 HMIN.out (by rw [HX.out.2.2.2.2.2.2.1,HX.out.2.2.2.2.2.1];exact HL.out)
      have hup3:a≠i0->(swp G i a (par a)).due<=(swp G i a a).due:=fun _=>hst.2.1
      have hg4:=grown_trans' (grown_drewN HX.out.2.2.2.2.1 (q+q2)) hg3
      have HY:=Lib.hid (And.intro (HX.out.1.step i a hi han) (And.intro hst.1 (And.intro hup3 (And.intro hs3 hg4))))
      clear hm2 hW2 hs3 hg3 hst hup3 hg4
      go_wp2
      go_roundw
      case rel=>exact ⟨a,_,han,by omega,rfl,HY.out.1,HY.out.2.1,HY.out.2.2.1,HY.out.2.2.2.1,HY.out.2.2.2.2⟩
      case measure=>simp [intOf];omega
     ·have hlb:decide (da<di)=false:=by simpa using hl
      have HL:=Lib.hid hl
      have hE:=dend hii HX.out.1 HX.out.2.1 HX.out.2.2.1 (HX.out.2.2.2.1.drewN (q+q2)) (grown_drewN HX.out.2.2.2.2.1 (q+q2)) (fun c hc h0 hp=>by
       have h1:=HMIN.out c hc h0 hp
       have h2:=HL.out
       have h3:=HX.out.2.2.2.2.2.2.1
       have h4:=HX.out.2.2.2.2.2.1
       omega)
      have HE:=Lib.hid hE
      clear hl hE
      go_wp2
      go_ret
      exact HE.out
   ·have hn3: ¬(b:Int)<(n:Int):=by omega
    clear hm
    have hS1:=HX.out.2.2.2.1
    have hm1:=m_less hS1
    have hL1:=hS1.less (i:=a) (j:=i) han hi
    rw [HX.out.2.2.2.2.2.2.1,HX.out.2.2.2.2.2.1]at hL1
    have HMIN:Hid (∀c,c<n->0<c->par c=i->(G a).due<=(G c).due):=Lib.hid (fun c hc h0 hp=>by
     have h1:=HX.out.2.2.2.2.2.2.1
     have h2:=HX.out.2.2.2.2.2.2.1
     have h3:=HX.out.2.2.2.2.2.2.2.1
     rcases HX.out.2.2.2.2.2.2.2.2.2.2 c h0 hp with rfl|rfl
     ·omega
     ·omega)
    have HS1:=Lib.hid hS1
    clear hS1
    go_wp2_with fail
    refine hL1.mono ?_
    rintro e w2 ⟨rfl,q2,rfl⟩
    clear hL1 hm1
    by_cases hl:da<di
    ·have hlb:decide (da<di)=true:=by simpa using hl
     have hS2:=(HX.out.2.2.2.1.drewN q2)
     have hm2:=m_swap hS2
     have hW2:=hS2.swap (i:=i) (j:=a) hi han (by omega)
     have HL:=Lib.hid hl
     clear hl hS2
     go_wp2_with fail
     refine hW2.mono ?_
     rintro e w3 ⟨⟨ve,rfl⟩,hs3,hg3⟩
     have hst:=HX.out.2.1.step (j:=a) han (by omega) HX.out.2.2.2.2.2.2.2.2.1 HMIN.out (by rw [HX.out.2.2.2.2.2.2.1,HX.out.2.2.2.2.2.1];exact HL.out)
     have hup3:a≠i0->(swp G i a (par a)).due<=(swp G i a a).due:=fun _=>hst.2.1
     have hg4:=grown_trans' (grown_drewN HX.out.2.2.2.2.1 q2) hg3
     have HY:=Lib.hid (And.intro (HX.out.1.step i a hi han) (And.intro hst.1 (And.intro hup3 (And.intro hs3 hg4))))
     clear hm2 hW2 hs3 hg3 hst hup3 hg4
     go_wp2
     go_roundw
     case rel=>exact ⟨a,_,han,by omega,rfl,HY.out.1,HY.out.2.1,HY.out.2.2.1,HY.out.2.2.2.1,HY.out.2.2.2.2⟩
     case measure=>simp [intOf];omega
    ·have hlb:decide (da<di)=false:=by simpa using hl
     have HL:=Lib.hid hl
     have hE:=dend hii HX.out.1 HX.out.2.1 HX.out.2.2.1 (HX.out.2.2.2.1.drewN q2) (grown_drewN HX.out.2.2.2.2.1 q2) (fun c hc h0 hp=>by
      have h1:=HMIN.out c hc h0 hp
      have h2:=HL.out
      have h3:=HX.out.2.2.2.2.2.2.1
      have h4:=HX.out.2.2.2.2.2.1
      omega)
     have HE:=Lib.hid hE
     clear hl hE
     go_wp2
     go_ret
     exact HE.out
theorem fix_any (Bd g n cap i:Nat) (F:Nat->Itm) (hi:i<n) (hn:n<=1000) (W:World) (hS:HS W Bd g n cap F) (hB:But n F i):
 Calls Tryz.prog 80 #[.iface 164 (.pointer (some ⟨Bd,0,none⟩)),.int .i64 (i:Int)] W (HEnd W Bd g n cap F):=by
 have hm:=m_len hS
 have hD:=down_any Bd g n cap i F hi hn W hS hB
 go_enter Tryz.func80,Tryz.ntmps80
 go_wp2_with (go_at_call 193;refine (dlen_any _ _ _ _).mono ?_;rintro e w' ⟨rfl,rfl⟩)
 refine hD.mono ?_
 rintro e w1 ⟨mv,rfl,G,hsw,h1,h2,hs,hg⟩
 clear hm hD
 cases mv
 ·have hU:=up_any Bd g n cap i G hi hn w1 hs (h2 rfl)
  have HX:=Lib.hid (And.intro hsw hg)
  clear h1 h2 hsw hs hg
  go_wp2_with fail
  refine hU.mono ?_
  rintro e w2 ⟨⟨ve,rfl⟩,H,hsw2,hh,hs2,hg2⟩
  go_wp2
  go_end0
  exact ⟨⟨_,rfl⟩,H,HX.out.1.trans hsw2,hh,hs2,grown_trans' HX.out.2 hg2⟩
 ·have HX:=Lib.hid (And.intro hsw (And.intro (h1 rfl) (And.intro hs hg)))
  clear h1 h2 hsw hs hg
  go_wp2
  go_end0
  exact ⟨⟨_,rfl⟩,G,HX.out.1,HX.out.2.1,HX.out.2.2.1,HX.out.2.2.2⟩
end Go.Proofs.YtmhfpjnkjlhbpaaGreatDoor
