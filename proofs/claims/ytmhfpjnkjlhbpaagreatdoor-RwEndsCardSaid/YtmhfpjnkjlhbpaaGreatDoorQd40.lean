/- container/heap over the dues: Push. The contract of pick.Fair: it tells whether every window holds each thread's step and flush. -/
import Derived.Test.YtmhfpjnkjlhbpaaGreatDoorQd39
import Derived.Test.YtmhfpjnkjlhbpaaGreatDoorQd36
import Derived.Deep.DeepCutAuto
namespace Go.Proofs.YtmhfpjnkjlhbpaaGreatDoor
open Go.ChangeShapes Go.WideShapes Go.ChangeAt Go.RowKit Go.Deep
set_option linter.unusedVariables false
set_option maxRecDepth 100000
set_option linter.unusedSimpArgs false
open List renaming getElem_toArray->zA,getElem_cons_zero->zB,getElem_cons_succ->zC,setIfInBounds_toArray->zD,set_cons_zero->zE,set_cons_succ->zF
theorem item_info:(Tryz.prog.info? 169).map (fun i=>(i.zero,i.size,i.bytes))=some (some (.agg #[.int .i64 0,.int .i64 0,.int .i64 0]),3,24):=by kernel_rfl
theorem dues_cell {w W:World} {Bd g n cap:Nat} {F:Nat->Itm} (h:HS w Bd g n cap F) (hg:w.grownBy W (some g)):W.cell? ⟨Bd,0,none⟩=some (.slice (some ⟨g,0,none⟩) n cap):=
 ((h.box.grown hg (fun e=>h.ne (Option.some.inj e))).cell 0).trans rfl
theorem HS.own {W:World} {Bd g n cap:Nat} {F:Nat->Itm} (h:HS W Bd g n cap F) {base:Nat} (hb:base<=g): ∃cur:Array Value,ICells cur n F/\W.ownsRow base 169 3 (.slice (some ⟨g,0,none⟩) n cap) n (cur.toList.take (n*3)):=by
 obtain ⟨cur,h1,h2,h3⟩:=h.row
 refine ⟨cur,h3,?_,.inr ⟨g,cap,cur,rfl,hb,h1,h.nc,h.cm,h2,rfl⟩⟩
 have :=h3.size
 simp
 omega
theorem ta_item (x:Itm) (W:World):(Instr.typeAssert (.iface 169 (.agg #[.int .i64 x.kind,.int .i64 x.who,.int .i64 x.due])) 20 169 false).run Tryz.prog W= .ok (.agg #[.int .i64 x.kind,.int .i64 x.who,.int .i64 x.due]) W:=by kernel_rfl
def snocI (F:Nat->Itm) (n:Nat) (x:Itm):Nat->Itm:=fun k=>if k=n then x else F k
theorem icells_snoc {cur cur':Array Value} {n:Nat} {F:Nat->Itm} {x:Itm} (h:ICells cur n F) (e:cur'.toList.take ((n+1)*3)=cur.toList.take (n*3)++[.int .i64 x.kind,.int .i64 x.who,.int .i64 x.due]):ICells cur' (n+1) (snocI F n x):=by
 have hs:=h.size
 have key: ∀j,j<(n+1)*3->cur'[j]?=(cur.toList.take (n*3)++[.int .i64 x.kind,.int .i64 x.who,.int .i64 x.due])[j]?:=fun j hj=>by
  rw [<-e,List.getElem?_take_of_lt hj]
  simp
 have hl:(cur.toList.take (n*3)).length=n*3:=by simp;omega
 intro i hi
 by_cases hin:i=n
 ·subst hin
  unfold snocI
  rw [if_pos rfl]
  refine ⟨?_,?_,?_⟩
  ·rw [key _ (by omega),List.getElem?_append_right (by omega),hl,show i*3-i*3=0 by omega];rfl
  ·rw [key _ (by omega),List.getElem?_append_right (by omega),hl,show i*3+1-i*3=1 by omega];rfl
  ·rw [key _ (by omega),List.getElem?_append_right (by omega),hl,show i*3+2-i*3=2 by omega];rfl
 ·unfold snocI
  rw [if_neg hin]
  have old: ∀j,j<n*3->cur'[j]?=cur[j]?:=fun j hj=>by
   rw [key j (by omega),List.getElem?_append_left (by omega),List.getElem?_take_of_lt hj]
   simp
  obtain ⟨h1,h2,h3⟩:=h i (by omega)
  exact ⟨(old _ (by omega)).trans h1,(old _ (by omega)).trans h2,(old _ (by omega)).trans h3⟩
structure Kp2 (g n:Nat) (W W':World):Prop where
 os:W'.os=W.os
 tape:W'.tape=W.tape
 output:W'.output=W.output
 size:W.heap.size<=W'.heap.size
 block: ∀i,i<W.heap.size->i≠g->i≠n->W'.heap[i]?=W.heap[i]?
theorem Kp2.refl (g n:Nat) (W:World):Kp2 g n W W:=⟨rfl,rfl,rfl,Nat.le_refl _,fun _ _ _ _=>rfl⟩
theorem Kp2.drewl {g n:Nat} {W W':World} (h:Kp2 g n W.drew W'):Kp2 g n W W':=⟨h.os,h.tape,h.output,h.size,h.block⟩
theorem Kp2.drewN {g n:Nat} {W W':World} (h:Kp2 g n W W') (q:Nat):Kp2 g n W (W'.drewN q):=⟨h.os,h.tape,h.output,h.size,h.block⟩
theorem Kp2.trans {g n:Nat} {A B C:World} (h:Kp2 g n A B) (k:Kp2 g n B C):Kp2 g n A C:=
 ⟨k.os.trans h.os,k.tape.trans h.tape,k.output.trans h.output,Nat.le_trans h.size k.size,fun i hi h1 h2=>(k.block i (Nat.lt_of_lt_of_le hi h.size) h1 h2).trans (h.block i hi h1 h2)⟩
theorem Kp2.grown {g n:Nat} {A B C:World} {r:Option Nat} (h:Kp2 g n A B) (k:B.grownBy C r) (hr: ∀i,r=some i->i=g∨i=n∨A.heap.size<=i):Kp2 g n A C:=
 ⟨k.os.trans h.os,k.tape.trans h.tape,k.output.trans h.output,Nat.le_trans h.size k.size,fun i hi h1 h2=>(k.block i (Nat.lt_of_lt_of_le hi h.size) (fun e=>by
  rcases hr i e.symm with h|h|h
  ·exact h1 h
  ·exact h2 h
  ·omega)).trans (h.block i hi h1 h2)⟩
theorem Kp2.below {g n B:Nat} {w A C:World} (hb:Below B w A) (h:Kp2 g n A C) (hg:B<=g) (hn:B<=n) (hB:B<=w.heap.size):Below B w C:=by
 have h2:Below B A C:=⟨h.os,h.tape,h.output,h.size,fun i hi=>h.block i (by have :=hb.size;omega) (by omega) (by omega)⟩
 exact hb.trans h2
theorem Kp2.cell {g n b o:Nat} {A C:World} (h:Kp2 g n A C) (hb:b<A.heap.size) (h1:b≠g) (h2:b≠n):C.cell? ⟨b,o,none⟩=A.cell? ⟨b,o,none⟩:=
 World.cell?_of_block (w:=A) (a:=⟨b,o,none⟩) (h.block b hb h1 h2)
def DPush (w:World) (Bd g n base:Nat) (F:Nat->Itm) (x:Itm) (e:Ending) (w':World):Prop:=
 (∃v,e= .returned v)/\ ∃g' cap',HS w' Bd g' (n+1) cap' (snocI F n x)/\base<=g'/\(g'=g∨w.heap.size<=g')/\Kp2 Bd g w w'
theorem dpush_end {w W:World} {Bd g n cap base:Nat} {F:Nat->Itm} {x:Itm} {v:Value} {cur:Array Value} (hS:HS w Bd g n cap F) (hc:ICells cur n F) (hg:base<=g)
 (hW:w.grownBy W (some g)) (hown:W.ownsRow base 169 3 v (n+1) (cur.toList.take (n*3)++[.int .i64 x.kind,.int .i64 x.who,.int .i64 x.due])) (hv:v.ownBlock=some g∨ ∃r,v.ownBlock=some r/\w.heap.size<=r) (r:Ending) (hr: ∃u,r= .returned u):
 DPush w Bd g n base F x r (W.setCell ⟨Bd,0,none⟩ v):=by
 rcases hown.2 with ⟨_,h2⟩|⟨g',cap',cur',rfl,hg',hh,hn,hcm,hs,ht⟩
 ·exact absurd h2 (by simp)
 ·have hgg:g'=g∨w.heap.size<=g':=by
   rcases hv with h|⟨r,h,hr⟩
   ·exact .inl (Option.some.inj h)
   ·have e:g'=r:=Option.some.inj h
    exact .inr (by omega)
  have hlt:=hS.box.lt
  have hbox:Blk W Bd 166 #[.slice (some ⟨g,0,none⟩) n cap]:=hS.box.grown hW (fun e=>hS.ne (Option.some.inj e))
  have hne:Bd≠g':=by
   have :=hS.ne
   omega
  refine ⟨hr,g',cap',⟨hbox.set_ 0 _,⟨cur',Blk.far (w:=W) (t:=169) (cs:=cur') hh (Ne.symm hne) _,hs,icells_snoc hc ht⟩,hne,hn,hcm⟩,hg',hgg,?_⟩
  exact ((Kp2.refl Bd g w).grown hW (fun i e=> .inr (.inl (Option.some.inj e).symm))).grown (set_only _) (fun i e=> .inl (Option.some.inj e).symm)
set_option maxHeartbeats 2000000 in
theorem dpush_any (Bd g n cap base:Nat) (F:Nat->Itm) (x:Itm) (hn:n<=1000) (w:World) (hS:HS w Bd g n cap F) (hg:base<=g):
 Calls Tryz.prog 195 #[.pointer (some ⟨Bd,0,none⟩),.iface 169 (.agg #[.int .i64 x.kind,.int .i64 x.who,.int .i64 x.due])] w (DPush w Bd g n base F x):=by
 obtain ⟨i0,hi,hy0,hy1,hy2⟩:=info_parts item_info
 have c0:=hS.cell
 have ta:=fun W=>ta_item x W
 go_enter Tryz.func195,Tryz.ntmps195
 go_wp2
 refine startG (fun W=>w.drew.grownBy W (some g)) 9 (by kernel_rfl) ?_
 have hS0:=hS.drewN 1
 have hg0:w.drew.grownBy w.drew (some g):=World.grownBy.refl _ _
 have hS1:HS w.drew Bd g n cap F:=hS0
 refine takeA (i:=0) (v:= .pointer (some ⟨Bd,0,none⟩)) rfl hg0 ?_
 simp only [Act.put,zA,zB,zC,zD,zE,zF]
 refine takeA (i:=1) (v:= .pointer (some ⟨Bd,0,none⟩)) rfl hg0 ?_
 simp only [Act.put,zA,zB,zC,zD,zE,zF]
 refine takeA (i:=4) (v:= .iface 169 (.agg #[.int .i64 x.kind,.int .i64 x.who,.int .i64 x.due])) rfl hg0 ?_
 simp only [Act.put,zA,zB,zC,zD,zE,zF]
 refine takeA (i:=2) (v:= .pointer (some ⟨Bd,0,none⟩)) rfl hg0 ?_
 simp only [Act.put,zA,zB,zC,zD,zE,zF]
 refine takeA (i:=5) (v:= .agg #[.int .i64 x.kind,.int .i64 x.who,.int .i64 x.due]) rfl hg0 ?_
 simp only [Act.put,zA,zB,zC,zD,zE,zF]
 refine takeB (i:=3) (v:= .slice (some ⟨g,0,none⟩) n cap) rfl (Or.inl ⟨by rfl,fun W hW=>by have q0:=dues_cell hS1 hW;go_simp⟩) hg0 ?_
 simp only [Act.put,zA,zB,zC,zD,zE,zF]
 refine onlyG (i:=6) (by kernel_rfl) rfl (fun K hK=>?_)
 go_simp
 have hgl:g<w.drew.heap.size:=by
  obtain ⟨cur,h1,_⟩:=hS1.row
  exact h1.lt
 obtain ⟨cur,hc,own1⟩:=hS1.own hg
 have hA:w.drew.grownBy (w.drew.alloc (.cells #[.int .i64 x.kind,.int .i64 x.who,.int .i64 x.due] 169)) (some g):=grown_alloc (World.grownBy.refl _ _) _
 have own2:=own1.alloc (.cells #[.int .i64 x.kind,.int .i64 x.who,.int .i64 x.due] 169)
 have src:=sl_new w.drew 169 [.int .i64 x.kind,.int .i64 x.who,.int .i64 x.due]
 refine hK.out _ _ hA (fun _=>?_)
 clear hK K
 try simp only [Act.put,zA,zB,zC,zD,zE,zF]
 refine onlyG (i:=7) (by kernel_rfl) rfl (fun K hK=>?_)
 rw [if_pos (by rfl)]
 refine wp_append_sl _ (.tmp 7) (.tmp 10) 166 rfl base 169 i0 _ 3 24 Tryz.underlying166 hi hy0 hy1 hy2 rfl (by omega) _ n _ rfl own2 _ 1 _ (fun i=>[Value.int .i64 x.kind,.int .i64 x.who,.int .i64 x.due].getD i undef) rfl src (fun i hi=>by rcases (by omega:i=0∨i=1∨i=2)with rfl|rfl|rfl<;>rfl) (by unfold maxLen;omega) (by omega) (by simp;have :w.drew.heap.size=w.heap.size:=rfl;omega) ?_
 intro v4 W4 own4 hg4 hv4
 have hg4':=grown_trans' hA hg4
 rw [show (List.range (1*3)).map (fun i=>[Value.int .i64 x.kind,.int .i64 x.who,.int .i64 x.due].getD i undef)=[Value.int .i64 x.kind,.int .i64 x.who,.int .i64 x.due] from rfl]at own4
 have hE:=fun r hr=>dpush_end (w:=w.drew) hS1 hc hg hg4' own4 (by rcases hv4 with h|h;exact .inl h;exact .inr ⟨_,h,by simp⟩) r hr
 obtain ⟨A4,cap4,rfl,_,_⟩:=own_sl own4
 refine hK.out _ _ hg4' (fun _=>?_)
 clear hK K
 try simp only [Act.put,zA,zB,zC,zD,zE,zF]
 have c4:=dues_cell hS1 hg4'
 have hb4:=(hS1.box.grown hg4' (fun e=>hS1.ne (Option.some.inj e)))
 have f4:=hb4.frozen 0
 refine takeA (i:=8) (v:= .pointer (some ⟨Bd,0,none⟩)) rfl hg4' ?_
 simp only [Act.put,zA,zB,zC,zD,zE,zF]
 refine lastG (by kernel_rfl) rfl (by kernel_rfl) (fun K hK=>?_)
 go_simp
 refine hK.out _ _ ?_
 clear hK K
 go_wp2
 go_end0
 obtain ⟨_,h2⟩:=hE (Ending.returned (.tuple #[])) ⟨_,rfl⟩
 obtain ⟨g',cap',h3,h4,h5,h6⟩:=h2
 exact ⟨⟨_,rfl⟩,g',cap',h3,h4,h5,h6.drewl⟩
def HPush (w:World) (Bd g n base:Nat) (F:Nat->Itm) (x:Itm) (e:Ending) (w':World):Prop:=
 (∃v,e= .returned v)/\ ∃g' cap' G,Swaps (n+1) (snocI F n x) G/\Heap (n+1) G/\HS w' Bd g' (n+1) cap' G/\base<=g'/\(g'=g∨w.heap.size<=g')/\Kp2 Bd g w w'
theorem hpush_any (Bd g n cap base:Nat) (F:Nat->Itm) (x:Itm) (hn:n+1<=1000) (w:World) (hS:HS w Bd g n cap F) (hH:Heap n F) (hg:base<=g):
 Calls Tryz.prog 79 #[.iface 164 (.pointer (some ⟨Bd,0,none⟩)),.iface 169 (.agg #[.int .i64 x.kind,.int .i64 x.who,.int .i64 x.due])] w (HPush w Bd g n base F x):=by
 have hD:=dpush_any Bd g n cap base F x (by omega) w hS hg
 have hm:=m_push ⟨Bd,0,none⟩ w
 have HH:=Lib.hid hH
 clear hH hS
 go_enter Tryz.func79,Tryz.ntmps79
 go_wp2_with fail
 refine hD.mono ?_
 rintro e w1 ⟨⟨ve,rfl⟩,g',cap',hS1,hg1,hgg,hk⟩
 have hm1:=m_len hS1
 have hU:=up_any Bd g' (n+1) cap' n (snocI F n x) (by omega) hn w1 hS1 (HH.out.push x)
 have hw:((n+1:Nat):Int)-1=(n:Int):=by omega
 have HX:=Lib.hid (And.intro hgg hk)
 clear hD hm hgg hk hS1
 go_wp2_with (go_at_call 193;refine (dlen_any _ _ _ _).mono ?_;rintro e w' ⟨rfl,rfl⟩)
 refine hU.mono ?_
 rintro e w2 ⟨⟨ve,rfl⟩,G,hsw,hh,hS2,hg2⟩
 obtain ⟨hgg,hk⟩:=HX.out
 have HY:=Lib.hid (And.intro hsw (And.intro hh (And.intro hS2 (hk.grown hg2 (fun i e=>by have :=Option.some.inj e;omega)))))
 clear hU hm1 hsw hh hS2 hg2 HX
 go_wp2
 go_end0
 exact ⟨⟨_,rfl⟩,g',cap',G,HY.out.1,HY.out.2.1,HY.out.2.2.1,hg1,hgg,HY.out.2.2.2⟩
end Go.Proofs.YtmhfpjnkjlhbpaaGreatDoor
namespace Go.Proofs.YtmhfpjnkjlhbpaaGreatDoor
open Go.RowKit
set_option linter.unusedVariables false
set_option maxRecDepth 100000
open List renaming getElem_toArray->zA,getElem_cons_zero->zB,getElem_cons_succ->zC,setIfInBounds_toArray->zD,set_cons_zero->zE,set_cons_succ->zF
theorem right_no (t w:Int) (W:World) (h:t<1∨8<t∨w<4*t):
 Calls Tryz.prog 78 #[.int .i64 t,.int .i64 w] W fun e w'=>e= .returned (.bool false)/\W=w':=by
 rcases (by omega:t<1∨(1<=t/\8<t)∨(1<=t/\t<=8/\w<4*t))with c|⟨c,c'⟩|⟨c,c',c''⟩
 all_goals
  clear h
  go_enter Tryz.func78,Tryz.ntmps78
  go_wp2
  go_ret
  refine ⟨?_,rfl⟩
  first|rfl|(simp;omega)
theorem right_yes (t w:Int) (W:World) (h1:1<=t) (h2:t<=8) (h3:4*t<=w):
 Calls Tryz.prog 78 #[.int .i64 t,.int .i64 w] W fun e w'=>e= .returned (.bool true)/\W=w':=by
 go_enter Tryz.func78,Tryz.ntmps78
 go_wp2
 go_ret
 exact ⟨rfl,rfl⟩
end Go.Proofs.YtmhfpjnkjlhbpaaGreatDoor
