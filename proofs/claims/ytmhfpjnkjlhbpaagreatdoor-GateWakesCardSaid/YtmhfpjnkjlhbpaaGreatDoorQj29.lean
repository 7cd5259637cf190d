/- seq: more, begin, read (printed by gen/bldf.py). seq.Code at what may be asked (printed by gen/bldf.py). gate: wake, enter, done, barrier (strangers); gate.Code there (printed by gen/bldf.py). gate: meet, barrier; gate.Code of who has a part in a barrier. once (plain): the code of a thread that enters what is done once, and does it if it is told so; what holds whatever the turns. once (plain): whatever is picked, what holds of what is done once holds. barrier (plain): the code of a thread that enters; what holds whatever the turns. Events without bounds (XEv): as values; a thread's events with their places. trace.Of, as an iterator: its contract for every loop body that keeps old memory. -/
import Derived.Test.YtmhfpjnkjlhbpaaGreatDoorQj08
import Derived.Test.YtmhfpjnkjlhbpaaGreatDoorQj20
import Derived.Test.YtmhfpjnkjlhbpaaGreatDoorQj07
import Derived.Test.YtmhfpjnkjlhbpaaGreatDoorQj26
import Derived.Test.YtmhfpjnkjlhbpaaGreatDoorQj02
import Derived.RangeFuncNested
import Derived.RangeFuncBox
import Derived.RangeFuncBound
import Derived.RangeFuncCalls
import Derived.RangeFuncLeaves
import Derived.Shelf.Abstract
import Derived.Shelf.RegionOpen
import Derived.WalkKit
import Derived.OwnWalkIn
import Derived.TacticsInMore
import Derived.LoopNIn
import Derived.LoopIn
namespace Go.Proofs.YtmhfpjnkjlhbpaaGreatDoor
open Go.ChangeShapes Go.WideShapes Go.ChangeAt Go.RowKit Go.Deep
set_option linter.unusedVariables false
set_option maxRecDepth 100000
set_option linter.unusedSimpArgs false
theorem BI.fresh {N0:Nat} {W:World} (hN:N0<=W.heap.size):BI N0 (W.alloc (.cells #[.slice none 0 0,.map none,.slice none 0 0,.bool false] 130)) W.heap.size BB.e:=
 ⟨_,_,none,Blk.new _ _ _,hN,⟨rfl,.inl ⟨rfl,rfl⟩⟩,⟨rfl,.inl ⟨rfl,rfl⟩⟩,rfl⟩
theorem BB.e_room (n:Nat) (h:n<=1000):BB.e.Room n:=⟨by show 0+n<=_;omega,by show 0+n<=_;omega,by show 0+n<=_;omega⟩
theorem OutI.below {W0 W1 W':World} {v:Value} {l:List Ins} (h:OutI W1 v l W') (hs:W0.heap.size<=W1.heap.size):OutI W0 v l W':=by
 obtain ⟨og,cap,cs,h1,h2,h3,h4,h5,h6,h7⟩:=h
 exact ⟨og,cap,cs,h1,h2,h3,h4,h5,Nat.le_trans hs h6,h7⟩
def BB.wake (b:BB) (k a:Int):BB:=(b.ins ⟨1,4,0,0,k⟩).ins ⟨24,4,8,0,a⟩
theorem BB.Room.wake {b:BB} {n:Nat} (h:b.Room (n+2)) (k a:Int):(b.wake k a).Room n:=BB.Room.ins (BB.Room.ins h _) _
theorem every_any (W:World):Calls Tryz.prog 112 #[] W fun e W'=>e= .returned (.int .u32 4294967295)/\W'=W:=by
 have cM:Calls Tryz.prog 103 #[.int .u32 1] W fun e W'=>e= .returned (.int .u32 4294967295)/\W'=W:=by
  go_enter Tryz.func103,Tryz.ntmps103
  go_wp2
  go_ret
  exact ⟨by first|rfl|decide,rfl⟩
 go_enter Tryz.func112,Tryz.ntmps112
 go_wp2_with fail
 refine cM.mono ?_
 rintro e W1 ⟨rfl,rfl⟩
 go_wp2
 go_ret
 exact ⟨rfl,rfl⟩
set_option maxHeartbeats 2000000 in
theorem b_wake {N0 bb:Nat} {b:BB} {n:Nat} (k a:Int) {W:World} (h:BI N0 W bb b) (hr:b.Room (n+2)):Bls 111 #[.pointer (some ⟨bb,0,none⟩),.int .u32 k,.int .u32 a] N0 bb b (b.wake k a) W:=by
 unfold Bls
 go_enter Tryz.func111,Tryz.ntmps111
 go_wp2_with fail
 refine Bls.step (b_set (n:=n+1) _ _ h hr) ?_
 rintro _ W1 ⟨⟨u0,rfl⟩,h1,b1⟩
 have r1:=BI.rins (n:=n+1) h1 hr
 go_wp2_with fail
 refine Bls.step (b_ask (n:=n+0) _ _ _ h1 r1) ?_
 rintro _ W2 ⟨⟨u1,rfl⟩,h2,b2⟩
 have r2:=BI.rins (n:=n+0) h2 r1
 go_wp2
 go_end0
 exact ⟨⟨_,rfl⟩,h2,b1.trans (b2)⟩
set_option maxHeartbeats 2000000 in
theorem b_barS {N0 bb:Nat} {n:Nat} (N t base arg:Int) {W:World} (h:BI N0 W bb BB.e) (hr:BB.e.Room (n+1)) (hN:1<=N/\N<=8) (ht:0<=t/\t<=1000) (ha:0<=arg/\arg<=4294967295) (hs:N<=t):Bls 69 #[.pointer (some ⟨bb,0,none⟩),.agg #[.int .i64 13,.int .i64 N,.int .i64 0,.int .i64 0],.int .i64 t,.int .u32 base,.int .u32 arg] N0 bb BB.e (BB.e.ins ⟨1,7,0,0,4⟩) W:=by
 unfold Bls
 have hq:=Blk.new W 46 #[.int .i64 13,.int .i64 N,.int .i64 0,.int .i64 0]
 have hB:=(Below.refl W.heap.size W).alloc (Nat.le_refl _) (.cells #[.int .i64 13,.int .i64 N,.int .i64 0,.int .i64 0] 46)
 have q1:=(hq.cell 1).trans rfl
 have hI:=h.below hB
 have hN0:N0<=W.heap.size:=by obtain ⟨vc,vl,mo,hP⟩:=h;exact hP.lt
 go_enter Tryz.func69,Tryz.ntmps69
 go_wp2_with fail
 refine Bls.step (b_set (n:=n) _ _ hI hr) ?_
 rintro _ W1 ⟨⟨u0,rfl⟩,h1,b1⟩
 go_wp2
 go_end0
 exact ⟨⟨_,rfl⟩,h1,(BelF.of hB hN0).trans b1⟩
set_option maxHeartbeats 4000000 in
theorem code_barS (N threads base t arg:Int) (ht:1<=threads/\threads<=8) (h0:0<=t/\t<threads) (ha:0<=arg/\arg<=4294967295) (hN:1<=N/\N<=threads) (hs:N<=t) (W:World) (hT:Tab W) (hO:ONam W):
 Calls Tryz.prog 34 #[.agg #[.int .i64 13,.int .i64 N,.int .i64 0,.int .i64 0],.int .i64 9,.int .i64 threads,.int .i64 t,.int .u32 base,.int .u32 arg] W fun e W'=>(∃v,e= .returned (.tuple #[v,.bool true])/\OutI W v (BB.e.ins ⟨1,7,0,0,4⟩).out W')/\Below W.heap.size W W':=by
 have hq:=Blk.new W 46 #[.int .i64 13,.int .i64 N,.int .i64 0,.int .i64 0]
 have hB:=(Below.refl W.heap.size W).alloc (Nat.le_refl _) (.cells #[.int .i64 13,.int .i64 N,.int .i64 0,.int .i64 0] 46)
 have q0:=(hq.cell 0).trans rfl
 have q1:=(hq.cell 1).trans rfl
 have q2:=(hq.cell 2).trans rfl
 have q3:=(hq.cell 3).trans rfl
 have htt:t<=1000:=by omega
 have cMy:=may_bar N threads t hN ht h0 (W.alloc (.cells #[.int .i64 13,.int .i64 N,.int .i64 0,.int .i64 0] 46))
 go_enter Tryz.func34,Tryz.ntmps34
 go_wp2_with fail
 refine cMy.mono ?_
 rintro e V0 ⟨rfl,hB0⟩
 clear cMy
 have hq0:=hq.below hB0 hq.lt
 have hb0:=step_below hB hB0
 clear q0 q1 q2 q3 hB hB0 hq
 have hI:=BI.fresh (N0:=W.heap.size) (W:=V0) hb0.size
 have hal:=(Below.refl V0.heap.size V0).alloc (Nat.le_refl _) (.cells #[.slice none 0 0,.map none,.slice none 0 0,.bool false] 130)
 have hb1:=step_below hb0 hal
 have hqs:=hq0.below hal hq0.lt
 have q0:=(hqs.cell 0).trans rfl
 have q1:=(hqs.cell 1).trans rfl
 have q2:=(hqs.cell 2).trans rfl
 have q3:=(hqs.cell 3).trans rfl
 clear hal hqs hq0
 have HZ:=Lib.hid (And.intro hb0 (And.intro hb1 hT))
 clear hb0 hT
 obtain ⟨bb,hbb⟩: ∃bb,V0.heap.size=bb:=⟨_,rfl⟩
 rw [hbb]at hI
 have hr:=BB.e_room 900 (by decide)
 go_wp2_with fail
 try rw [hbb]
 refine Bls.step (b_barS (n:=899) N t base arg hI hr (by omega) (by omega) ha hs) ?_
 rintro _ W1 ⟨⟨u0,rfl⟩,h1,b1⟩
 have hbz:=hb1.trans b1.b
 have hTz:=HZ.out.2.2.step hbz
 go_wp2_with fail
 refine (bcode_any W.heap.size bb _ W1 h1 hTz (by kernel_rfl) (Nat.le_of_ble_eq_true (by kernel_rfl)) (Nat.le_of_ble_eq_true (by kernel_rfl)) (Nat.le_of_ble_eq_true (by kernel_rfl))).mono ?_
 rintro e V9 ⟨⟨v,rfl,hO9⟩,hB9⟩
 go_wp2
 go_ret2
 exact ⟨⟨_,rfl,hO9.below hbz.size⟩,step_below hbz hB9⟩
def BB.gmore (b:BB) (a:Int):BB:=(b.ins ⟨1,4,0,0,1⟩).ins ⟨20,4,8,0,a⟩
theorem BB.Room.gmore {b:BB} {n:Nat} (h:b.Room (n+2)) (a:Int):(b.gmore a).Room n:=BB.Room.ins (BB.Room.ins h _) _
set_option maxHeartbeats 2000000 in
theorem b_gmore {N0 bb:Nat} {b:BB} {n:Nat} (a:Int) {W:World} (h:BI N0 W bb b) (hr:b.Room (n+2)):Bls 110 #[.pointer (some ⟨bb,0,none⟩),.int .u32 a] N0 bb b (b.gmore a) W:=by
 unfold Bls
 go_enter Tryz.func110,Tryz.ntmps110
 go_wp2_with fail
 refine Bls.step (b_set (n:=n+1) _ _ h hr) ?_
 rintro _ W1 ⟨⟨u0,rfl⟩,h1,b1⟩
 have r1:=BI.rins (n:=n+1) h1 hr
 go_wp2_with fail
 refine Bls.step (b_ask (n:=n+0) _ _ _ h1 r1) ?_
 rintro _ W2 ⟨⟨u1,rfl⟩,h2,b2⟩
 have r2:=BI.rins (n:=n+0) h2 r1
 go_wp2
 go_end0
 exact ⟨⟨_,rfl⟩,h2,b1.trans (b2)⟩
def cntE (f:Evt->Bool) (l:List Evt):Nat:=(l.filter f).length
theorem cntE_snoc (f:Evt->Bool) (l:List Evt) (x:Evt):cntE f (l++[x])=cntE f l+(if f x=true then 1 else 0):=by
 unfold cntE
 rw [List.filter_append,List.length_append]
 cases h:f x<;>simp [List.filter_cons,h]
inductive Ph
 |free|busy (u:Nat)|over
def S1 (m:Int) (t:Nat) (b:List Ent):Prop:=(b=[(17,(t:Int)+1)]/\m=0)∨(b=[]/\m=(t:Int)+1)
def S2 (m:Int) (t:Nat) (b:List Ent):Prop:=(b=[(17,(t:Int)+1),(17,0)]/\m=0)∨(b=[(17,0)]/\m=(t:Int)+1)∨(b=[]/\m=0)
def oA (g:Ph) (m:Int) (e5 e2:Nat) (t:Nat) (r:Nat->Int) (b:List Ent):Nat->Prop
 |0=>g≠ .busy t/\b=[]
 |1=>g≠ .busy t/\b=[]
 |2=>g≠ .busy t/\b=[]/\r 4≠((t:Int)+1)
 |3=>g≠ .busy t/\b=[]/\r 4≠((t:Int)+1)/\r 5=((t:Int)+1)
 |4=>g≠ .busy t/\b=[]/\r 6=0/\r 5=((t:Int)+1)
 |7=>g≠ .busy t/\b=[]/\r 5=((t:Int)+1)
 |8=>g≠ .busy t/\b=[]/\r 5=((t:Int)+1)/\(r 4=2->e2=1)
 |9=>g≠ .busy t/\b=[]/\r 5=((t:Int)+1)/\r 6=2/\(r 4=2->e2=1)
 |10=>g≠ .busy t/\b=[]/\r 5=((t:Int)+1)/\(r 6≠0->e2=1)
 |11=>g≠ .busy t/\b=[]/\r 5=((t:Int)+1)
 |12=>g≠ .busy t/\b=[]/\r 5=((t:Int)+1)/\r 4=0
 |13=>g≠ .busy t/\b=[]/\r 5=((t:Int)+1)/\r 4=0/\r 6=1
 |14=>(g≠ .busy t/\b=[]/\r 4≠0/\r 5=((t:Int)+1))∨(g= .busy t/\b=[]/\r 4=0/\r 5=((t:Int)+1)/\m=0/\e5=0/\e2=0)
 |15=>g≠ .busy t/\b=[]/\r 5=((t:Int)+1)
 |16=>g≠ .busy t/\b=[]/\r 5=((t:Int)+1)
 |17=>g≠ .busy t/\b=[]/\r 5=((t:Int)+1)
 |18=>g≠ .busy t/\b=[]/\r 5=((t:Int)+1)
 |19=>g≠ .busy t/\b=[]/\r 5=((t:Int)+1)
 |20=>g= .busy t/\b=[]/\r 5=((t:Int)+1)/\m=0/\e5=0/\e2=0
 |21=>g= .busy t/\S1 m t b/\e5=0/\e2=0
 |22=>g= .busy t/\S1 m t b/\e5=0/\e2=0/\r 7=5
 |23=>g≠ .busy t/\b=[]/\e2=1
 |24=>(g≠ .busy t/\b=[]/\e2=1/\r 7=0)∨(g= .busy t/\S1 m t b/\e5=0/\e2=0/\r 7=5)
 |25=>(g≠ .busy t/\b=[]/\r 7=0)∨(g= .busy t/\S1 m t b/\e5=1/\e2=0/\r 7=5)
 |26=>g= .busy t/\S1 m t b/\e5=1/\e2=0
 |27=>g= .busy t/\S1 m t b/\e5=1/\e2=1
 |28=>g= .busy t/\S1 m t b/\e5=1/\e2=1/\r 4=((t:Int)+1)
 |29=>g= .busy t/\S1 m t b/\e5=1/\e2=1/\r 4=((t:Int)+1)/\r 5=((t:Int)+1)
 |30=>g= .busy t/\S1 m t b/\e5=1/\e2=1/\r 6=1
 |33=>g= .busy t/\S1 m t b/\e5=1/\e2=1
 |34=>g= .busy t/\S1 m t b/\e5=1/\e2=1/\r 4=0
 |35=>g= .busy t/\S2 m t b/\e5=1/\e2=1
 |36=>g= .busy t/\S2 m t b/\e5=1/\e2=1/\r 4=2
 |37=>g≠ .busy t/\b=[]
 |38=>g≠ .busy t/\b=[]
 |39=>g≠ .busy t/\b=[]
 |40=>g≠ .busy t/\b=[]/\r 7=0
 |_=>False
section
variable {nt:Nat} {rd:Nat->Nat} {v:Vw} {g:Ph} {e5 e2 t:Nat}
theorem updR_at (r:Nat->Int) (a:Nat) (x:Int):updR r a x a=x:=if_pos rfl
end
def sumT (W:Nat) (f:Nat->Nat):Nat:=((List.range W).map f).sum
theorem sumT_succ (W:Nat) (f:Nat->Nat):sumT (W+1) f=sumT W f+f W:=by unfold sumT;rw [List.range_succ,List.map_append,List.sum_append];simp
theorem sumT_congr {W:Nat} {f g:Nat->Nat} (h: ∀t,t<W->f t=g t):sumT W f=sumT W g:=by
 induction W with
 |zero=>rfl
 |succ W ih=>rw [sumT_succ,sumT_succ,ih (fun t ht=>h t (by omega)),h W (by omega)]
theorem sumT_upd {W t:Nat} {f g:Nat->Nat} (ht:t<W) (h: ∀u,u<W->u≠t->g u=f u):sumT W g+f t=sumT W f+g t:=by
 induction W with
 |zero=>omega
 |succ W ih=>
  rw [sumT_succ,sumT_succ]
  by_cases c:t=W
  ·subst c
   have :sumT t g=sumT t f:=sumT_congr (fun u hu=>h u (by omega) (by omega))
   omega
  ·have :=ih (by omega) (fun u hu=>h u (by omega))
   have :=h W (by omega) (fun e=>c e.symm)
   omega
theorem sumT_le {W:Nat} {f:Nat->Nat} {k:Nat} (h: ∀t,t<W->f t<=k):sumT W f<=W*k:=by
 induction W with
 |zero=>simp [sumT]
 |succ W ih=>
  rw [sumT_succ,Nat.add_mul]
  have :=ih (fun t ht=>h t (by omega))
  have :=h W (by omega)
  omega
def bA (N P:Nat) (la:Option Nat) (m:Int) (t k:Nat) (r:Nat->Int) (b:List Ent):Nat->Prop
 |0=>la≠some t/\b=[]/\P=k
 |1=>la≠some t/\b=[]/\P=k
 |2=>la≠some t/\b=[]/\P=k/\r 5=(k:Int)
 |3=>la≠some t/\b=[]/\P=k/\r 5=(k:Int)/\r 4=1
 |4=>(la≠some t/\b=[]/\(P=k∨P=k+1)/\r 5=(k:Int)/\r 4≠((N:Int)-1))∨(la=some t/\b=[]/\P=k/\m=(N:Int)/\r 4=((N:Int)-1))
 |5=>(la≠some t/\b=[]/\(P=k∨P=k+1)/\r 5=(k:Int)/\r 4≠((N:Int)-1)/\r 6=((N:Int)-1))∨(la=some t/\b=[]/\P=k/\m=(N:Int)/\r 4=((N:Int)-1)/\r 6=((N:Int)-1))
 |6=>(la≠some t/\b=[]/\(P=k∨P=k+1)/\r 5=(k:Int)/\r 6=0)∨(la=some t/\b=[]/\P=k/\m=(N:Int)/\r 6=1)
 |7=>la=some t/\b=[]/\P=k/\m=(N:Int)
 |8=>la=some t/\b=[]/\P=k/\m=(N:Int)/\r 4=0
 |9=>la=some t/\((b=[(16,0)]/\m=(N:Int))∨(b=[]/\m=0))/\P=k
 |10=>la=some t/\((b=[(16,0)]/\m=(N:Int))∨(b=[]/\m=0))/\P=k/\r 4=1
 |11=>la≠some t/\b=[]/\P=k+1
 |12=>la≠some t/\b=[]/\P=k+1
 |13=>la≠some t/\b=[]/\P=k+1
 |14=>la≠some t/\b=[]/\(P=k∨P=k+1)/\r 5=(k:Int)
 |15=>la≠some t/\b=[]/\(P=k∨P=k+1)/\r 5=(k:Int)/\(r 4≠(k:Int)->P=k+1)
 |16=>la≠some t/\b=[]/\(P=k∨P=k+1)/\r 5=(k:Int)/\(r 6=0->P=k+1)
 |17=>la≠some t/\b=[]/\(P=k∨P=k+1)/\r 5=(k:Int)
 |18=>la≠some t/\b=[]/\(P=k∨P=k+1)/\r 5=(k:Int)/\r 4=(k:Int)
 |19=>la≠some t/\b=[]/\(P=k∨P=k+1)/\r 5=(k:Int)
 |20=>la≠some t/\b=[]/\P=k+1
 |21=>la≠some t/\b=[]/\P=k+1/\r 7=0
 |_=>False
def arr (P:Nat) (th:Th):Nat:=if ((P*22+4:Nat):Int)<=th.pc/\th.pc<((P*22+22:Nat):Int)then 1 else 0
section
variable {nt N rd:Nat} {v:Vw} {P t:Nat} {la:Option Nat}
end
structure EvB where
 (kind who pc addr value old k:Int)
 ok:Bool
 k0:0<=k
 k1:k<=4294967295
instance:Inhabited EvB:=⟨⟨0,0,0,0,0,0,0,false,by decide,by decide⟩⟩
def EvB.cells (x:EvB):List Value:=[.int .i64 x.kind,.int .i64 x.who,.int .i64 x.pc,.int .i64 x.addr,.int .u32 x.value,.int .u32 x.old,.int .u32 x.k,.bool x.ok]
def evsB (E:Nat->EvB) (t:Int) (k:Nat):List (Nat×EvB):=((List.range k).map fun i=>(i,E i)).filter fun x=>x.2.who==t
theorem evs_hitB {E:Nat->EvB} {t:Int} {k:Nat} (h:(E k).who=t):evsB E t (k+1)=evsB E t k++[(k,E k)]:=by
 unfold evsB
 rw [List.range_succ,List.map_append,List.filter_append]
 congr 1
 show List.filter (fun x:Nat×EvB=>x.2.who==t) [(k,E k)]=[(k,E k)]
 rw [List.filter_cons_of_pos (by simpa using h)]
 rfl
theorem evs_missB {E:Nat->EvB} {t:Int} {k:Nat} (h:(E k).who≠t):evsB E t (k+1)=evsB E t k:=by
 unfold evsB
 rw [List.range_succ,List.map_append,List.filter_append]
 show _++List.filter (fun x:Nat×EvB=>x.2.who==t) [(k,E k)]=_
 rw [List.filter_cons_of_neg (by simpa using h)]
 simp
theorem evs_lenB (E:Nat->EvB) (t:Int) (k:Nat):(evsB E t k).length<=k:=by
 unfold evsB
 have :=List.length_filter_le (fun x:Nat×EvB=>x.2.who==t) ((List.range k).map fun i=>(i,E i))
 simpa using this
end Go.Proofs.YtmhfpjnkjlhbpaaGreatDoor
namespace Go.Proofs.YtmhfpjnkjlhbpaaGreatDoor
open Go.ChangeShapes Go.WideShapes Go.ChangeAt Go.RowKit Go.Shelf
set_option linter.unusedVariables false
set_option maxRecDepth 100000
set_option linter.unusedSimpArgs false
attribute [local go_sem] Oper.semAt_some
def evEncB (x:Nat×EvB):Array Value:= #[.int .i64 (x.1:Int),.agg #[.int .i64 x.2.kind,.int .i64 x.2.who,.int .i64 x.2.pc,.int .i64 x.2.addr,.int .u32 x.2.value,.int .u32 x.2.old,.int .u32 x.2.k,.bool x.2.ok]]
structure KpOfB (n₀ Bt:Nat) (A B:World):Prop where
 below:Below n₀ A B
 keep: ∀o,A.heap[Bt]?=some o->B.heap[Bt]?=some o
theorem KpOfB.refl (n₀ Bt:Nat) (A:World):KpOfB n₀ Bt A A:=⟨Below.refl _ _,fun _ h=>h⟩
theorem KpOfB.trans {n₀ Bt:Nat} {A B C:World} (h:KpOfB n₀ Bt A B) (k:KpOfB n₀ Bt B C):KpOfB n₀ Bt A C:=⟨h.below.trans k.below,fun o ho=>k.keep o (h.keep o ho)⟩
theorem KpOfB.of_below {n₀ Bt:Nat} {A B:World} (h:Below A.heap.size A B) (hn:n₀<=A.heap.size):KpOfB n₀ Bt A B:=
 ⟨h.mono hn,fun o ho=>(h.block Bt (Array.getElem?_eq_some_iff.1 ho).1).trans ho⟩
theorem KpOfB.of_grown {n₀ Bt:Nat} {A B:World} {row:Option Nat} (hg:A.grownBy B row) (hn:n₀<=A.heap.size) (hr: ∀r,row=some r->n₀<=r/\r≠Bt):KpOfB n₀ Bt A B:=
 ⟨(Below.refl n₀ A).grown hg hn (fun k e=>(hr k e).1),fun o ho=>(hg.block Bt (Array.getElem?_eq_some_iff.1 ho).1 (fun e=>(hr Bt e.symm).2 rfl)).trans ho⟩
theorem kpOf_bB {n₀ Bt:Nat} {w:World} (hn:n₀<=w.heap.size) (hB:Bt<w.heap.size) (W:World) (l:Nat) (o o':Obj) (hl:w.heap.size<=l) (h:W.heap[l]?=some o) (h1:o.isCells=false) (h2:o.isWalk=false):KpOfB n₀ Bt W (W.putObj l o'):=
 KpOfB.of_grown (grownBy_putObj' W l o') (by have :=(Array.getElem?_eq_some_iff.1 h).1;omega) (fun r e=>by cases e;exact ⟨by omega,by omega⟩)
def OfEndB (E:Nat->EvB) (t:Int) (len:Nat) (J Jx:List (Nat×EvB)->World->Prop) (e:Ending) (W':World):Prop:=(∃v,e= .returned v)/\((∃ys,ys=evsB E t len/\J ys W')∨(∃pre,True/\Jx pre W'))
set_option maxRecDepth 100000 in
set_option maxHeartbeats 2000000 in
theorem of1_inB (F:Fence) (n:Nat) (hFn:F.fn 109) (hro:F.round=none) (hn:1<=n) (l Bs Bt n₀ b off len cap:Nat) (E:Nat->EvB) (t:Int) (hl:len<=1000000000) (hb:b<n₀) (J Jx:List (Nat×EvB)->World->Prop) (W:World) (hn₀:n₀<=W.heap.size)
 (hJ:AbidesFrom W.heap.size J)
 (hY: ∀pre x W,J pre W->pre.length<len->YieldAt F (n-1) Tryz.prog l (evEncB x) W fun e W'=>
   (e= .returned (.bool true)/\J (pre++[x]) W'/\KpOfB n₀ Bt W W')∨(e= .returned (.bool false)/\Jx (pre++[x]) W'))
 (hBs:W.cell? ⟨Bs,0,none⟩=some (.slice (some ⟨b,off,none⟩) len cap)) (ht:Blk W Bt 3 #[.int .i64 t]) (hc: ∀i,i<len-> ∀j u,(E i).cells[j]?=some u->W.cell? ⟨b,off+i*8+j,none⟩=some u) (h0:J [] W):
 CallsIn F n Tryz.prog 109 #[.func (.yield l) #[] #[], .pointer (some ⟨Bs, 0, none⟩), .pointer (some ⟨Bt, 0, none⟩)] W (OfEndB E t len J Jx) := by
 have hAl: ∀pre W1 o,J pre W1->J pre (W1.alloc o):=fun pre W1 o h=>hJ pre W1 _ none h (World.grownBy_alloc W1 o none) (fun r e=>by cases e)
 refine callsIn_of_wp Tryz.func109 rfl hFn ?_ hro
 simp only [Tryz.ntmps109,List.size_toArray,List.length_cons,List.length_nil,Nat.reduceAdd,Nat.reduceSub,Array.replicate_succ,Array.replicate_zero,List.push_toArray,List.append_toArray,List.nil_append,List.cons_append]
 gi_wp2
 gi_loopw [8] (fun i wr=> ∃k:Nat,k<=len/\i= .int .i64 k/\J (evsB E t k) wr/\KpOfB n₀ Bt W wr) (fun i _=>len-(intOf i).toNat)
 case atStart=>exact ⟨0,Nat.zero_le _,rfl,h0,KpOfB.refl _ _ _⟩
 case round=>
  obtain ⟨k,hk,rfl,hJs,hnx⟩:=hrel
  by_cases hlt:k<len
  ·have hcx: ∀j u,(E k).cells[j]?=some u->wr.cell? ⟨b,off+k*8+j,none⟩=some u:=fun j u hu=>(hnx.below.cell (p:=⟨b,_,none⟩) hb).trans (hc k hlt j u hu)
   have htx:Blk wr Bt 3 #[.int .i64 t]:=hnx.keep _ ht
   have hlt':(k:Int)<(len:Int):=by omega
   obtain ⟨x,hx⟩: ∃x,E k=x:=⟨_,rfl⟩
   rw [hx]at hcx
   have c0:=hcx 0 _ rfl
   have c1:=hcx 1 _ rfl
   have c2:=hcx 2 _ rfl
   have c3:=hcx 3 _ rfl
   have c4:=hcx 4 _ rfl
   have c5:=hcx 5 _ rfl
   have c6:=hcx 6 _ rfl
   have c7:=hcx 7 _ rfl
   rw [Nat.add_zero]at c0
   clear hcx
   have hal:=(Below.refl wr.heap.size wr).alloc (Nat.le_refl _) (.cells #[.int .i64 x.kind,.int .i64 x.who,.int .i64 x.pc,.int .i64 x.addr,.int .u32 x.value,.int .u32 x.old,.int .u32 x.k,.bool x.ok] 65)
   have htz:(wr.alloc (.cells #[.int .i64 x.kind,.int .i64 x.who,.int .i64 x.pc,.int .i64 x.addr,.int .u32 x.value,.int .u32 x.old,.int .u32 x.k,.bool x.ok] 65)).cell? ⟨Bt,0,none⟩=some (.int .i64 t):=((htx.alloc _).cell 0).trans rfl
   have hJ1:=hAl _ wr (.cells #[.int .i64 x.kind,.int .i64 x.who,.int .i64 x.pc,.int .i64 x.addr,.int .u32 x.value,.int .u32 x.old,.int .u32 x.k,.bool x.ok] 65) hJs
   have hn1:KpOfB n₀ Bt W (wr.alloc (.cells #[.int .i64 x.kind,.int .i64 x.who,.int .i64 x.pc,.int .i64 x.addr,.int .u32 x.value,.int .u32 x.old,.int .u32 x.k,.bool x.ok] 65)):=hnx.trans (KpOfB.of_below hal (Nat.le_trans hn₀ hnx.below.size))
   have HX:=Lib.hid hx
   clear hx hal
   by_cases hw:x.who=t
   ·have hwb:(x.who==t)=true:=by simpa using hw
    have HW:=Lib.hid hw
    clear hw
    obtain ⟨fn,tmps,assign,body,hy,hR⟩:=hY _ (k,x) _ hJ1 (Nat.lt_of_le_of_lt (evs_lenB E t k) hlt)
    unfold evEncB at hy
    dsimp only at hy
    gi_wp2
    refine hR.mono ?_
    rintro e W3 (⟨rfl,hJ3,hk3⟩|⟨rfl,hJx3⟩)
    ·gi_wp2
     go_roundw
     case rel=>exact ⟨k+1,by omega,by go_num,by rw [evs_hitB (by rw [HX.out];exact HW.out),HX.out];exact hJ3,hn1.trans hk3⟩
     case measure=>simp [intOf];omega
    ·gi_wp2
     refine bodyPost_ret (results_none rfl _ _ _) rfl ?_
     exact ⟨⟨_,rfl⟩,.inr ⟨_,trivial,hJx3⟩⟩
   ·have hwb:(x.who==t)=false:=by simpa using hw
    have HW:=Lib.hid hw
    clear hw
    gi_wp2
    refine ⟨fun _ h=>(by cases h),?_⟩
    gi_wp2
    go_roundw
    case rel=>exact ⟨k+1,by omega,by go_num,by rw [evs_missB (by rw [HX.out];exact HW.out)];exact hJ1,hn1⟩
    case measure=>simp [intOf];omega
  ·obtain rfl:k=len:=by omega
   have hlt': ¬(k:Int)<(k:Int):=by omega
   gi_wp2
   go_end0
   exact ⟨⟨_,rfl⟩,.inl ⟨_,rfl,hJs⟩⟩
theorem of_inB (F:Fence) (n:Nat) (hFn:F.fn 66) (hro:F.round=none) (A:Option Addr) (len cap:Nat) (t:Int) (w:World):
 CallsIn F n Tryz.prog 66 #[.slice A len cap, .int .i64 t] w fun e w' => e = .returned (.func (.func 109) #[] #[.pointer (some ⟨w.heap.size, 0, none⟩), .pointer (some ⟨w.heap.size + 1, 0, none⟩)]) /\
  w'=(w.alloc (.cells #[.slice A len cap] 40)).alloc (.cells #[.int .i64 t] 3):=by
 refine callsIn_of_wp Tryz.func66 rfl hFn ?_ hro
 simp only [Tryz.ntmps66,List.size_toArray,List.length_cons,List.length_nil,Nat.reduceAdd,Nat.reduceSub,Array.replicate_succ,Array.replicate_zero,List.push_toArray,List.append_toArray,List.nil_append,List.cons_append]
 gi_wp2
 go_ret
 exact ⟨rfl,rfl⟩
set_option maxRecDepth 100000 in
set_option maxHeartbeats 1000000 in
theorem of1_nil_inB (F:Fence) (n:Nat) (hFn:F.fn 109) (hro:F.round=none) (l Bs Bt cap:Nat) (A:Option Addr) (E:Nat->EvB) (t:Int) (J Jx:List (Nat×EvB)->World->Prop) (W:World)
 (hBs:W.cell? ⟨Bs,0,none⟩=some (.slice A 0 cap)) (h0:J [] W):
 CallsIn F n Tryz.prog 109 #[.func (.yield l) #[] #[], .pointer (some ⟨Bs, 0, none⟩), .pointer (some ⟨Bt, 0, none⟩)] W (OfEndB E t 0 J Jx) := by
 refine callsIn_of_wp Tryz.func109 rfl hFn ?_ hro
 simp only [Tryz.ntmps109,List.size_toArray,List.length_cons,List.length_nil,Nat.reduceAdd,Nat.reduceSub,Array.replicate_succ,Array.replicate_zero,List.push_toArray,List.append_toArray,List.nil_append,List.cons_append]
 gi_wp2
 gi_loopw [8] (fun i wr=>i= .int .i64 0/\J [] wr) (fun _ _=>0)
 case atStart=>exact ⟨rfl,h0⟩
 case round=>
  obtain ⟨rfl,hJs⟩:=hrel
  gi_wp2
  go_end0
  exact ⟨⟨_,rfl⟩,.inl ⟨_,rfl,hJs⟩⟩
theorem of_stopsB (F:Fence) (n:Nat) (hFn:F.fn 109) (hro:F.round=none) (hn:1<=n) (Bs Bt n₀:Nat) (A:Option Addr) (len cap:Nat) (E:Nat->EvB) (t:Int) (hl:len<=1000000000) (w:World) (hBs:Bs<w.heap.size) (hn₀:n₀<=w.heap.size)
 (hc:w.cell? ⟨Bs,0,none⟩=some (.slice A len cap)) (ht:Blk w Bt 3 #[.int .i64 t]) (hb:0<len-> ∀b off,A=some ⟨b,off,none⟩->b<n₀) (hs:SlE w A len 8 (fun i=>(E i).cells)):
 SeqStopsK F n Tryz.prog 109 #[.pointer (some ⟨Bs,0,none⟩),.pointer (some ⟨Bt,0,none⟩)] evEncB (KpOfB n₀ Bt) (fun ys=>ys=evsB E t len) (fun _=>True) len w:=fun l J Jx W hW hJ _ hY h0=>by
 have hc':=(hW.cell (p:=⟨Bs,0,none⟩) hBs).trans hc
 have ht':=ht.below hW ht.lt
 rcases Nat.eq_zero_or_pos len with rfl|hp
 ·exact of1_nil_inB F n hFn hro l Bs Bt cap A E t J Jx W hc' h0
 ·obtain ⟨b,off,rfl,hlt,hcc⟩:=hs hp
  exact of1_inB F n hFn hro hn l Bs Bt n₀ b off len cap E t hl (hb hp b off rfl) J Jx W (Nat.le_trans hn₀ hW.size) hJ hY hc' ht' (fun i hi j u hu=>(hW.cell (p:=⟨b,_,none⟩) hlt).trans (hcc i hi j u hu)) h0
def tvArrB (x:EvB):Array Value:= #[.int .i64 x.kind,.int .i64 x.who,.int .i64 x.pc,.int .i64 x.addr,.int .u32 x.value,.int .u32 x.old,.int .u32 x.k,.bool x.ok]
end Go.Proofs.YtmhfpjnkjlhbpaaGreatDoor
