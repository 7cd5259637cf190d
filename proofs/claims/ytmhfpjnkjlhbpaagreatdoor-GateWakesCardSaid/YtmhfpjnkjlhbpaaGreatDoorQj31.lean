/- tso.Machine.Done. barrier (plain): what the machine of a meeting comes to. rw (plain): the code of threads that write and read; what holds whatever the turns. Heaps as functions from places to items: plain facts. Even scripts, as lists: what is picked next; such a script is fair; there is just one. pick.Of. The contracts of pick.Of, pick.Byte and of the anchor 'awake': what each returns, for every argument. The contracts of the reference's Fair and of pick.Fair: each tells whether every window holds each thread's step and flush. An even script is fair. -/
import Derived.Test.YtmhfpjnkjlhbpaaGreatDoorQj24
import Derived.Test.YtmhfpjnkjlhbpaaGreatDoorQj30
import Derived.Test.YtmhfpjnkjlhbpaaGreatDoorQj29
import Derived.Test.YtmhfpjnkjlhbpaaGreatDoorQj01
import Derived.Deep.QuietTactic
import Derived.BigQuiet
namespace Go.Proofs.YtmhfpjnkjlhbpaaGreatDoor
open Go.ChangeShapes Go.WideShapes Go.ChangeAt Go.RowKit Go.Deep
set_option linter.unusedVariables false
set_option maxRecDepth 100000
set_option linter.unusedSimpArgs false
def doneT (s:Mst) (t:Nat):Bool:=(s.ths.getD t tha).st !=0&&(s.ths.getD t tha).st !=1&&(s.bufs.getD t []).length==0
def doneM (s:Mst):Bool:=(List.range s.ths.length).all (doneT s)
theorem doneM_no {s:Mst} {t:Nat} (ht:t<s.ths.length) (h:doneT s t=false):doneM s=false:=by
 unfold doneM
 rw [List.all_eq_false]
 exact ⟨t,List.mem_range.2 ht,by rw [h];decide⟩
theorem doneM_yes {s:Mst} (h: ∀t,t<s.ths.length->doneT s t=true):doneM s=true:=List.all_eq_true.2 fun t ht=>h t (List.mem_range.1 ht)
theorem below_of_grownT {w w':World} {row:Option Nat} {N:Nat} (hN:N<=w.heap.size) (h:w.grownBy w' row) (hr: ∀g,row=some g->N<=g):Below N w w':=
 ⟨h.os,h.tape,h.output,h.size,fun k hk=>h.block k (Nat.lt_of_lt_of_le hk hN) (fun e=>by have :=hr k e.symm;omega)⟩
section
variable {P:Program}
theorem wpList_load_midG {ops:Array Oper} {rest:List Oper} {op:Oper} {a:Act} {w:World} {Q:Exit->Act->World->Prop} (hgd:Region.wanted op (yielded ops a.tmps)=true) (ty:TypeId) (x:Operand) (ho:op.op= .load ty x)
 (b o:Nat) (hx:a.eval x= .pointer (some ⟨b,o,none⟩)) (cs:List Value) (d:TypeDesc) (hc:w.rangeAt b o cs)
 (hu:P.underlying ty=some d) (hd:d.isRow=true) (hi:(P.info? ty).map (·.size)=some cs.length)
 (h:wpList P ops Q rest (a.put op.dst (.agg cs.toArray)) w):wpList P ops Q (op::rest) a w:=
 wpList_step fun _ hK=>by
  rw [if_pos hgd]
  exact wp_load_mid ty x ho b o hx cs d hc hu hd hi (hK _ _ h)
end
set_option maxHeartbeats 2000000 in
theorem tdone_any (B:MB) (s:Mst) (own:Nat->Prop) (W:World) (hI:MInv tsoL B s own W) (h0:0<s.ths.length) (h8:s.ths.length<=8) (hbl:s.bufs.length=s.ths.length):
 Calls Tryz.prog 21 #[.pointer (some ⟨B.mb,0,none⟩)] W fun e W'=>e= .returned (.bool (doneM s))/\Below W.heap.size W W':=by
 obtain ⟨V,bcs,h⟩:=hI
 obtain ⟨g1,cap1,e1,hc1,hm1,hx1⟩:=h.thAt h0
 obtain ⟨g2,cap2,cs0,e2,hc2,hm2,hx2⟩:=h.bufAt (t:=0) (by omega)
 clear hx1 hx2
 have c1:W.cell? ⟨B.mb,1,none⟩=some (.slice (some ⟨g1,0,none⟩) s.ths.length cap1):=by rw [<-e1];exact h.cell (j:=1) (by decide) rfl
 have HH:=Lib.hid (And.intro h (And.intro e1 e2))
 obtain ⟨n,hn⟩: ∃n,s.ths.length=n:=⟨_,rfl⟩
 rw [hn]at c1 hc1 h8
 have HN:=Lib.hid (And.intro hn hbl)
 clear h e1 e2 hn hbl h0 hc2 hm2
 go_enter Tryz.func21,Tryz.ntmps21
 go_wp2_with fail
 go_loopw [10] (fun i wr=> ∃k:Nat,k<=n/\i= .int .i64 (k:Int)/\(∀j,j<k->doneT s j=true)/\Below W.heap.size W wr) (fun i _=>n-(intOf i).toNat)
 case atStart=>exact ⟨0,Nat.zero_le _,rfl,fun j hj=>absurd hj (Nat.not_lt_zero _),Below.refl _ _⟩
 case round=>
  obtain ⟨k,hk,rfl,hall,hB⟩:=hrel
  by_cases hkn:k<n
  ·have hk0:(0:Int)<=(k:Int):=by omega
   have hk1:(k:Int)<(n:Int):=by omega
   have h':=HH.out.1.below hB
   obtain ⟨g,cap,e1,hx1,hx2,hra,hx3⟩:=h'.thAt (t:=k) (by rw [HN.out.1];exact hkn)
   obtain ⟨gb,capb,cs,e2,hx4,hx5,hbuf,hrb,hx6⟩:=h'.bufAt (t:=k) (by rw [HN.out.2,HN.out.1];exact hkn)
   clear hx1 hx2 hx3 hx4 hx5 hx6
   rw [HH.out.2.1]at e1
   injection e1 with e1 e1n e1c
   clear e1n
   subst e1c
   injection e1 with e1
   injection e1 with e1 _ _
   subst e1
   have c2:wr.cell? ⟨B.mb,2,none⟩=some (.slice (some ⟨gb,0,none⟩) s.bufs.length capb):=by rw [<-e2];exact h'.cell (j:=2) (by decide) rfl
   rw [HN.out.2,HN.out.1]at c2
   have hlen:(s.bufs.getD k []).length<=16:=hbuf.le
   have hC:=len_any cs (s.bufs.getD k []) B.room hbuf
   obtain ⟨m,hm⟩: ∃m,(s.bufs.getD k []).length=m:=⟨_,rfl⟩
   obtain ⟨th,hth⟩: ∃th,s.ths.getD k tha=th:=⟨_,rfl⟩
   rw [hm]at hlen hC
   rw [hth]at hra
   have hlt2:gb<wr.heap.size:=(h'.lo gb (h'.vb 2 (by decide) gb (by rw [e2];rfl))).2
   have hbm:=h'.blt
   obtain ⟨pc,regs,st⟩:=th
   have hD:doneT s k=(st !=0&&st !=1&&m==0):=by unfold doneT;rw [hth,hm]
   have HA:=Lib.hid (And.intro hall (And.intro hD (And.intro hB (And.intro hrb (And.intro hlt2 (And.intro c2 (And.intro hbm (buf_infoL hbuf))))))))
   clear h' e2 hbuf hall hD hm hth hrb hlt2 c2 hB hbm
   have hz:=Blk.new wr 124 #[.int .i64 0,.int .u32 0,.int .u32 0,.int .u32 0,.int .u32 0,.int .u32 0,.int .u32 0,.int .u32 0,.int .u32 0,.int .i64 0]
   have hal:=(Below.refl wr.heap.size wr).alloc (Nat.le_refl _) (.cells #[.int .i64 0,.int .u32 0,.int .u32 0,.int .u32 0,.int .u32 0,.int .u32 0,.int .u32 0,.int .u32 0,.int .u32 0,.int .i64 0] 124)
   by_cases s0:st=0
   ·subst s0
    go_wp2_with (first|(refine wpList_load_mid rfl 124 (.tmp 13) rfl g1 (k*10) rfl (⟨pc,regs,0⟩:Th).cells _ hra Tryz.underlying124 rfl th_info ?_)|(refine wpList_store_row rfl 124 (.tmp 4) (.tmp 14) rfl _ rfl (thArr ⟨pc,regs,0⟩) rfl 124 _ hz rfl th_info (th_one _) ?_))
    intro W9 hb9 hg9
    have p9:W9.cell? ⟨wr.heap.size,9,none⟩=some (.int .i64 0):=(hb9.cell 9).trans rfl
    have hw9:Below wr.heap.size wr W9:=hal.trans (below_of_grownT hal.size hg9 (fun g e=>by cases e;exact Nat.le_refl _))
    have HB9:=Lib.hid (HA.out.2.2.1.trans (hw9.mono HA.out.2.2.1.size))
    have c2:=keepAt hw9 HA.out.2.2.2.2.2.2.1 HA.out.2.2.2.2.2.1
    have hrb9:=range_below HA.out.2.2.2.1 HA.out.2.2.2.2.1 hw9
    clear hz hal hw9
    go_wp2
    go_ret
    refine ⟨?_,HB9.out⟩
    rw [doneM_no (t:=k) (by rw [HN.out.1];exact hkn) (by rw [HA.out.2.1];rfl)]
    rfl
   ·by_cases s1:st=1
    ·subst s1
     go_wp2_with (first|(refine wpList_load_mid rfl 124 (.tmp 13) rfl g1 (k*10) rfl (⟨pc,regs,1⟩:Th).cells _ hra Tryz.underlying124 rfl th_info ?_)|(refine wpList_store_row rfl 124 (.tmp 4) (.tmp 14) rfl _ rfl (thArr ⟨pc,regs,1⟩) rfl 124 _ hz rfl th_info (th_one _) ?_))
     intro W9 hb9 hg9
     have p9:W9.cell? ⟨wr.heap.size,9,none⟩=some (.int .i64 1):=(hb9.cell 9).trans rfl
     have hw9:Below wr.heap.size wr W9:=hal.trans (below_of_grownT hal.size hg9 (fun g e=>by cases e;exact Nat.le_refl _))
     have HB9:=Lib.hid (HA.out.2.2.1.trans (hw9.mono HA.out.2.2.1.size))
     have c2:=keepAt hw9 HA.out.2.2.2.2.2.2.1 HA.out.2.2.2.2.2.1
     have hrb9:=range_below HA.out.2.2.2.1 HA.out.2.2.2.2.1 hw9
     clear hz hal hw9
     go_wp2
     go_ret
     refine ⟨?_,HB9.out⟩
     rw [doneM_no (t:=k) (by rw [HN.out.1];exact hkn) (by rw [HA.out.2.1];rfl)]
     rfl
    ·have hD:=HA.out.2.1
     rw [show (st !=0)=true by simpa using s0,show (st !=1)=true by simpa using s1]at hD
     have HD:=Lib.hid hD
     clear hD
     have hs0:(st==0)=false:=by simpa using s0
     have hs1:(st==1)=false:=by simpa using s1
     go_wp2_with (first|(refine wpList_load_mid rfl 124 (.tmp 13) rfl g1 (k*10) rfl (⟨pc,regs,st⟩:Th).cells _ hra Tryz.underlying124 rfl th_info ?_)|(refine wpList_store_row rfl 124 (.tmp 4) (.tmp 14) rfl _ rfl (thArr ⟨pc,regs,st⟩) rfl 124 _ hz rfl th_info (th_one _) ?_))
     intro W9 hb9 hg9
     have p9:W9.cell? ⟨wr.heap.size,9,none⟩=some (.int .i64 st):=(hb9.cell 9).trans rfl
     have hw9:Below wr.heap.size wr W9:=hal.trans (below_of_grownT hal.size hg9 (fun g e=>by cases e;exact Nat.le_refl _))
     have HB9:=Lib.hid (HA.out.2.2.1.trans (hw9.mono HA.out.2.2.1.size))
     have c2:=keepAt hw9 HA.out.2.2.2.2.2.2.1 HA.out.2.2.2.2.2.1
     have hrb9:=range_below HA.out.2.2.2.1 HA.out.2.2.2.2.1 hw9
     clear hz hal hw9
     go_wp2_with (refine wpList_load_midG (by simp [Region.wanted,yielded,s0,s1]) 114 (.tmp 29) rfl gb (k*35) rfl cs.toList _ hrb9 Tryz.underlying114 rfl HA.out.2.2.2.2.2.2.2 ?_)
     refine (hC W9).mono ?_
     rintro e W10 ⟨rfl,hB10⟩
     have HE:=Lib.hid (HB9.out.trans (hB10.mono HB9.out.size))
     clear hC hB10
     by_cases m0:m=0
     ·subst m0
      go_wp2
      go_roundw
      case rel=>
       refine ⟨k+1,by omega,by go_num,fun j hj=>?_,HE.out⟩
       by_cases c:j<k
       ·exact HA.out.1 j c
       ·obtain rfl:j=k:=by omega
        exact HD.out
      case measure=>simp [intOf];omega
     ·have m1:(0:Int)<(m:Int):=by omega
      go_wp2
      go_ret
      refine ⟨?_,HE.out⟩
      rw [doneM_no (t:=k) (by rw [HN.out.1];exact hkn) (by rw [HD.out];simpa using m0)]
      rfl
  ·obtain rfl:k=n:=by omega
   have hk1: ¬(k:Int)<(k:Int):=by omega
   have HA:=Lib.hid (And.intro hall hB)
   clear hall hB
   go_wp2
   go_ret
   refine ⟨?_,HA.out.2⟩
   rw [doneM_yes (by rw [HN.out.1];exact HA.out.1)]
   rfl
structure RG where
 w:Option Nat
 rs:Nat->Bool
 D:Nat
 iw:Option Nat
 ir:Nat->Bool
 wc:Nat->Nat
section
variable {nt:Nat} {kd:Nat->Nat->Bool} {rd:Nat->Nat} {bs:Nat->Nat->Nat} {v:Vw} {g:RG} {t:Nat}
theorem sumT_zero {W:Nat} {f:Nat->Nat} (h:sumT W f=0): ∀t,t<W->f t=0:=by
 induction W with
 |zero=>exact fun t ht=>absurd ht (by omega)
 |succ W ih=>
  rw [sumT_succ]at h
  intro t ht
  rcases Nat.lt_or_ge t W with c|c
  ·exact ih (by omega) t c
  ·have :t=W:=by omega
   subst this;omega
theorem sumT_none {W:Nat} {f:Nat->Nat} (h: ∀t,t<W->f t=0):sumT W f=0:=by
 have :=sumT_le (W:=W) (f:=f) (k:=0) (fun t ht=>by rw [h t ht];exact Nat.le_refl _)
 omega
end
end Go.Proofs.YtmhfpjnkjlhbpaaGreatDoor
namespace Go.Proofs.YtmhfpjnkjlhbpaaGreatDoor
set_option linter.unusedVariables false
set_option maxRecDepth 100000
structure Itm where
 kind:Int
 who:Int
 due:Int
instance:Inhabited Itm:=⟨⟨0,0,0⟩⟩
def swp (F:Nat->Itm) (i j:Nat):Nat->Itm:=fun k=>if k=i then F j else if k=j then F i else F k
theorem swp_l (F:Nat->Itm) (i j:Nat):swp F i j i=F j:=by simp [swp]
theorem swp_r (F:Nat->Itm) (i j:Nat):swp F i j j=F i:=by
 unfold swp
 by_cases h:j=i
 ·rw [if_pos h,h]
 ·rw [if_neg h,if_pos rfl]
theorem swp_o (F:Nat->Itm) (i j k:Nat) (h1:k≠i) (h2:k≠j):swp F i j k=F k:=by simp [swp,h1,h2]
inductive Swaps (n:Nat) (F:Nat->Itm):(Nat->Itm)->Prop where
 |refl:Swaps n F F
 |step {G:Nat->Itm} (h:Swaps n F G) (i j:Nat) (hi:i<n) (hj:j<n):Swaps n F (swp G i j)
theorem Swaps.trans {n:Nat} {F G H:Nat->Itm} (h:Swaps n F G) (k:Swaps n G H):Swaps n F H:=by
 induction k with
 |refl=>exact h
 |step k i j hi hj ih=>exact .step ih i j hi hj
def par (k:Nat):Nat:=(k-1)/2
def Heap (n:Nat) (F:Nat->Itm):Prop:= ∀k,0<k->k<n->(F (par k)).due<=(F k).due
theorem Heap.root {n:Nat} {F:Nat->Itm} (h:Heap n F): ∀k,k<n->(F 0).due<=(F k).due:=by
 intro k
 induction k using Nat.strongRecOn with
 |ind k ih=>
  intro hk
  rcases Nat.eq_zero_or_pos k with rfl|hp
  ·exact Int.le_refl _
  ·have h1:=h k hp hk
   have h2:=ih (par k) (by unfold par;omega) (by unfold par;omega)
   omega
structure But (n:Nat) (F:Nat->Itm) (i:Nat):Prop where
 far: ∀k,0<k->k<n->k≠i->par k≠i->(F (par k)).due<=(F k).due
 over: ∀c,c<n->0<i->0<c->par c=i->(F (par i)).due<=(F c).due
structure ButUp (n:Nat) (F:Nat->Itm) (i:Nat):Prop where
 far: ∀k,0<k->k<n->k≠i->(F (par k)).due<=(F k).due
 over: ∀c,c<n->0<i->0<c->par c=i->(F (par i)).due<=(F c).due
theorem Heap.but {n:Nat} {F:Nat->Itm} (h:Heap n F) (i:Nat) (x:Itm):But n (fun k=>if k=i then x else F k) i:=by
 refine ⟨fun k h0 hk h1 h2=>?_,fun c hc hi h0 hp=>?_⟩
 ·rw [if_neg h1,if_neg h2]
  exact h k h0 hk
 ·have h1:par i≠i:=by unfold par;omega
  have h2:c≠i:=by unfold par at hp;omega
  rw [if_neg h1,if_neg h2]
  have a:=h c h0 hc
  have b:=h i hi (by unfold par at hp;omega)
  rw [hp]at a
  omega
theorem ButUp.root {n:Nat} {F:Nat->Itm} (h:ButUp n F 0):Heap n F:=fun k h0 hk=>h.far k h0 hk (by omega)
theorem ButUp.done {n:Nat} {F:Nat->Itm} {i:Nat} (h:ButUp n F i) (hd:(F (par i)).due<=(F i).due):Heap n F:=fun k h0 hk=>by
 by_cases e:k=i
 ·subst e;exact hd
 ·exact h.far k h0 hk e
theorem ButUp.step {n:Nat} {F:Nat->Itm} {j:Nat} (h:ButUp n F j) (h0:0<j) (hj:j<n) (hl:(F j).due<(F (par j)).due):ButUp n (swp F (par j) j) (par j):=by
 have hij:par j≠j:=by unfold par;omega
 have key: ∀k,0<k->k<n->k≠par j->(swp F (par j) j (par k)).due<=(swp F (par j) j k).due:=by
  intro k hk0 hkn hne
  by_cases e1:k=j
  ·subst e1
   rw [swp_l,swp_r]
   omega
  ·rw [swp_o F _ _ k hne e1]
   by_cases e2:par k=par j
   ·rw [e2,swp_l]
    have :=h.far k hk0 hkn e1
    rw [e2]at this
    omega
   ·by_cases e3:par k=j
    ·rw [e3,swp_r]
     exact h.over k hkn h0 hk0 e3
    ·rw [swp_o F _ _ _ e2 e3]
     exact h.far k hk0 hkn e1
 refine ⟨key,fun c hc hi0 hc0 hp=>?_⟩
 have hpp:par (par j)≠par j:=by unfold par at hi0⊢;omega
 have hpj:par (par j)≠j:=by unfold par at hi0⊢;omega
 rw [swp_o F _ _ _ hpp hpj]
 have hup:=h.far (par j) hi0 (by unfold par;omega) hij
 by_cases e1:c=j
 ·subst e1;rw [swp_r];exact hup
 ·have hcp:c≠par j:=by unfold par at hp hi0⊢;omega
  rw [swp_o F _ _ c hcp e1]
  have :=h.far c hc0 hc e1
  rw [hp]at this
  omega
theorem But.step {n:Nat} {F:Nat->Itm} {i j:Nat} (h:But n F i) (hj:j<n) (h0:0<j) (hp:par j=i) (hmin: ∀c,c<n->0<c->par c=i->(F j).due<=(F c).due) (hl:(F j).due<(F i).due):
 But n (swp F i j) j/\(swp F i j (par j)).due<=(swp F i j j).due/\(∀k,0<k->k<n->par k=i->(swp F i j i).due<=(swp F i j k).due)/\(0<i->(swp F i j (par i)).due<=(swp F i j i).due):=by
 have hij:i≠j:=by unfold par at hp;omega
 refine ⟨⟨fun k hk0 hkn h1 h2=>?_,fun c hc hj0 hc0 hcp=>?_⟩,?_,fun k hk0 hkn hk=>?_,fun hi0=>?_⟩
 ·by_cases e1:k=i
  ·subst e1
   rw [swp_l]
   have hpk:par k≠k:=by unfold par;omega
   rw [swp_o F _ _ _ hpk h2]
   exact h.over j hj hk0 h0 hp
  ·rw [swp_o F _ _ k e1 h1]
   by_cases e2:par k=i
   ·rw [e2,swp_l]
    exact hmin k hkn hk0 e2
   ·rw [swp_o F _ _ _ e2 h2]
    exact h.far k hk0 hkn e1 e2
 ·rw [hp,swp_l]
  have hci:c≠i:=by unfold par at hcp hp;omega
  have hcj:c≠j:=by unfold par at hcp;omega
  rw [swp_o F _ _ c hci hcj]
  have :=h.far c hc0 hc hci (by rw [hcp];exact Ne.symm hij)
  rwa [hcp]at this
 ·rw [hp,swp_l,swp_r]
  omega
 ·rw [swp_l]
  by_cases e:k=j
  ·subst e;rw [swp_r];omega
  ·have :k≠i:=by unfold par at hk;omega
   rw [swp_o F _ _ k this e]
   exact hmin k hkn hk0 hk
 ·have hpi:par i≠i:=by unfold par;omega
  have hpj:par i≠j:=by unfold par at hp⊢;omega
  rw [swp_l,swp_o F _ _ _ hpi hpj]
  exact h.over j hj hi0 h0 hp
theorem But.stop {n:Nat} {F:Nat->Itm} {i:Nat} (h:But n F i) (hb: ∀c,c<n->0<c->par c=i->(F i).due<=(F c).due):ButUp n F i:=
 ⟨fun k h0 hk h1=>by
  by_cases e:par k=i
  ·rw [e];exact hb k hk h0 e
  ·exact h.far k h0 hk h1 e,h.over⟩
theorem But.heap {n:Nat} {F:Nat->Itm} {i:Nat} (h:But n F i) (hb: ∀c,c<n->0<c->par c=i->(F i).due<=(F c).due) (hu:0<i->(F (par i)).due<=(F i).due):Heap n F:=fun k h0 hk=>by
 by_cases e:k=i
 ·subst e;exact hu h0
 ·exact (h.stop hb).far k h0 hk e
theorem Heap.push {n:Nat} {F:Nat->Itm} (h:Heap n F) (x:Itm):ButUp (n+1) (fun k=>if k=n then x else F k) n:=by
 refine ⟨fun k h0 hk h1=>?_,fun c hc hi h0 hp=>?_⟩
 ·rw [if_neg h1,if_neg (by unfold par;omega)]
  exact h k h0 (by omega)
 ·unfold par at hp
  omega
end Go.Proofs.YtmhfpjnkjlhbpaaGreatDoor
namespace Go.Proofs.YtmhfpjnkjlhbpaaGreatDoor
open Go.RowKit
set_option linter.unusedVariables false
set_option maxRecDepth 100000
abbrev Pk:=Int×Int
abbrev Du:=Nat->Nat->Int
def du0 (w:Nat):Du:=fun kind who=>(w:Int)-2*(who:Int)-(kind:Int)
def updD (D:Du) (x:Pk) (v:Int):Du:=fun kind who=>if ((kind:Int),(who:Int))=x then v else D kind who
def ndue (n w:Nat):Int:=wrap64 ((n:Int)+1+(w:Int))
def First (t:Nat) (D:Du) (kind who:Nat):Prop:=kind<2/\who<t/\ ∀k' w',k'<2->w'<t->D kind who<=D k' w'
inductive Play (t w nw:Nat) (Wf:Nat->Pk):List Pk->Du->Nat->Prop where
 |nil:Play t w nw Wf [] (du0 w) 0
 |own {L:List Pk} {D:Du} {k:Nat} (h:Play t w nw Wf L D k) (kind who:Nat) (hf:First t D kind who) (hd:wrap64 (D kind who-(L.length:Int))<=2*(t:Int)∨nw=0):
   Play t w nw Wf (L++[((kind:Int),(who:Int))]) (updD D ((kind:Int),(who:Int)) (ndue L.length w)) k
 |wish {L:List Pk} {D:Du} {k:Nat} (h:Play t w nw Wf L D k) (kind who:Nat) (hf:First t D kind who) (hd: ¬wrap64 (D kind who-(L.length:Int))<=2*(t:Int)) (hn:0<nw):
   Play t w nw Wf (L++[Wf (k % nw)]) (updD D (Wf (k % nw)) (ndue L.length w)) (k+1)
theorem Play.len {t w nw:Nat} {Wf:Nat->Pk} {L:List Pk} {D:Du} {k:Nat} (h:Play t w nw Wf L D k):k<=L.length:=by
 induction h with
 |nil=>exact Nat.le_refl _
 |own h _ _ _ _ ih=>simp;omega
 |wish h _ _ _ _ _ ih=>simp;omega
theorem Play.bound {t w nw:Nat} {Wf:Nat->Pk} {L:List Pk} {D:Du} {k:Nat} (ht:t<=8) (hw:4*t<=w) (hw2:w<=1099511627776) (h:Play t w nw Wf L D k) (hl:L.length<=100000):
 ∀kind who,kind<2->who<t-> -100<=D kind who/\D kind who<=(L.length:Int)+(w:Int):=by
 have hv: ∀n:Nat,n<=100000->ndue n w=(n:Int)+1+(w:Int):=fun n hn=>by unfold ndue wrap64;omega
 induction h with
 |nil=>
  intro kind who hk hwho
  unfold du0
  simp
  omega
 |own h kd wh hf hd ih=>
  intro kind who hk hwho
  simp only [List.length_append,List.length_cons,List.length_nil]at hl⊢
  obtain ⟨h1,h2⟩:=ih (by omega) kind who hk hwho
  unfold updD
  split
  ·rw [hv _ (by omega)];omega
  ·omega
 |wish h kd wh hf hd hn ih=>
  intro kind who hk hwho
  simp only [List.length_append,List.length_cons,List.length_nil]at hl⊢
  obtain ⟨h1,h2⟩:=ih (by omega) kind who hk hwho
  unfold updD
  split
  ·rw [hv _ (by omega)];omega
  ·omega
theorem Play.inj {t w nw:Nat} {Wf:Nat->Pk} {L:List Pk} {D:Du} {k:Nat} (ht:t<=8) (hw:4*t<=w) (hw2:w<=1099511627776) (h:Play t w nw Wf L D k) (hl:L.length<=100000):
 ∀k1 w1 k2 w2,k1<2->w1<t->k2<2->w2<t->D k1 w1=D k2 w2->k1=k2/\w1=w2:=by
 have hv: ∀n:Nat,n<=100000->ndue n w=(n:Int)+1+(w:Int):=fun n hn=>by unfold ndue wrap64;omega
 induction h with
 |nil=>
  intro k1 w1 k2 w2 a b c d e
  unfold du0 at e
  omega
 |own h kd wh hf hd ih=>
  intro k1 w1 k2 w2 a b c d e
  simp only [List.length_append,List.length_cons,List.length_nil]at hl
  have hb:=h.bound ht hw hw2 (by omega)
  have b1:=hb k1 w1 a b
  have b2:=hb k2 w2 c d
  unfold updD at e
  rw [hv _ (by omega)]at e
  split at e<;>split at e
  ·rename_i e1 e2
   have :=e1.trans e2.symm
   injection this with q1 q2
   omega
  ·omega
  ·omega
  ·exact ih (by omega) k1 w1 k2 w2 a b c d e
 |wish h kd wh hf hd hn ih=>
  intro k1 w1 k2 w2 a b c d e
  simp only [List.length_append,List.length_cons,List.length_nil]at hl
  have hb:=h.bound ht hw hw2 (by omega)
  have b1:=hb k1 w1 a b
  have b2:=hb k2 w2 c d
  unfold updD at e
  rw [hv _ (by omega)]at e
  split at e<;>split at e
  ·rename_i e1 e2
   have :=e1.trans e2.symm
   injection this with q1 q2
   omega
  ·omega
  ·omega
  ·exact ih (by omega) k1 w1 k2 w2 a b c d e
end Go.Proofs.YtmhfpjnkjlhbpaaGreatDoor
namespace Go.Proofs.YtmhfpjnkjlhbpaaGreatDoor
open Go.ChangeShapes Go.WideShapes Go.ChangeAt Go.RowKit
set_option linter.unusedVariables false
set_option maxRecDepth 100000
theorem of_any (b:Int) (h0:0<=b) (h1:b<=255) (w:World):
 Calls Tryz.prog 46 #[.int .u8 b] w fun e w'=>e= .returned (.agg #[.int .i64 (b/8 % 3),.int .i64 (b % 8)])/\Below w.heap.size w w':=by
 go_enter Tryz.func46,Tryz.ntmps46
 go_wp2
 exact bodyPost_ret (v:= .agg #[.int .i64 (b/8 % 3),.int .i64 (b % 8)]) (by simp [results,Tryz.results46,go_sem]) rfl ⟨rfl,(Below.refl _ _).alloc (Nat.le_refl _) _⟩
end Go.Proofs.YtmhfpjnkjlhbpaaGreatDoor
namespace Go.Proofs.YtmhfpjnkjlhbpaaGreatDoor
open Go.RowKit
set_option linter.unusedVariables false
set_option maxRecDepth 100000
def Has (K V:Nat->Int) (kind who i j:Nat):Prop:= ∃p,i<=p/\p<j/\K p=kind/\V p=who
def itms (t:Nat):List (Nat×Nat):=(List.range t).flatMap fun who=>[(0,who),(1,who)]
theorem itms_len: ∀t,(itms t).length=2*t
 |0=>rfl
 |t+1=>by
  have :=itms_len t
  unfold itms at this⊢
  rw [List.range_succ,List.flatMap_append,List.length_append,this]
  simp
  omega
theorem mem_itms {t:Nat} {q:Nat×Nat}:q∈itms t↔q.1<2/\q.2<t:=by
 unfold itms
 rw [List.mem_flatMap]
 constructor
 ·rintro ⟨who,hw,hq⟩
  have :=List.mem_range.1 hw
  simp only [List.mem_cons,List.not_mem_nil,or_false]at hq
  rcases hq with rfl|rfl<;>simp<;>omega
 ·obtain ⟨a,b⟩:=q
  rintro ⟨h1,h2⟩
  dsimp only at h1 h2
  refine ⟨b,List.mem_range.2 h2,?_⟩
  rcases (by omega:a=0∨a=1)with rfl|rfl<;>simp
theorem itms_nodup: ∀t,(itms t).Nodup
 |0=>List.nodup_nil
 |t+1=>by
  have ih:=itms_nodup t
  have hm: ∀q,q∈itms t->q.2<t:=fun q h=>(mem_itms.1 h).2
  unfold itms at ih hm⊢
  rw [List.range_succ,List.flatMap_append,List.nodup_append]
  refine ⟨ih,by simp,fun a ha b hb=>?_⟩
  have h1:=hm a ha
  simp at hb
  rintro rfl
  rcases hb with rfl|rfl<;>simp at h1
theorem countP_one {α:Type} [DecidableEq α] (P P':α->Bool) (r:α): ∀(l:List α),l.Nodup->r∈l->P r=true->P' r=false->(∀q∈l,q≠r->P' q=P q)->l.countP P=l.countP P'+1
 |[],_,h,_,_,_=>absurd h (by simp)
 |a::l,hn,hr,h1,h2,h3=>by
  rw [List.nodup_cons]at hn
  by_cases e:a=r
  ·subst e
   have hl:l.countP P'=l.countP P:=List.countP_congr fun q hq=>by
    rw [h3 q (List.mem_cons_of_mem _ hq) (fun e=>hn.1 (e▸hq))]
   rw [List.countP_cons_of_pos h1,List.countP_cons_of_neg (by simp [h2]),hl]
  ·have hr':r∈l:=by
    rcases List.mem_cons.1 hr with h|h
    ·exact absurd h.symm e
    ·exact h
   have ih:=countP_one P P' r l hn.2 hr' h1 h2 (fun q hq hne=>h3 q (List.mem_cons_of_mem _ hq) hne)
   have hc:=h3 a List.mem_cons_self e
   by_cases hp:P a=true
   ·rw [List.countP_cons_of_pos hp,List.countP_cons_of_pos (hc.trans hp),ih]
   ·rw [List.countP_cons_of_neg hp,List.countP_cons_of_neg (by rw [hc];exact hp),ih]
def dueBy (D:Du) (n:Int) (q:Nat×Nat):Bool:=decide (D q.1 q.2<=n)
def Cnt (t:Nat) (D:Du) (len:Nat):Prop:= ∀v:Nat,(itms t).countP (dueBy D ((len:Int)+(v:Int)))<=v
def Lst (t w:Nat) (L:List Pk) (D:Du):Prop:= ∀kind who,kind<2->who<t->D kind who<=(w:Int)∨ ∃p:Nat,L[p]?=some ((kind:Int),(who:Int))/\D kind who=(p:Int)+1+(w:Int)
theorem cnt_none {t:Nat} {D:Du} {n:Int} (h: ∀kind who,kind<2->who<t->n<D kind who):(itms t).countP (dueBy D n)=0:=by
 rw [List.countP_eq_zero]
 intro q hq
 obtain ⟨h1,h2⟩:=mem_itms.1 hq
 have :=h q.1 q.2 h1 h2
 unfold dueBy
 simp
 omega
theorem Cnt.pos {t:Nat} {D:Du} {len:Nat} (h:Cnt t D len) {kind who:Nat} (hk:kind<2) (hw:who<t):(len:Int)<D kind who:=by
 have h0:=h 0
 by_cases e:(len:Int)<D kind who
 ·exact e
 ·have :0<(itms t).countP (dueBy D ((len:Int)+((0:Nat):Int))):=List.countP_pos_iff.2 ⟨(kind,who),mem_itms.2 ⟨hk,hw⟩,by unfold dueBy;simp;omega⟩
  omega
theorem cnt_start {t w:Nat} (hw:4*t<=w):Cnt t (du0 w) 0:=fun v=>by
 by_cases hv:2*t<=v
 ·have :=List.countP_le_length (p:=dueBy (du0 w) (((0:Nat):Int)+(v:Int))) (l:=itms t)
  rw [itms_len]at this
  omega
 ·rw [cnt_none]
  ·omega
  ·intro kind who hk hwho
   unfold du0
   omega
theorem cnt_own {t w:Nat} {D:Du} {len kind who:Nat} (ht:1<=t) (hw:4*t<=w) (h:Cnt t D len) (hf:First t D kind who):Cnt t (updD D ((kind:Int),(who:Int)) ((len:Int)+1+(w:Int))) (len+1):=fun v=>by
 by_cases hv:2*t<=v
 ·have :=List.countP_le_length (p:=dueBy (updD D ((kind:Int),(who:Int)) ((len:Int)+1+(w:Int))) (((len+1:Nat):Int)+(v:Int))) (l:=itms t)
  rw [itms_len]at this
  omega
 ·have hnew:dueBy (updD D ((kind:Int),(who:Int)) ((len:Int)+1+(w:Int))) (((len+1:Nat):Int)+(v:Int)) (kind,who)=false:=by
   unfold dueBy updD
   simp
   omega
  have hsame: ∀q:Nat×Nat,q≠(kind,who)->dueBy (updD D ((kind:Int),(who:Int)) ((len:Int)+1+(w:Int))) (((len+1:Nat):Int)+(v:Int)) q=dueBy D ((len:Int)+((v+1:Nat):Int)) q:=fun q hq=>by
   unfold dueBy updD
   rw [if_neg (fun e=>hq (by
    injection e with e1 e2
    obtain ⟨a,b⟩:=q
    dsimp only at e1 e2
    rw [Int.ofNat_inj.1 e1,Int.ofNat_inj.1 e2]))]
   rw [show ((len+1:Nat):Int)+(v:Int)=(len:Int)+((v+1:Nat):Int) by omega]
  by_cases hr:dueBy D ((len:Int)+((v+1:Nat):Int)) (kind,who)=true
  ·have :=countP_one _ _ (kind,who) (itms t) (itms_nodup t) (mem_itms.2 ⟨hf.1,hf.2.1⟩) hr hnew (fun q _ hq=>hsame q hq)
   have h1:=h (v+1)
   omega
  ·rw [List.countP_eq_zero.2]
   ·omega
   ·intro q hq
    by_cases e:q=(kind,who)
    ·rw [e,hnew];simp
    ·rw [hsame q e]
     obtain ⟨h1,h2⟩:=mem_itms.1 hq
     have :=hf.2.2 q.1 q.2 h1 h2
     unfold dueBy at hr⊢
     simp only [decide_eq_true_eq]at hr⊢
     omega
theorem cnt_wish {t w:Nat} {D:Du} {len kind who:Nat} (ht:1<=t) (hw:4*t<=w) (h:Cnt t D len) (hf:First t D kind who) (hd:(len:Int)+2*(t:Int)<D kind who) (x:Pk):Cnt t (updD D x ((len:Int)+1+(w:Int))) (len+1):=fun v=>by
 by_cases hv:2*t<=v
 ·have :=List.countP_le_length (p:=dueBy (updD D x ((len:Int)+1+(w:Int))) (((len+1:Nat):Int)+(v:Int))) (l:=itms t)
  rw [itms_len]at this
  omega
 ·rw [cnt_none]
  ·omega
  ·intro k2 w2 h1 h2
   have :=hf.2.2 k2 w2 h1 h2
   unfold updD
   split<;>omega
theorem lst_step {t w:Nat} {L:List Pk} {D:Du} (h:Lst t w L D) (x:Pk):Lst t w (L++[x]) (updD D x ((L.length:Int)+1+(w:Int))):=fun kind who hk hwho=>by
 unfold updD
 split
 ·rename_i e
  exact .inr ⟨L.length,by rw [List.getElem?_append_right (Nat.le_refl _)];simp [e],rfl⟩
 ·rcases h kind who hk hwho with h|⟨p,h1,h2⟩
  ·exact .inl h
  ·exact .inr ⟨p,by rw [List.getElem?_append_left (List.getElem?_eq_some_iff.1 h1).1];exact h1,h2⟩
def Windows (t w:Nat) (L:List Pk):Prop:= ∀i,i+w<=L.length-> ∀kind who:Nat,kind<2->who<t-> ∃p,i<=p/\p<i+w/\L[p]?=some ((kind:Int),(who:Int))
theorem windows_step {t w:Nat} {L:List Pk} {D:Du} (hL:Windows t w L) (x:Pk) (hc:Cnt t D (L.length+1)) (hl:Lst t w (L++[x]) D):Windows t w (L++[x]):=by
 intro i hi kind who hk hwho
 rw [List.length_append,List.length_singleton]at hi
 by_cases hlast:i+w<=L.length
 ·obtain ⟨p,h1,h2,h3⟩:=hL i hlast kind who hk hwho
  exact ⟨p,h1,h2,by rw [List.getElem?_append_left (by omega)];exact h3⟩
 ·have hp:=hc.pos hk hwho
  rcases hl kind who hk hwho with h|⟨p,h1,h2⟩
  ·omega
  ·have :=(List.getElem?_eq_some_iff.1 h1).1
   rw [List.length_append,List.length_singleton]at this
   exact ⟨p,by omega,by omega,h1⟩
theorem Play.fair {t w nw:Nat} {Wf:Nat->Pk} {L:List Pk} {D:Du} {k:Nat} (ht1:1<=t) (ht:t<=8) (hw:4*t<=w) (hw2:w<=1099511627776) (h:Play t w nw Wf L D k) (hl:L.length<=100000):Cnt t D L.length/\Lst t w L D/\Windows t w L:=by
 have hv: ∀n:Nat,n<=100000->ndue n w=(n:Int)+1+(w:Int):=fun n hn=>by unfold ndue wrap64;omega
 induction h with
 |nil=>exact ⟨cnt_start hw,fun kind who hk hwho=> .inl (by unfold du0;omega),fun i hi=>by simp at hi;omega⟩
 | @own L D k h kd wh hf hd ih=>
   simp only [List.length_append,List.length_cons,List.length_nil]at hl⊢
   obtain ⟨h1,h2,h3⟩:=ih (by omega)
   have c:=cnt_own ht1 hw h1 hf
   rw [hv _ (by omega)]
   have l:=lst_step h2 ((kd:Int),(wh:Int))
   exact ⟨c,l,windows_step h3 _ c l⟩
 | @wish L D k h kd wh hf hd hn ih=>
   simp only [List.length_append,List.length_cons,List.length_nil]at hl⊢
   obtain ⟨h1,h2,h3⟩:=ih (by omega)
   have hb:=h.bound ht hw hw2 (by omega) kd wh hf.1 hf.2.1
   have c:=cnt_wish ht1 hw h1 hf (by unfold wrap64 at hd;omega) (Wf (k % nw))
   rw [hv _ (by omega)]
   have l:=lst_step h2 (Wf (k % nw))
   exact ⟨c,l,windows_step h3 _ c l⟩
def lv (L:List Pk) (i:Nat):Int:=(L.getD i (0,0)).2
end Go.Proofs.YtmhfpjnkjlhbpaaGreatDoor
