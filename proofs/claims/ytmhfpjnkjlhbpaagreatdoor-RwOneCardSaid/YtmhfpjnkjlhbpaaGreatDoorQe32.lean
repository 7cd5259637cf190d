/- tso.Machine.Done. rw (plain): whatever is picked; what the machine of law22's programs comes to. A code that a law puts together, piece by piece. seq: the closure that adds a call to a code: what a law's code in a captured variable comes to. -/
import Derived.Test.YtmhfpjnkjlhbpaaGreatDoorQe22
import Derived.Test.YtmhfpjnkjlhbpaaGreatDoorQe26
import Derived.Test.YtmhfpjnkjlhbpaaGreatDoorQe31
namespace Go.Proofs.YtmhfpjnkjlhbpaaGreatDoor
open Go.ChangeShapes Go.WideShapes Go.ChangeAt Go.RowKit Go.Deep
set_option linter.unusedVariables false
set_option maxRecDepth 100000
set_option linter.unusedSimpArgs false
def doneT (s:Mst) (t:Nat):Bool:=(s.ths.getD t tha).st !=0&&(s.ths.getD t tha).st !=1&&(s.bufs.getD t []).length==0
def doneM (s:Mst):Bool:=(List.range s.ths.length).all (doneT s)
theorem doneM_no {s:Mst} {t:Nat} (ht:t<s.ths.length) (h:doneT s t=false):doneM s=false:=by
 unfold doneM
 rw [List.all_eq_false]
 exact ⟨t,List.mem_range.2 ht,by rw [h];decide⟩
theorem doneM_yes {s:Mst} (h: ∀t,t<s.ths.length->doneT s t=true):doneM s=true:=List.all_eq_true.2 fun t ht=>h t (List.mem_range.1 ht)
theorem below_of_grownT {w w':World} {row:Option Nat} {N:Nat} (hN:N<=w.heap.size) (h:w.grownBy w' row) (hr: ∀g,row=some g->N<=g):Below N w w':=
 ⟨h.os,h.tape,h.output,h.size,fun k hk=>h.block k (Nat.lt_of_lt_of_le hk hN) (fun e=>by have :=hr k e.symm;omega)⟩
section
variable {P:Program}
theorem wpList_load_midG {ops:Array Oper} {rest:List Oper} {op:Oper} {a:Act} {w:World} {Q:Exit->Act->World->Prop} (hgd:Region.wanted op (yielded ops a.tmps)=true) (ty:TypeId) (x:Operand) (ho:op.op= .load ty x)
 (b o:Nat) (hx:a.eval x= .pointer (some ⟨b,o,none⟩)) (cs:List Value) (d:TypeDesc) (hc:w.rangeAt b o cs)
 (hu:P.underlying ty=some d) (hd:d.isRow=true) (hi:(P.info? ty).map (·.size)=some cs.length)
 (h:wpList P ops Q rest (a.put op.dst (.agg cs.toArray)) w):wpList P ops Q (op::rest) a w:=
 wpList_step fun _ hK=>by
  rw [if_pos hgd]
  exact wp_load_mid ty x ho b o hx cs d hc hu hd hi (hK _ _ h)
end
set_option maxHeartbeats 2000000 in
theorem tdone_any (B:MB) (s:Mst) (own:Nat->Prop) (W:World) (hI:MInv tsoL B s own W) (h0:0<s.ths.length) (h8:s.ths.length<=8) (hbl:s.bufs.length=s.ths.length):
 Calls Tryz.prog 21 #[.pointer (some ⟨B.mb,0,none⟩)] W fun e W'=>e= .returned (.bool (doneM s))/\Below W.heap.size W W':=by
 obtain ⟨V,bcs,h⟩:=hI
 obtain ⟨g1,cap1,e1,hc1,hm1,hx1⟩:=h.thAt h0
 obtain ⟨g2,cap2,cs0,e2,hc2,hm2,hx2⟩:=h.bufAt (t:=0) (by omega)
 clear hx1 hx2
 have c1:W.cell? ⟨B.mb,1,none⟩=some (.slice (some ⟨g1,0,none⟩) s.ths.length cap1):=by rw [<-e1];exact h.cell (j:=1) (by decide) rfl
 have HH:=Lib.hid (And.intro h (And.intro e1 e2))
 obtain ⟨n,hn⟩: ∃n,s.ths.length=n:=⟨_,rfl⟩
 rw [hn]at c1 hc1 h8
 have HN:=Lib.hid (And.intro hn hbl)
 clear h e1 e2 hn hbl h0 hc2 hm2
 go_enter Tryz.func21,Tryz.ntmps21
 go_wp2_with fail
 go_loopw [10] (fun i wr=> ∃k:Nat,k<=n/\i= .int .i64 (k:Int)/\(∀j,j<k->doneT s j=true)/\Below W.heap.size W wr) (fun i _=>n-(intOf i).toNat)
 case atStart=>exact ⟨0,Nat.zero_le _,rfl,fun j hj=>absurd hj (Nat.not_lt_zero _),Below.refl _ _⟩
 case round=>
  obtain ⟨k,hk,rfl,hall,hB⟩:=hrel
  by_cases hkn:k<n
  ·have hk0:(0:Int)<=(k:Int):=by omega
   have hk1:(k:Int)<(n:Int):=by omega
   have h':=HH.out.1.below hB
   obtain ⟨g,cap,e1,hx1,hx2,hra,hx3⟩:=h'.thAt (t:=k) (by rw [HN.out.1];exact hkn)
   obtain ⟨gb,capb,cs,e2,hx4,hx5,hbuf,hrb,hx6⟩:=h'.bufAt (t:=k) (by rw [HN.out.2,HN.out.1];exact hkn)
   clear hx1 hx2 hx3 hx4 hx5 hx6
   rw [HH.out.2.1]at e1
   injection e1 with e1 e1n e1c
   clear e1n
   subst e1c
   injection e1 with e1
   injection e1 with e1 _ _
   subst e1
   have c2:wr.cell? ⟨B.mb,2,none⟩=some (.slice (some ⟨gb,0,none⟩) s.bufs.length capb):=by rw [<-e2];exact h'.cell (j:=2) (by decide) rfl
   rw [HN.out.2,HN.out.1]at c2
   have hlen:(s.bufs.getD k []).length<=16:=hbuf.le
   have hC:=len_any cs (s.bufs.getD k []) B.room hbuf
   obtain ⟨m,hm⟩: ∃m,(s.bufs.getD k []).length=m:=⟨_,rfl⟩
   obtain ⟨th,hth⟩: ∃th,s.ths.getD k tha=th:=⟨_,rfl⟩
   rw [hm]at hlen hC
   rw [hth]at hra
   have hlt2:gb<wr.heap.size:=(h'.lo gb (h'.vb 2 (by decide) gb (by rw [e2];rfl))).2
   have hbm:=h'.blt
   obtain ⟨pc,regs,st⟩:=th
   have hD:doneT s k=(st !=0&&st !=1&&m==0):=by unfold doneT;rw [hth,hm]
   have HA:=Lib.hid (And.intro hall (And.intro hD (And.intro hB (And.intro hrb (And.intro hlt2 (And.intro c2 (And.intro hbm (buf_infoL hbuf))))))))
   clear h' e2 hbuf hall hD hm hth hrb hlt2 c2 hB hbm
   have hz:=Blk.new wr 124 #[.int .i64 0,.int .u32 0,.int .u32 0,.int .u32 0,.int .u32 0,.int .u32 0,.int .u32 0,.int .u32 0,.int .u32 0,.int .i64 0]
   have hal:=(Below.refl wr.heap.size wr).alloc (Nat.le_refl _) (.cells #[.int .i64 0,.int .u32 0,.int .u32 0,.int .u32 0,.int .u32 0,.int .u32 0,.int .u32 0,.int .u32 0,.int .u32 0,.int .i64 0] 124)
   by_cases s0:st=0
   ·subst s0
    go_wp2_with (first|(refine wpList_load_mid rfl 124 (.tmp 13) rfl g1 (k*10) rfl (⟨pc,regs,0⟩:Th).cells _ hra Tryz.underlying124 rfl th_info ?_)|(refine wpList_store_row rfl 124 (.tmp 4) (.tmp 14) rfl _ rfl (thArr ⟨pc,regs,0⟩) rfl 124 _ hz rfl th_info (th_one _) ?_))
    intro W9 hb9 hg9
    have p9:W9.cell? ⟨wr.heap.size,9,none⟩=some (.int .i64 0):=(hb9.cell 9).trans rfl
    have hw9:Below wr.heap.size wr W9:=hal.trans (below_of_grownT hal.size hg9 (fun g e=>by cases e;exact Nat.le_refl _))
    have HB9:=Lib.hid (HA.out.2.2.1.trans (hw9.mono HA.out.2.2.1.size))
    have c2:=keepAt hw9 HA.out.2.2.2.2.2.2.1 HA.out.2.2.2.2.2.1
    have hrb9:=range_below HA.out.2.2.2.1 HA.out.2.2.2.2.1 hw9
    clear hz hal hw9
    go_wp2
    go_ret
    refine ⟨?_,HB9.out⟩
    rw [doneM_no (t:=k) (by rw [HN.out.1];exact hkn) (by rw [HA.out.2.1];rfl)]
    rfl
   ·by_cases s1:st=1
    ·subst s1
     go_wp2_with (first|(refine wpList_load_mid rfl 124 (.tmp 13) rfl g1 (k*10) rfl (⟨pc,regs,1⟩:Th).cells _ hra Tryz.underlying124 rfl th_info ?_)|(refine wpList_store_row rfl 124 (.tmp 4) (.tmp 14) rfl _ rfl (thArr ⟨pc,regs,1⟩) rfl 124 _ hz rfl th_info (th_one _) ?_))
     intro W9 hb9 hg9
     have p9:W9.cell? ⟨wr.heap.size,9,none⟩=some (.int .i64 1):=(hb9.cell 9).trans rfl
     have hw9:Below wr.heap.size wr W9:=hal.trans (below_of_grownT hal.size hg9 (fun g e=>by cases e;exact Nat.le_refl _))
     have HB9:=Lib.hid (HA.out.2.2.1.trans (hw9.mono HA.out.2.2.1.size))
     have c2:=keepAt hw9 HA.out.2.2.2.2.2.2.1 HA.out.2.2.2.2.2.1
     have hrb9:=range_below HA.out.2.2.2.1 HA.out.2.2.2.2.1 hw9
     clear hz hal hw9
     go_wp2
     go_ret
     refine ⟨?_,HB9.out⟩
     rw [doneM_no (t:=k) (by rw [HN.out.1];exact hkn) (by rw [HA.out.2.1];rfl)]
     rfl
    ·have hD:=HA.out.2.1
     rw [show (st !=0)=true by simpa using s0,show (st !=1)=true by simpa using s1]at hD
     have HD:=Lib.hid hD
     clear hD
     have hs0:(st==0)=false:=by simpa using s0
     have hs1:(st==1)=false:=by simpa using s1
     go_wp2_with (first|(refine wpList_load_mid rfl 124 (.tmp 13) rfl g1 (k*10) rfl (⟨pc,regs,st⟩:Th).cells _ hra Tryz.underlying124 rfl th_info ?_)|(refine wpList_store_row rfl 124 (.tmp 4) (.tmp 14) rfl _ rfl (thArr ⟨pc,regs,st⟩) rfl 124 _ hz rfl th_info (th_one _) ?_))
     intro W9 hb9 hg9
     have p9:W9.cell? ⟨wr.heap.size,9,none⟩=some (.int .i64 st):=(hb9.cell 9).trans rfl
     have hw9:Below wr.heap.size wr W9:=hal.trans (below_of_grownT hal.size hg9 (fun g e=>by cases e;exact Nat.le_refl _))
     have HB9:=Lib.hid (HA.out.2.2.1.trans (hw9.mono HA.out.2.2.1.size))
     have c2:=keepAt hw9 HA.out.2.2.2.2.2.2.1 HA.out.2.2.2.2.2.1
     have hrb9:=range_below HA.out.2.2.2.1 HA.out.2.2.2.2.1 hw9
     clear hz hal hw9
     go_wp2_with (refine wpList_load_midG (by simp [Region.wanted,yielded,s0,s1]) 114 (.tmp 29) rfl gb (k*35) rfl cs.toList _ hrb9 Tryz.underlying114 rfl HA.out.2.2.2.2.2.2.2 ?_)
     refine (hC W9).mono ?_
     rintro e W10 ⟨rfl,hB10⟩
     have HE:=Lib.hid (HB9.out.trans (hB10.mono HB9.out.size))
     clear hC hB10
     by_cases m0:m=0
     ·subst m0
      go_wp2
      go_roundw
      case rel=>
       refine ⟨k+1,by omega,by go_num,fun j hj=>?_,HE.out⟩
       by_cases c:j<k
       ·exact HA.out.1 j c
       ·obtain rfl:j=k:=by omega
        exact HD.out
      case measure=>simp [intOf];omega
     ·have m1:(0:Int)<(m:Int):=by omega
      go_wp2
      go_ret
      refine ⟨?_,HE.out⟩
      rw [doneM_no (t:=k) (by rw [HN.out.1];exact hkn) (by rw [HD.out];simpa using m0)]
      rfl
  ·obtain rfl:k=n:=by omega
   have hk1: ¬(k:Int)<(k:Int):=by omega
   have HA:=Lib.hid (And.intro hall hB)
   clear hall hB
   go_wp2
   go_ret
   refine ⟨?_,HA.out.2⟩
   rw [doneM_yes (by rw [HN.out.1];exact HA.out.1)]
   rfl
section
variable {nt:Nat} {kd:Nat->Nat->Bool} {rd:Nat->Nat} {bs:Nat->Nat->Nat} {v:Vw} {g:RG} {t:Nat}
def rwRd (t:Nat) (isW:Bool) (q:Nat):List Op:=if isW=true then wrL t q else rdL t q
theorem rwRd_len (t:Nat) (isW:Bool) (q:Nat):(rwRd t isW q).length=if isW=true then 41 else 48:=by
 unfold rwRd;cases isW<;>rfl
theorem rwm_pick {B:MB} {s:Mst} (hw:Wf B s) (hC: ∀t,t<B.codes.length->Coded B t (rd t) (bs t) (fun n=>rwRd t (kd t n) (bs t n)))
 (H: ∃g,RwI B.codes.length kd rd bs (vw s) g) (x:Int×Int): ∃g,RwI B.codes.length kd rd bs (vw (tPick B s x)) g:=by
 refine pick_keeps (I:=fun v=> ∃g,RwI B.codes.length kd rd bs v g) hw H (fun t ht hb=>?_) (fun t ht hst=>?_) (fun t ht _=>?_) x
 ·obtain ⟨g,H⟩:=H
  exact ⟨g,H.flush ht hb⟩
 ·obtain ⟨g,H⟩:=H
  obtain ⟨n,o,hpc,hl|hl⟩:=H.loc t ht
  ·obtain ⟨op,hop,hk⟩:=rw_exec H ht hl.1 hl.2.2
   exact .inl ⟨bs t n+o,_,op,(hC t ht).at_ hw ht hl.1 hop (Th.parts hpc hst),fun h1 _=>hk h1⟩
  ·have h0:o=0:=hl.2.1
   rw [h0]at hpc
   refine .inr ⟨?_,g,H.quiet ht (fun x hx=>by rw [List.mem_singleton.1 hx];exact ⟨(by decide:(12:Int)≠7),(by decide:(12:Int)≠6)⟩) ⟨n,0,hpc,.inr ⟨hl.1,rfl,.inr rfl,hl.2.2.2⟩⟩⟩
   rw [(hC t ht).len]
   have hpc':(thM s t).pc=((bs t n+0:Nat):Int):=hpc
   rw [hpc',hl.1]
   exact Int.le_refl _
 ·obtain ⟨g,H⟩:=H
  exact ⟨g,(H.quiet ht (fun x hx=>by rw [List.mem_singleton.1 hx];exact ⟨(by decide:(11:Int)≠7),(by decide:(11:Int)≠6)⟩) (H.loc t ht).run).slp _⟩
theorem rwm_run {B:MB} (hB:MBok B) (hC: ∀t,t<B.codes.length->Coded B t (rd t) (bs t) (fun n=>rwRd t (kd t n) (bs t n))) (l:List (Int×Int)) {s:Mst} (hw:Wf B s)
 (H: ∃g,RwI B.codes.length kd rd bs (vw s) g): ∃g,RwI B.codes.length kd rd bs (vw (tRun B s l)) g:=
 (run_keeps (I:=fun s=> ∃g,RwI B.codes.length kd rd bs (vw s) g) hB (fun s x hw H=>rwm_pick hw hC H x) l s hw H).2
def rwB (kd:Nat->Bool):Nat->Nat
 |0=>0
 |n+1=>rwB kd n+(if kd n=true then 41 else 48)
theorem rwB_le (kd:Nat->Bool) (n:Nat):rwB kd n<=48*n:=by
 induction n with
 |zero=>exact Nat.le_refl _
 |succ n ih=>
  show rwB kd n+_<=_
  split<;>omega
theorem rwB_mono (kd:Nat->Bool) {n m:Nat} (h:n<=m):rwB kd n<=rwB kd m:=bs_mono (rd:=m) (ln:=fun n=>if kd n=true then 41 else 48) (fun _ _=>rfl) h (Nat.le_refl _)
theorem rwm_start (h8:nt<=8) (hrd: ∀t,t<nt->rd t<=4) (h1: ∀t,v.th t=tha) (h2: ∀t,v.bf t=[]) (h3: ∀i,v.mem i=0) (h4:v.evs=[]):RwI nt kd rd (fun t=>rwB (kd t)) v ⟨none,fun _=>false,0,none,fun _=>false,fun _=>0⟩:=by
 have hz:sumT nt (fun _=>0)=0:=sumT_none (fun _ _=>rfl)
 have hz2:(sumT nt fun _=>b2n false)=0:=sumT_none (fun _ _=>rfl)
 refine ⟨h8,hrd,fun t n=>rfl,fun _=>⟨(h3 16).trans ?_,h3 0⟩,(fun u q=>by cases q),fun t ht=>?_,hz.symm,(fun u q=>by cases q),?_⟩
 ·show (0:Int)=((sumT nt fun _=>b2n false:Nat):Int)
  rw [hz2];rfl
 ·rw [h1,h2]
  have eA:RG.at_ ⟨none,fun _=>false,0,none,fun _=>false,fun _=>0⟩ v t=⟨false,false,false,false,0,0,0,0,[]⟩:=by
   unfold RG.at_
   rw [h4,h3,h3]
   rfl
  rw [eA]
  have F:RFree ⟨false,false,false,false,0,0,0,0,[]⟩ (wrs (kd t) 0) []:=⟨rfl,rfl,rfl,rfl,rfl,rfl,rfl,⟨⟨fun i h1 h2=>absurd h2 (by simp),fun x hx=>by cases hx⟩,rfl⟩⟩
  refine ⟨0,0,rfl,?_⟩
  rcases Nat.eq_zero_or_pos (rd t)with c|c
  ·exact .inr ⟨c.symm,rfl,.inl rfl,F⟩
  ·refine .inl ⟨c,.inl rfl,?_⟩
   cases hk:kd t 0 with
   |true=>exact .inl ⟨rfl,by decide,F⟩
   |false=>exact .inr ⟨rfl,by decide,F⟩
 ·rw [h4]
  show some ((-1:Int),(0:Int))=some (-1,((sumT nt fun _=>b2n false:Nat):Int))
  rw [hz2];rfl
theorem RLoc.outs {kd:Nat->Bool} {rd:Nat} {bs:Nat->Nat} {L:RL} {th:Th} {b:List Ent} (h:RLoc kd rd bs L t th b):okO L.D L.O:=by
 obtain ⟨n,o,hp,h|h⟩:=h
 ·rcases h.2.2 with q|q
  ·have hA:=q.2.2
   unfold wA at hA
   split at hA
   all_goals first
    |exact hA.elim
    |exact hA.O.1
    |exact hA.1.O.1
    |exact hA.elim (fun q=>q.1.O.1) (fun q=>q.1.O.1)
  ·have hA:=q.2.2
   unfold rA at hA
   split at hA
   all_goals first
    |exact hA.elim
    |exact hA.O.1
    |exact hA.1.O.1
    |exact hA.elim (fun q=>q.1.O.1) (fun q=>q.1.O.1)
 ·exact h.2.2.2.O.1
theorem RLoc.done {kd:Nat->Bool} {rd:Nat} {bs:Nat->Nat} {L:RL} {th:Th} {b:List Ent} (h:RLoc kd rd bs L t th b) (hst:th.st=2):RFree L (wrs kd rd) b:=by
 obtain ⟨n,o,hp,h|h⟩:=h
 ·have :=h.2.1
  omega
 ·rw [<-h.1];exact h.2.2.2
def rwT (t:Nat) (kd:Nat->Bool) (rd:Nat):List Ins:=(codeOf (fun n=>rwRd t (kd n) (rwB kd n)) rd).map Op.ins
theorem wrL_ok {t q size m:Nat} (ht:t<=8) (hm:17+t<m) (hq:q+41<=size): ∀op∈wrL t q,opOk size m op:=by
 intro op hop
 simp only [wrL,List.mem_cons,List.not_mem_nil,or_false]at hop
 rcases hop with rfl|rfl|rfl|rfl|rfl|rfl|rfl|rfl|rfl|rfl|rfl|rfl|rfl|rfl|rfl|rfl|rfl|rfl|rfl|rfl|rfl|rfl|rfl|rfl|rfl|rfl|rfl|rfl|rfl|rfl|rfl|rfl|rfl|rfl|rfl|rfl|rfl|rfl|rfl|rfl|rfl<;>(dsimp only [opOk];omega)
theorem rdL_ok {t q size m:Nat} (ht:t<=8) (hm:17+t<m) (hq:q+48<=size): ∀op∈rdL t q,opOk size m op:=by
 intro op hop
 simp only [rdL,List.mem_cons,List.not_mem_nil,or_false]at hop
 rcases hop with rfl|rfl|rfl|rfl|rfl|rfl|rfl|rfl|rfl|rfl|rfl|rfl|rfl|rfl|rfl|rfl|rfl|rfl|rfl|rfl|rfl|rfl|rfl|rfl|rfl|rfl|rfl|rfl|rfl|rfl|rfl|rfl|rfl|rfl|rfl|rfl|rfl|rfl|rfl|rfl|rfl|rfl|rfl|rfl|rfl|rfl|rfl|rfl<;>(dsimp only [opOk];omega)
theorem rwRd_ok {t n rd m:Nat} (kd:Nat->Bool) (ht:t<=8) (hm:17+t<m) (hn:n<rd): ∀op∈rwRd t (kd n) (rwB kd n),opOk (rwB kd rd) m op:=by
 have h1:=rwB_mono kd (show n+1<=rd from hn)
 have h2:rwB kd (n+1)=rwB kd n+(if kd n=true then 41 else 48):=rfl
 unfold rwRd
 cases hk:kd n with
 |true=>rw [hk,if_pos rfl]at h2;rw [if_pos rfl];exact wrL_ok ht hm (by omega)
 |false=>rw [hk,if_neg (by decide)]at h2;rw [if_neg (by decide)];exact rdL_ok ht hm (by omega)
theorem rwT_good (t:Nat) (kd:Nat->Bool) (rd:Nat) (ht:t<=8) (hr:rd<=4):(∀x∈rwT t kd rd,x.Ok)/\(∀x∈rwT t kd rd,rightB x ((rwT t kd rd).length:Int)=true)/\(rwT t kd rd).length=rwB kd rd:=
 codeOf_good (bs:=rwB kd) (m:=26) rfl (fun n _=>by rw [rwRd_len];rfl) (fun n hn op hop=>rwRd_ok kd ht (by omega) hn op hop) (by have :=rwB_le kd rd;omega) (by decide)
theorem rw_ends {p:Pg} {B:MB} (hp:p.Ok) (hN:NewM p B) (hroom:B.room=p.room) (hr:1<=p.room/\p.room<=16) (hm:p.m=17+p.n) (hZ: ∀i,p.Z i=0) (hn1:1<=p.n) (hn:p.n<=4) (kd:Nat->Nat->Bool) (rd:Nat->Nat) (hrd: ∀t,t<p.n->rd t<=4) (hcd: ∀t,t<p.n->(p.cd t).len=(rwT t (kd t) (rd t)).length/\(p.cd t).F=fun i=>(rwT t (kd t) (rd t)).getD i default)
 (l:List (Int×Int)) (hl:l.length<=100000):let S:=tRun B (t0 p) l
 EvK S.evs/\S.evs.length<=999999000/\(∃g,RwI p.n kd rd (fun t=>rwB (kd t)) (vw S) g)/\(∃(q:Option Nat) (m:Nat),rwScan S.evs=some (curW q,(m:Int)))/\(∃D,∀t,t<p.n->okO D (outE t S.evs))/\
 ((∀t,t<p.n->(thM S t).st=2/\bufM S t=[])->S.mem.getD 0 0=((sumT p.n fun t=>wrs (kd t) (rd t):Nat):Int)/\S.mem.getD 16 0=0):=by
 intro S
 have hB:=newM_ok hN (by omega) (by omega)
 have h0:=t0_ok hp hN
 have hw:Wf B (t0 p):=⟨h0,by show ((List.range p.m).map p.Z).length=B.m;rw [List.length_map,List.length_range,hN.m],by rw [hroom];exact hr.1⟩
 have hnc:B.codes.length=p.n:=hN.n
 have hC: ∀t,t<B.codes.length->Coded B t (rd t) (rwB (kd t)) (fun n=>rwRd t (kd t n) (rwB (kd t) n)):=fun t ht=>by
  rw [hnc]at ht
  have h1:=hN.cd t ht
  have h2:=hcd t ht
  refine coded_of rfl (fun n _=>by rw [rwRd_len];rfl) (by rw [h1.1,h2.1];rfl) (by rw [h1.2.1,h2.2];rfl) (fun n hn op hop=>?_) (by have :=rwB_le (kd t) (rd t);have :=hrd t ht;omega) (by rw [hN.m,hm];omega)
  rw [hN.m,hm]
  exact rwRd_ok (kd t) (by omega) (by omega) hn op hop
 have hth: ∀t,(vw (t0 p)).th t=tha:=fun t=>by
  show (List.replicate p.n tha).getD t tha=tha
  rw [List.getD_eq_getElem?_getD,List.getElem?_replicate];split<;>rfl
 have hbf: ∀t,(vw (t0 p)).bf t=[]:=fun t=>by
  show (List.replicate p.n ([]:List Ent)).getD t []=[]
  rw [List.getD_eq_getElem?_getD,List.getElem?_replicate];split<;>rfl
 have hmem: ∀a,(vw (t0 p)).mem a=0:=fun a=>by
  show ((List.range p.m).map p.Z).getD a 0=0
  rw [List.getD_eq_getElem?_getD,List.getElem?_map]
  cases (List.range p.m)[a]? with
  |none=>rfl
  |some i=>exact hZ i
 obtain ⟨g,H⟩:=rwm_run hB hC l hw ⟨_,rwm_start (by omega) (fun t ht=>hrd t (by rw [hnc]at ht;exact ht)) hth hbf hmem rfl⟩
 rw [hnc]at H
 have hc:=tRun_evc (B:=B) (K:=999999000) l (n:=0) (s:=t0 p) (by
  unfold EvC
  show 0+tot (List.replicate p.n [])+_<=_
  rw [tot_nil];omega)
 refine ⟨tRun_evk hB l h0 (fun x hx=>by cases hx),?_,⟨g,H⟩,⟨g.iw,_,H.scan⟩,⟨g.D,fun t ht=>(H.loc t ht).outs⟩,fun hd=>?_⟩
 ·unfold EvC at hc
  show (tRun B (t0 p) l).evs.length<=_
  omega
 ·have hF: ∀t,t<p.n->RFree (g.at_ (vw S) t) (wrs (kd t) (rd t)) ((vw S).bf t):=fun t ht=>(H.loc t ht).done (hd t ht).1
  have hwn:g.w=none:=by
   cases h:g.w with
   |none=>rfl
   |some u=>
    have hu:=(H.sh1 u h).2.1
    exact absurd h (of_decide_eq_false (hF u hu).wt)
  have hs:=H.sh0 hwn
  have e1:(sumT p.n fun t=>b2n (g.rs t))=0:=sumT_none (fun t ht=>by rw [show g.rs t=false from (hF t ht).rs];rfl)
  have e2:g.D=sumT p.n fun t=>wrs (kd t) (rd t):=H.D.trans (sumT_congr (fun t ht=>(hF t ht).c))
  rw [e1]at hs
  rw [e2]at hs
  exact ⟨hs.2,hs.1⟩
end
structure CW (W0 W:World) (A:Option Addr) (N c:Nat) (L:List Ins):Prop where
 n:N=L.length
 own:W.ownsRow W0.heap.size 75 5 (.slice A N c) N (L.flatMap Ins.cells)
 below:Below W0.heap.size W0 W
section
variable {W0 W W':World} {A:Option Addr} {N c:Nat} {L:List Ins}
theorem CW.step (h:CW W0 W A N c L) (hb:Below W.heap.size W W'):CW W0 W' A N c L:=⟨h.n,own_below h.own (Nat.le_refl _) hb,step_below h.below hb⟩
theorem CW.app {ops:Array Oper} {rest:List Oper} {o:Oper} {a:Act} {Q:Exit->Act->World->Prop} (h:CW W0 W A N c L) (hgd:o.guard=none) (s x:Operand)
 (ho:o.op= .call {callee:= .builtin .append,args:= #[s,x],argTypes:= #[50,50]}) (l2:List Ins) (m M cx:Nat) (hm:l2.length=m) (hM:M=N+m) (hs:a.eval s= .slice A N c) {Ax:Option Addr} (hx:a.eval x= .slice Ax m cx)
 (hr:Sl W Ax (m*5) (fun k=>(l2.flatMap Ins.cells).getD k undef)) (hb:M<=1000000)
 (K: ∀A' c' w',CW W0 w' A' M c' (L++l2)->wpList Tryz.prog ops Q rest (a.put o.dst (.slice A' M c')) w'):wpList Tryz.prog ops Q (o::rest) a W:=by
 obtain ⟨hn,hown,hbel⟩:=h
 subst hm hn
 refine wpList_append_ins hgd s x ho W0.heap.size (.slice A L.length c) L l2 hs hown Ax cx hx hr (by omega) hbel.size ?_
 intro A' c' w' h1 h2 h3
 have e:(L++l2).length=M:=by rw [List.length_append];exact hM.symm
 rw [e]at h1⊢
 exact K A' c' w' ⟨e.symm,h1,hbel.trans (h3.mono (Nat.le_refl _))⟩
end
structure CodeIn (W:World) (v:Value) (C:List Ins) (m:Nat):Prop where
 is_: ∃og cap,v= .slice (some ⟨og,0,none⟩) m cap/\og<W.heap.size/\m<=cap/\cap<=maxLen/\SlE W (some ⟨og,0,none⟩) m 5 (fun i=>(C.getD i default).cells)
 len:C.length=m
theorem CodeIn.step {W W':World} {v:Value} {C:List Ins} {m:Nat} (h:CodeIn W v C m) (hb:Below W.heap.size W W'):CodeIn W' v C m:=by
 obtain ⟨⟨og,cap,e,hog,hcap,hcm,hs⟩,hl⟩:=h
 exact ⟨⟨og,cap,e,Nat.lt_of_lt_of_le hog hb.size,hcap,hcm,SlE.step hs hb⟩,hl⟩
theorem CodeIn.moved {W:World} {v:Value} {C:List Ins} {m:Nat} (h:CodeIn W v C m) (hok: ∀x∈C,x.Ok) (hm:m<=100000) (z:Int) (hz0:0<=z) (hz1:z<=4294967295) (hT:Tab W):
 Calls Tryz.prog 35 #[v,.int .i64 z] W fun e W'=> ∃cs:Array Value,e= .returned (.slice (some ⟨W.heap.size,0,none⟩) m m)/\Blk W' W.heap.size 75 cs/\(∀i,i<m->InsAt cs i (movedI z (C.getD i default)))/\Below W.heap.size W W':=by
 obtain ⟨⟨og,cap,rfl,hog,hcap,hcm,hs⟩,hl⟩:=h
 have hget: ∀i,i<m->C.getD i default∈C:=fun i hi=>by
  have hi':i<C.length:=by omega
  rw [List.getD_eq_getElem?_getD,List.getElem?_eq_getElem hi'];exact List.getElem_mem hi'
 refine (moved_any ⟨some ⟨og,0,none⟩,m,cap,fun i=>C.getD i default⟩ z ⟨hcap,hcm,fun i hi=>hok _ (hget i hi)⟩ hm hz0 hz1 W hT hs).mono ?_
 rintro e W' ⟨cs,h1,h2,_,h3,h4⟩
 exact ⟨cs,h1,h2,h3,h4⟩
theorem grown_below {W0 W W':World} {r:Option Nat} (h:W0.grownBy W r) (hb:Below W.heap.size W W'):W0.grownBy W' r:=
 ⟨hb.os.trans h.os,hb.tape.trans h.tape,hb.output.trans h.output,Nat.le_trans h.size hb.size,fun i hi hn=>(hb.block i (Nat.lt_of_lt_of_le hi h.size)).trans (h.block i hi hn)⟩
theorem grown_row {W0 W W':World} {r q:Option Nat} (h:W0.grownBy W r) (hg:W.grownBy W' q) (hq: ∀g,q=some g->W0.heap.size<=g∨r=some g):W0.grownBy W' r:=
 ⟨hg.os.trans h.os,hg.tape.trans h.tape,hg.output.trans h.output,Nat.le_trans h.size hg.size,fun i hi hn=>(hg.block i (Nat.lt_of_lt_of_le hi h.size) (fun e=>by
  rcases hq i e.symm with q|q
  ·omega
  ·exact hn q.symm)).trans (h.block i hi hn)⟩
theorem CdRow.far {W W':World} {base:Nat} {v:Value} {L:List (List Ins)} {g:Nat} {t:TypeId} {cs:Array Value} (h:CdRow W base v L) (hb:Blk W g t cs) (h1:t≠50) (h2:t≠75) (hg:W.grownBy W' (some g)):CdRow W' base v L:=by
 obtain ⟨vals,q1,q2,q3⟩:=h
 exact ⟨vals,q1,row_grown q2 hg (row_ne hb q2 h1),fun i hi=>row_grown (q3 i hi) hg (row_ne hb (q3 i hi) h2)⟩
theorem CdRow.cap {W:World} {base:Nat} {v:Value} {L:List (List Ins)} (h:CdRow W base v L): ∃A c,v= .slice A L.length c:=by
 obtain ⟨vals,q1,q2,q3⟩:=h
 obtain ⟨A,c,e,_,_⟩:=own_cap q2
 exact ⟨A,c,e⟩
theorem CdRow.app {W0 W:World} {base:Nat} {A AA:Option Addr} {n N c cv:Nat} {L:List (List Ins)} {l:List Ins} {ops:Array Oper} {rest:List Oper} {o:Oper} {a:Act} {Q:Exit->Act->World->Prop} (h:CdRow W base (.slice A n cv) L) (hn:n=L.length) (hc:CW W0 W AA N c l) (hb0:base<=W0.heap.size) (hgd:o.guard=none) (s x:Operand)
 (ho:o.op= .call {callee:= .builtin .append,args:= #[s,x],argTypes:= #[26,26]}) (hs:a.eval s= .slice A n cv) (hx:a.eval x= .slice (some ⟨W.heap.size,0,none⟩) 1 1) (hL:n<=100)
 (K: ∀A' c' w',CdRow w' base (.slice A' (n+1) c') (L++[l])->(∀pb t cs,Blk W pb t cs->t≠50->Blk w' pb t cs)->(∀(W5:World) (r:Option Nat),W5.heap.size=base->W5.grownBy W r->W5.grownBy w' r)->wpList Tryz.prog ops Q rest (a.put o.dst (.slice A' (n+1) c')) w'):wpList Tryz.prog ops Q (o::rest) a (W.alloc (.cells #[.slice AA N c] 50)):=by
 have hal:=(Below.refl W.heap.size W).alloc (Nat.le_refl _) (.cells #[.slice AA N c] 50)
 obtain ⟨vals,q1,q2,q3⟩:=h.below hal
 have hcs:=hc.step hal
 subst hn
 obtain ⟨i0,hi,hy0,hy1,hy2⟩:=info_parts slc_info5
 have hcn:=hcs.n
 have hbW:base<=W.heap.size:=Nat.le_trans hb0 hc.below.size
 refine wpList_append_sl (W.alloc (.cells #[.slice AA N c] 50)) hgd s x 26 ho base 50 i0 _ 1 24 Tryz.underlying26 hi hy0 hy1 hy2 rfl (by omega) (.slice A L.length cv) L.length vals hs q2 (some ⟨W.heap.size,0,none⟩) 1 1 (fun _=> .slice AA N c) hx (fun _=>⟨_,0,rfl,by simp,fun i hi=>?_⟩) (fun _ _=>rfl) (by unfold maxLen;omega) (by omega) (by simp;omega) ?_
 ·obtain rfl:i=0:=by omega
  exact ((Blk.new W 50 #[.slice AA N c]).cell 0).trans rfl
 intro v' w' h1 h2 _
 have e1:(List.range (1*1)).map (fun _=>Value.slice AA N c)=[Value.slice AA N c]:=rfl
 rw [e1]at h1
 obtain ⟨A',c',rfl,_,_⟩:=own_cap h1
 have hown:(W.alloc (.cells #[.slice AA N c] 50)).ownsRow W0.heap.size 75 5 (.slice AA N c) l.length (l.flatMap Ins.cells):=hcn▸hcs.own
 refine K A' c' w' (CdRow.snoc q1 q2 q3 hown hb0 h2 h1) (fun pb t cs hb ht=>?_) (fun W5 r hz hg=>?_)
 ·exact (hb.alloc _).grown h2 (row_ne (hb.alloc _) q2 ht)
 ·exact grown_row (grown_below hg hal) h2 (fun g e=> .inl (by rw [hz];exact (own_in q2 g e).1))
theorem map_range {C:List Ins} {m:Nat} (h:C.length=m) (f:Ins->Ins):C.map f=(List.range m).map fun i=>f (C.getD i default):=by
 subst h
 refine List.ext_getElem? fun i=>?_
 rw [List.getElem?_map,List.getElem?_map]
 rcases Nat.lt_or_ge i C.length with c|c
 ·rw [List.getElem?_range c,List.getElem?_eq_getElem c]
  simp [List.getD_eq_getElem?_getD,List.getElem?_eq_getElem c]
 ·rw [List.getElem?_eq_none c,List.getElem?_eq_none (l:=List.range C.length) (by simpa using c)];rfl
structure AX (W0 W:World) (okb:Nat) (v:Value) (A:Option Addr) (N c:Nat) (L:List Ins):Prop where
 n:N=L.length
 own:W.ownsRow W0.heap.size 75 5 (.slice A N c) N (L.flatMap Ins.cells)
 box:Blk W W0.heap.size 50 #[v]
 okx:Blk W okb 4 #[.bool true]
 okl:2<=okb/\okb<W0.heap.size
 far:W0.grownBy W (some okb)
 tab0:Tab W0
section
variable {W0 W W':World} {okb:Nat} {v:Value} {A:Option Addr} {N c:Nat} {L:List Ins}
theorem AX.below2 (h:AX W0 W okb v A N c L):Below 2 W0 W:=
 {os:=h.far.os,tape:=h.far.tape,output:=h.far.output,size:=h.far.size,block:=fun i hi=>h.far.block i (by have :=h.okl;omega) (fun e=>by have :=Option.some.inj e;have :=h.okl.1;omega)}
theorem AX.tab (h:AX W0 W okb v A N c L):Tab W:=h.tab0.below h.below2 (Nat.le_refl _)
theorem AX.lt (h:AX W0 W okb v A N c L):W0.heap.size<W.heap.size:=h.box.lt
theorem AX.step (h:AX W0 W okb v A N c L) (hb:Below W.heap.size W W'):AX W0 W' okb v A N c L:=
 ⟨h.n,own_below h.own (Nat.le_refl _) hb,h.box.below hb h.box.lt,h.okx.below hb h.okx.lt,h.okl,grown_below h.far hb,h.tab0⟩
theorem AX.all (h:AX W0 W okb v A N c L) (h0:Blk W0 okb 4 #[.bool true]):Below W0.heap.size W0 W:=
 {os:=h.far.os,tape:=h.far.tape,output:=h.far.output,size:=h.far.size,block:=fun i hi=>by
   by_cases e:i=okb
   ·rw [e];exact h.okx.trans h0.symm
   ·exact h.far.block i hi (fun q=>e (Option.some.inj q))}
theorem AX.cw (h:AX W0 W okb v A N c L) (h0:Blk W0 okb 4 #[.bool true]):CW W0 W A N c L:=⟨h.n,h.own,h.all h0⟩
theorem AX.old {b:Nat} {t:TypeId} {cs:Array Value} (h:AX W0 W okb v A N c L) (hb:Blk W0 b t cs) (hne:b≠okb):Blk W b t cs:=hb.grown h.far (fun e=>hne (Option.some.inj e))
theorem AX.start (W0:World) {okb:Nat} (ho:Blk W0 okb 4 #[.bool true]) (h2:2<=okb) (hT:Tab W0):AX W0 (W0.alloc (.cells #[.slice none 0 0] 50)) okb (.slice none 0 0) none 0 0 []:=
 ⟨rfl,⟨rfl,.inl ⟨rfl,rfl⟩⟩,Blk.new _ _ _,ho.alloc _,⟨h2,ho.lt⟩,grown_below ⟨rfl,rfl,rfl,Nat.le_refl _,fun _ _ _=>rfl⟩ ((Below.refl W0.heap.size W0).alloc (Nat.le_refl _) _),hT⟩
theorem AX.set (h:AX W0 W okb v A N c L) (u:Value):AX W0 (W.setCell ⟨W0.heap.size,0,none⟩ u) okb u A N c L:=
 ⟨h.n,row_grown h.own (set_only u) (row_ne h.box h.own (by decide)),h.box.set_ 0 u,h.okx.far (by have :=h.okl.2;show okb≠W0.heap.size;omega) u,h.okl,grown_row h.far (set_only u) (fun g e=> .inl (by rw [<-Option.some.inj e];exact Nat.le_refl _)),h.tab0⟩
theorem AX.setOk (h:AX W0 W okb v A N c L):AX W0 (W.setCell ⟨okb,0,none⟩ (.bool true)) okb v A N c L:=
 ⟨h.n,row_grown h.own (set_only _) (row_ne h.okx h.own (by decide)),h.box.far (by have :=h.okl.2;show W0.heap.size≠okb;omega) _,h.okx.set_ 0 _,h.okl,grown_row h.far (set_only _) (fun g e=> .inr e),h.tab0⟩
end
theorem wp_append_ins {w:World} {o:Oper} {a:Act} {K:Act->World->Prop} {Q:Exit->Act->World->Prop} (s x:Operand)
 (ho:o.op= .call {callee:= .builtin .append,args:= #[s,x],argTypes:= #[50,50]}) (base:Nat) (v:Value) (l l2:List Ins) (hs:a.eval s=v) (hown:w.ownsRow base 75 5 v l.length (l.flatMap Ins.cells))
 (A:Option Addr) (c:Nat) (hx:a.eval x= .slice A l2.length c) (hr:Sl w A (l2.length*5) (fun k=>(l2.flatMap Ins.cells).getD k undef)) (hb:l.length+l2.length<=1000000) (hbase:base<=w.heap.size)
 (h: ∀A' c' w',w'.ownsRow base 75 5 (.slice A' (l++l2).length c') (l++l2).length ((l++l2).flatMap Ins.cells)->w.grownBy w' v.ownBlock->Below base w w'->K (a.put o.dst (.slice A' (l++l2).length c')) w'):o.wp Tryz.prog a w K Q:=by
 obtain ⟨i0,hi,hy0,hy1,hy2⟩:=info_parts insB_info5
 refine wp_append_sl w s x 50 ho base 75 i0 _ 5 40 Tryz.underlying50 hi hy0 hy1 hy2 rfl (by omega) v l.length _ hs hown A l2.length c (fun k=>(l2.flatMap Ins.cells).getD k undef) hx hr (ins_cells_one l2) (by unfold maxLen;omega) (by omega) hbase ?_
 intro v' w' h1 h2 _
 have hl2:(l2.flatMap Ins.cells).length=l2.length*5:=by
  clear hr hb hx h h1 h2
  induction l2 with
  |nil=>rfl
  |cons y l2 ih=>rw [List.flatMap_cons,List.length_append,ih];show 5+_=_;rw [List.length_cons];omega
 rw [range_getD _ _ hl2,<-List.flatMap_append]at h1
 have hw:=below_of_grown hbase h2 fun g e=>(own_in hown g e).1
 rw [show l.length+l2.length=(l++l2).length from by simp]at h1
 obtain ⟨A',c',rfl,_,_⟩:=own_cap h1
 exact h A' c' w' h1 h2 hw
theorem AX.below3 {W0 W:World} {okb:Nat} {v:Value} {A:Option Addr} {N c:Nat} {L:List Ins} (h:AX W0 W okb v A N c L) (h3:3<=okb):Below 3 W0 W:=
 {os:=h.far.os,tape:=h.far.tape,output:=h.far.output,size:=h.far.size,block:=fun i hi=>h.far.block i (by have :=h.okl;omega) (fun e=>by have :=Option.some.inj e;omega)}
end Go.Proofs.YtmhfpjnkjlhbpaaGreatDoor
