/- barrier (plain): by fair scripts all who enter come to an end: what is left to do, who is helped. -/
import Derived.Test.YtmhfpjnkjlhbpaaGreatDoorQi35
import Derived.Test.YtmhfpjnkjlhbpaaGreatDoorQi41
namespace Go.Proofs.YtmhfpjnkjlhbpaaGreatDoor
open Go.ChangeShapes Go.WideShapes Go.ChangeAt Go.RowKit Go.Deep
set_option linter.unusedVariables false
set_option maxRecDepth 100000
set_option linter.unusedSimpArgs false
def phB (o:Nat):Nat:=if 14<=o/\o<=19 then 14 else o
def posB (th:Th):Nat:=th.pc.toNat/22*22+phB (th.pc.toNat % 22)
def spB (P:Nat) (th:Th):Nat:=
 if th.pc.toNat % 22=14 then (if P=th.pc.toNat/22 then 5 else 3)
 else if th.pc.toNat % 22=15 then (if P=th.pc.toNat/22 then 4 else if th.regs 4=((th.pc.toNat/22:Nat):Int)then 8 else 2)
 else if th.pc.toNat % 22=16 then (if th.regs 6=0 then 1 else if P=th.pc.toNat/22 then 3 else 7)
 else if th.pc.toNat % 22=17 then (if P=th.pc.toNat/22 then 2 else 6)
 else if th.pc.toNat % 22=18 then (if P=th.pc.toNat/22 then 1 else 5)
 else if th.pc.toNat % 22=19 then (if th.st=1 then 0 else if P=th.pc.toNat/22 then 6 else 4)
 else 0
theorem spB_le (P:Nat) (th:Th):spB P th<=8:=by
 unfold spB
 repeat' split
 all_goals omega
theorem pc_at {th:Th} {k o:Nat} (h:th.pc=((k*22+o:Nat):Int)) (ho:o<22):th.pc.toNat/22=k/\th.pc.toNat % 22=o:=by
 rw [h,Int.toNat_natCast];omega
theorem posB_at {th:Th} {k o:Nat} (h:th.pc=((k*22+o:Nat):Int)) (ho:o<=22):posB th=k*22+phB o:=by
 unfold posB
 rcases Nat.lt_or_ge o 22 with c|c
 ·rw [(pc_at h c).1,(pc_at h c).2]
 ·obtain rfl:o=22:=by omega
  rw [h,Int.toNat_natCast,show (k*22+22)/22=k+1 by omega,show (k*22+22)% 22=0 by omega]
  show (k+1)*22+0=k*22+22
  omega
theorem phB_le (o:Nat):phB o<=o:=by unfold phB;split<;>omega
def lfB (rd P:Nat) (v:Vw) (t:Nat):Nat:=45*(rd*22-posB (v.th t)+nd (v.th t))+spB P (v.th t)+(v.bf t).length
def wkM (N rd P:Nat) (v:Vw) (t:Nat):Nat:=if t<N then lfB rd P v t else nd (v.th t)
def muM (nt N rd P:Nat) (v:Vw):Nat:=sumT nt (wkM N rd P v)
def awk (v:Vw) (t:Nat):Bool:=decide ((v.th t).st=0)
def hlpM (nt:Nat) (v:Vw):Int×Int:=(0,(((fstB nt (awk v)).getD 0:Nat):Int))
structure BarV (N:Nat) (v:Vw) (P:Nat):Prop where
 slp: ∀x∈v.slp,x.2=17/\ ∃u,u<N/\x.1=(u:Int)/\(v.th u).st=1
 in_: ∀u,u<N->(v.th u).st=1->((u:Int),(17:Int))∈v.slp
 at19: ∀u,u<N->(v.th u).st=1->(v.th u).pc.toNat % 22=19/\((v.th u).pc.toNat/22=P∨ ∃w,w<N/\(v.th w).st=0/\((v.th w).pc.toNat % 22=11∨(v.th w).pc.toNat % 22=12))
 r12: ∀u,u<N->(v.th u).pc.toNat % 22=12->(v.th u).regs 4=4294967295
theorem sumT_more {f g:Nat->Nat} {t:Nat}: ∀W,(∀u,u<W->u≠t->g u<=f u+8)->sumT W g+(if t<W then f t else 0)<=sumT W f+(if t<W then g t else 0)+8*W
 |0,_=>by simp [sumT]
 |W+1,h=>by
  have ih:=sumT_more W (fun u hu=>h u (by omega))
  rw [sumT_succ,sumT_succ]
  by_cases c:W=t
  ·subst c
   rw [if_neg (by omega),if_neg (by omega)]at ih
   rw [if_pos (by omega),if_pos (by omega)]
   omega
  ·have :=h W (by omega) c
   by_cases d:t<W
   ·rw [if_pos d,if_pos d]at ih
    rw [if_pos (by omega),if_pos (by omega)]
    omega
   ·rw [if_neg d,if_neg d]at ih
    rw [if_neg (by omega),if_neg (by omega)]
    omega
theorem sumT_dropB {f g:Nat->Nat} {t W:Nat} (ht:t<W) (hW:W<=4) (h: ∀u,u<W->u≠t->g u<=f u+8) (hd:g t+33<=f t):sumT W g<sumT W f:=by
 have :=sumT_more W h
 rw [if_pos ht,if_pos ht]at this
 omega
theorem sumT_lessB {f g:Nat->Nat} {t W:Nat} (ht:t<W) (h: ∀u,u<W->u≠t->g u=f u) (hd:g t<f t):sumT W g<sumT W f:=by
 have :=sumT_upd ht h
 omega
section
variable {nt N rd P P' t k o:Nat} {la la':Option Nat} {v v':Vw}
theorem BarI.posle (H:BarI nt N rd v P la) (ht:t<N):posB (v.th t)<=rd*22:=by
 obtain ⟨k,o,hp,h|h⟩:=H.loc t ht
 ·rw [posB_at hp (by omega)]
  have :=phB_le o
  have :=h.1
  have :=h.2.1
  omega
 ·rw [posB_at hp (by omega),h.1,h.2.1]
  exact Nat.le_refl _
theorem mu_main (H':BarI nt N rd v' P' la') (h4:nt<=4) (hN:N<=nt) (ht:t<N) (hst:(v.th t).st=0) (hst':(v'.th t).st=0) (hpos:posB (v.th t)<posB (v'.th t)) (hbf:(v'.bf t).length<=(v.bf t).length+1)
 (hoth: ∀u,u≠t->(v'.th u).pc=(v.th u).pc/\nd (v'.th u)=nd (v.th u)/\v'.bf u=v.bf u):muM nt N rd P' v'<muM nt N rd P v:=by
 refine sumT_dropB (t:=t) (by omega) h4 (fun u hu hne=>?_) ?_
 ·obtain ⟨h1,h2,h3⟩:=hoth u hne
  unfold wkM
  split
  ·unfold lfB
   have e:posB (v'.th u)=posB (v.th u):=by unfold posB;rw [h1]
   have :=spB_le P' (v'.th u)
   rw [e,h2,h3]
   omega
  ·rw [h2];omega
 ·unfold wkM
  rw [if_pos ht,if_pos ht]
  unfold lfB
  have h1:=H'.posle ht
  have h2:=spB_le P' (v'.th t)
  have e1:nd (v.th t)=1:=by unfold nd;rw [hst];rfl
  have e2:nd (v'.th t)=1:=by unfold nd;rw [hst'];rfl
  rw [e1,e2]
  omega
theorem mu_spin (ht:t<N) (hN:N<=nt) (hst:(v.th t).st≠2) (hst':(v'.th t).st≠2) (hpos:posB (v'.th t)=posB (v.th t)) (hbf:(v'.bf t).length=(v.bf t).length) (hsp:spB P (v'.th t)<spB P (v.th t))
 (hoth: ∀u,u≠t->v'.th u=v.th u/\v'.bf u=v.bf u):muM nt N rd P v'<muM nt N rd P v:=by
 refine sumT_lessB (t:=t) (by omega) (fun u hu hne=>?_) ?_
 ·obtain ⟨h1,h2⟩:=hoth u hne
  unfold wkM lfB
  rw [h1,h2]
 ·unfold wkM
  rw [if_pos ht,if_pos ht]
  unfold lfB
  have e1:nd (v.th t)=1:=by unfold nd;rw [if_neg hst]
  have e2:nd (v'.th t)=1:=by unfold nd;rw [if_neg hst']
  rw [e1,e2,hpos,hbf]
  omega
theorem BarV.plain (V:BarV N v P) (ht:t<N) (hslp:v'.slp=v.slp) (hoth: ∀u,u≠t->v'.th u=v.th u) (hst:(v.th t).st=0) (hst':(v'.th t).st=0) (hP:P'=P∨(v'.th t).pc.toNat % 22=11)
 (h11:(v.th t).pc.toNat % 22=11->(v'.th t).pc.toNat % 22=12) (h12:(v.th t).pc.toNat % 22≠12) (hr:(v'.th t).pc.toNat % 22=12->(v'.th t).regs 4=4294967295):BarV N v' P':=by
 have ne1: ∀u,(v'.th u).st=1->u≠t:=fun u q e=>by rw [e]at q;omega
 refine ⟨fun x hx=>?_,fun u hu q=>?_,fun u hu q=>?_,fun u hu q=>?_⟩
 ·rw [hslp]at hx
  obtain ⟨h1,u,h2,h3,h4⟩:=V.slp x hx
  have hne:u≠t:=fun e=>by rw [e]at h4;omega
  exact ⟨h1,u,h2,h3,by rw [hoth u hne];exact h4⟩
 ·rw [hslp]
  rw [hoth u (ne1 u q)]at q
  exact V.in_ u hu q
 ·have hne:=ne1 u q
  rw [hoth u hne]at q⊢
  obtain ⟨h1,h2⟩:=V.at19 u hu q
  refine ⟨h1,?_⟩
  rcases h2 with h2|⟨w,w1,w2,w3⟩
  ·rcases hP with e|e
   ·exact .inl (by rw [e];exact h2)
   ·exact .inr ⟨t,ht,hst',.inl e⟩
  ·by_cases c:w=t
   ·subst c
    rcases w3 with w3|w3
    ·exact .inr ⟨w,w1,hst',.inr (h11 w3)⟩
    ·exact absurd w3 h12
   ·exact .inr ⟨w,w1,by rw [hoth w c];exact w2,by rw [hoth w c];exact w3⟩
 ·by_cases c:u=t
  ·subst c;exact hr q
  ·rw [hoth u c]at q⊢
   exact V.r12 u hu q
theorem nb_mv (H:BarI nt N rd v P la) (V:BarV N v P) (h4:nt<=4) (ht:t<N) {r r':Nat->Int} {o':Nat} (ho:o<22) (hp:v.th t=⟨((k*22+o:Nat):Int),r,0⟩) (H':BarI nt N rd v' P' la') (hth:v'.th t=⟨((k*22+o':Nat):Int),r',0⟩) (ho':o'<=22) (hph:phB o<phB o')
 (hbf:(v'.bf t).length<=(v.bf t).length+1) (hoth: ∀u,u≠t->v'.th u=v.th u/\v'.bf u=v.bf u) (hslp:v'.slp=v.slp) (hm:o'=11∨v'.mem 17=v.mem 17) (h11:o=11->o'=12) (h12:o≠12) (hr:o'=12->r' 4=4294967295):BarV N v' P'/\muM nt N rd P' v'<muM nt N rd P v:=by
 have q1:(v.th t).pc=((k*22+o:Nat):Int):=by rw [hp]
 have q2:(v'.th t).pc=((k*22+o':Nat):Int):=by rw [hth]
 have s1:(v.th t).st=0:=by rw [hp]
 have s2:(v'.th t).st=0:=by rw [hth]
 have m':o'<22->(v'.th t).pc.toNat % 22=o':=fun q=>(pc_at q2 q).2
 have m2:o'=22->(v'.th t).pc.toNat % 22=0:=fun q=>by rw [q2,Int.toNat_natCast,q];omega
 refine ⟨V.plain ht hslp (fun u hu=>(hoth u hu).1) s1 s2 ?_ (fun q=>?_) (fun q=>?_) (fun q=>?_),mu_main H' h4 H.n1.2.2.1 ht s1 s2 (by rw [posB_at q1 (by omega),posB_at q2 ho'];omega) hbf (fun u hu=>⟨by rw [(hoth u hu).1],by rw [(hoth u hu).1],(hoth u hu).2⟩)⟩
 ·rcases hm with e|e
  ·exact .inr (by rw [m' (by omega)];exact e)
  ·have h1:=H.m17
   have h2:=H'.m17
   rw [e,h1]at h2
   exact .inl (by omega)
 ·rw [(pc_at q1 ho).2]at q
  have :=h11 q
  rw [m' (by omega)];exact this
 ·rw [(pc_at q1 ho).2]at q;exact h12 q
 ·have e:o'=12:=by
   rcases Nat.lt_or_ge o' 22 with c|c
   ·rw [m' c]at q;exact q
   ·rw [m2 (by omega)]at q;omega
  rw [hth];exact hr e
theorem nb_str (H:BarI nt N rd v P la) (V:BarV N v P) (h4:nt<=4) (ht:t<N) {r:Nat->Int} (ho:o<22) (hp:v.th t=⟨((k*22+o:Nat):Int),r,0⟩) {op:Op} (hs:op.straight=true) (hz:op.sleeps=false) (H':BarI nt N rd (execV t v (k*22+o) r op) P' la') (hph:phB o<phB (o+1))
 (hm:o=10∨(execV t v (k*22+o) r op).mem 17=v.mem 17) (h12:o≠12) (hr:o=11->((execV t v (k*22+o) r op).th t).regs 4=4294967295):BarV N (execV t v (k*22+o) r op) P'/\muM nt N rd P' (execV t v (k*22+o) r op)<muM nt N rd P v:=by
 obtain ⟨r',e1,e2⟩:=straight_exec hs t v (k*22+o) r
 obtain ⟨x1,x2,_⟩:=exec_other hz t v (k*22+o) r
 exact nb_mv H V h4 ht ho hp H' (o':=o+1) e1 (by omega) hph e2 x2 x1 (hm.imp (fun e=>by omega) id) (fun q=>by omega) h12 (fun q=>by have :=hr (by omega);rw [e1]at this;exact this)
theorem nb_spn (H:BarI nt N rd v P la) (V:BarV N v P) (ht:t<N) {r r':Nat->Int} {o':Nat} (ho:14<=o/\o<=19) (hp:v.th t=⟨((k*22+o:Nat):Int),r,0⟩) (H':BarI nt N rd v' P' la') (hth:v'.th t=⟨((k*22+o':Nat):Int),r',0⟩) (ho':14<=o'/\o'<=19)
 (hbf:v'.bf t=v.bf t) (hoth: ∀u,u≠t->v'.th u=v.th u/\v'.bf u=v.bf u) (hslp:v'.slp=v.slp) (hm:v'.mem 17=v.mem 17) (hsp:spB P ⟨((k*22+o':Nat):Int),r',0⟩<spB P ⟨((k*22+o:Nat):Int),r,0⟩):BarV N v' P'/\muM nt N rd P' v'<muM nt N rd P v:=by
 have eP:P'=P:=by
  have h1:=H.m17
  have h2:=H'.m17
  rw [hm,h1]at h2
  omega
 subst eP
 have q1:(v.th t).pc=((k*22+o:Nat):Int):=by rw [hp]
 have q2:(v'.th t).pc=((k*22+o':Nat):Int):=by rw [hth]
 have m1:=(pc_at q1 (by omega)).2
 have m2:=(pc_at q2 (by omega)).2
 refine ⟨V.plain ht hslp (fun u hu=>(hoth u hu).1) (by rw [hp]) (by rw [hth]) (.inl rfl) (fun q=>by omega) (by omega) (fun q=>by omega),mu_spin ht H.n1.2.2.1 (by rw [hp];show (0:Int)≠2;decide) (by rw [hth];show (0:Int)≠2;decide) ?_ (by rw [hbf]) (by rw [hth,hp];exact hsp) hoth⟩
 rw [posB_at q1 (by omega),posB_at q2 (by omega)]
 unfold phB
 rw [if_pos ho,if_pos ho']
theorem spB_at (P k o:Nat) (r:Nat->Int) (st:Int) (ho:o<22):spB P ⟨((k*22+o:Nat):Int),r,st⟩=if o=14 then (if P=k then 5 else 3)else if o=15 then (if P=k then 4 else if r 4=(k:Int)then 8 else 2)else if o=16 then (if r 6=0 then 1 else if P=k then 3 else 7)
 else if o=17 then (if P=k then 2 else 6)else if o=18 then (if P=k then 1 else 5)else if o=19 then (if st=1 then 0 else if P=k then 6 else 4)else 0:=by
 have h:=pc_at (th:=⟨((k*22+o:Nat):Int),r,st⟩) rfl ho
 unfold spB
 rw [h.1,h.2]
theorem mv_all {th:Th} {b:List Ent} {mem:Nat->Int} {l:List Evt}:(v.mv t th b mem l).th t=th/\(v.mv t th b mem l).bf t=b/\(∀u,u≠t->(v.mv t th b mem l).th u=v.th u/\(v.mv t th b mem l).bf u=v.bf u):=
 ⟨upd_same _ _ _,upd_same _ _ _,fun u hu=>⟨upd_ne _ _ _ hu,upd_ne _ _ _ hu⟩⟩
theorem bar_next (H:BarI nt N rd v P la) (V:BarV N v P) (h4:nt<=4) (hl8:v.slp.length<=8) (ht:t<N) {r:Nat->Int} (hn:k<rd) (ho:o<22) (hp:v.th t=⟨((k*22+o:Nat):Int),r,0⟩) (hA:bA N P la (v.mem 16) t k r (v.bf t) o) {op:Op} (hop:(barL N (k*22))[o]?=some op)
 (H':BarI nt N rd (execV t v (k*22+o) r op) P' la'):BarV N (execV t v (k*22+o) r op) P'/\muM nt N rd P' (execV t v (k*22+o) r op)<muM nt N rd P v:=by
 match o,ho,hp,hA,hop,H' with
 |0,_,hp,hA,hop,H'=>
  obtain rfl:=Option.some.inj hop
  exact nb_str H V h4 ht (by decide) hp rfl rfl H' (by decide) (.inr rfl) (by decide) (fun q=>absurd q (by decide))
 |1,_,hp,hA,hop,H'=>
  obtain rfl:=Option.some.inj hop
  exact nb_str H V h4 ht (by decide) hp rfl rfl H' (by decide) (.inr rfl) (by decide) (fun q=>absurd q (by decide))
 |2,_,hp,hA,hop,H'=>
  obtain rfl:=Option.some.inj hop
  exact nb_str H V h4 ht (by decide) hp rfl rfl H' (by decide) (.inr rfl) (by decide) (fun q=>absurd q (by decide))
 |3,_,hp,hA,hop,H'=>
  obtain rfl:=Option.some.inj hop
  exact nb_str H V h4 ht (by decide) hp rfl rfl H' (by decide) (.inr (show upd v.mem 16 ((v.mem 16+r 4)% 4294967296) 17=v.mem 17 from upd_ne _ _ _ (by decide))) (by decide) (fun q=>absurd q (by decide))
 |4,_,hp,hA,hop,H'=>
  obtain rfl:=Option.some.inj hop
  exact nb_str H V h4 ht (by decide) hp rfl rfl H' (by decide) (.inr rfl) (by decide) (fun q=>absurd q (by decide))
 |5,_,hp,hA,hop,H'=>
  obtain rfl:=Option.some.inj hop
  exact nb_str H V h4 ht (by decide) hp rfl rfl H' (by decide) (.inr rfl) (by decide) (fun q=>absurd q (by decide))
 |6,_,hp,hA,hop,H'=>
  obtain rfl:=Option.some.inj hop
  by_cases c:r 6=0
  ·have e:execV t v (k*22+6) r (.zero 6 (k*22+14))=v.mv t ⟨((k*22+14:Nat):Int),r,0⟩ (v.bf t) v.mem []:=by show v.mv t ⟨if r 6=0 then _ else _,r,0⟩ _ _ _=_;rw [if_pos c]
   rw [e]at H'⊢
   exact nb_mv H V h4 ht (by decide) hp H' (o':=14) mv_all.1 (by decide) (by decide) (by rw [mv_all.2.1];omega) mv_all.2.2 rfl (.inr rfl) (by decide) (by decide) (fun q=>absurd q (by decide))
  ·have e:execV t v (k*22+6) r (.zero 6 (k*22+14))=v.mv t ⟨((k*22+7:Nat):Int),r,0⟩ (v.bf t) v.mem []:=by show v.mv t ⟨if r 6=0 then _ else _,r,0⟩ _ _ _=_;rw [if_neg c]
   rw [e]at H'⊢
   exact nb_mv H V h4 ht (by decide) hp H' (o':=7) mv_all.1 (by decide) (by decide) (by rw [mv_all.2.1];omega) mv_all.2.2 rfl (.inr rfl) (by decide) (by decide) (fun q=>absurd q (by decide))
 |7,_,hp,hA,hop,H'=>
  obtain rfl:=Option.some.inj hop
  exact nb_str H V h4 ht (by decide) hp rfl rfl H' (by decide) (.inr rfl) (by decide) (fun q=>absurd q (by decide))
 |8,_,hp,hA,hop,H'=>
  obtain rfl:=Option.some.inj hop
  exact nb_str H V h4 ht (by decide) hp rfl rfl H' (by decide) (.inr rfl) (by decide) (fun q=>absurd q (by decide))
 |9,_,hp,hA,hop,H'=>
  obtain rfl:=Option.some.inj hop
  exact nb_str H V h4 ht (by decide) hp rfl rfl H' (by decide) (.inr rfl) (by decide) (fun q=>absurd q (by decide))
 |10,_,hp,hA,hop,H'=>
  obtain rfl:=Option.some.inj hop
  exact nb_str H V h4 ht (by decide) hp rfl rfl H' (by decide) (.inl rfl) (by decide) (fun q=>absurd q (by decide))
 |11,_,hp,hA,hop,H'=>
  obtain rfl:=Option.some.inj hop
  exact nb_str H V h4 ht (by decide) hp rfl rfl H' (by decide) (.inr rfl) (by decide) (fun _=>by rw [show (execV t v (k*22+11) r (.set 4 4294967295)).th t=⟨((k*22+11+1:Nat):Int),updR r 4 4294967295,0⟩ from upd_same _ _ _];show updR r 4 4294967295 4=_;exact updR_at _ _ _)
 |12,_,hp,hA,hop,H'=>
  obtain rfl:=Option.some.inj hop
  have h4r:r 4=4294967295:=by
   have :=V.r12 t ht (by rw [hp];exact (pc_at (th:=⟨((k*22+12:Nat):Int),r,0⟩) rfl (by decide)).2)
   rw [hp]at this;exact this
  have hw:=wk_every (a:=((17:Nat):Int)) (l:=v.slp) (n:=(r 4).toNat) (fun x hx=>(V.slp x hx).1) (by rw [h4r];have :(4294967295:Int).toNat=4294967295:=rfl;omega)
  obtain ⟨w,hwe⟩: ∃w,execV t v (k*22+12) r (.wake 4 17)=w:=⟨_,rfl⟩
  have e1:w.th t=⟨((k*22+12+1:Nat):Int),updR r 4 ((wk ((17:Nat):Int) (r 4).toNat v.slp).2.length:Int),0⟩:=by rw [<-hwe];exact upd_same _ _ _
  have e2: ∀u,u≠t->w.th u=runV (wk ((17:Nat):Int) (r 4).toNat v.slp).2 v.th u:=fun u hu=>by rw [<-hwe];exact upd_ne _ _ _ hu
  have e3:w.bf=v.bf:=by rw [<-hwe];rfl
  have e4:w.slp=[]:=by rw [<-hwe];exact hw.1
  rw [hwe]at H'⊢
  have hrun: ∀u,u≠t->(w.th u).pc=(v.th u).pc/\(w.th u).regs=(v.th u).regs/\((w.th u).st=(v.th u).st∨(w.th u).st=0):=fun u hu=>by
   rw [e2 u hu]
   unfold runV
   split
   ·exact ⟨rfl,rfl,.inr rfl⟩
   ·exact ⟨rfl,rfl,.inl rfl⟩
  have hone: ∀u,u<N->u≠t->(w.th u).st≠1:=fun u hu hne q=>by
   have h1:(v.th u).st=1:=by
    rcases (hrun u hne).2.2 with z|z
    ·rw [<-z];exact q
    ·omega
   have h2:=V.in_ u hu h1
   rw [e2 u hne]at q
   unfold runV at q
   rw [if_pos (by rw [hw.2];exact List.mem_map.2 ⟨_,h2,rfl⟩)]at q
   exact absurd q (by show¬(0:Int)=1;decide)
  have hndw: ∀u,u≠t->nd (w.th u)=nd (v.th u):=fun u hu=>by
   rw [e2 u hu]
   unfold runV
   split
   ·rename_i hm
    rw [hw.2]at hm
    obtain ⟨x,hx,hxe⟩:=List.mem_map.1 hm
    obtain ⟨_,u',_,q2,q3⟩:=V.slp x hx
    have :u'=u:=by omega
    subst this
    unfold nd
    rw [q3];rfl
   ·rfl
  have q2:(w.th t).pc=((k*22+13:Nat):Int):=by rw [e1]
  refine ⟨⟨fun x hx=>absurd hx (by rw [e4];simp),fun u hu q=>?_,fun u hu q=>?_,fun u hu q=>?_⟩,mu_main H' h4 H.n1.2.2.1 ht (by rw [hp]) (by rw [e1]) (by rw [posB_at q2 (by decide),posB_at (show (v.th t).pc=((k*22+12:Nat):Int) by rw [hp]) (by decide)];show k*22+12<k*22+13;omega) (by rw [e3];omega) (fun u hu=>⟨(hrun u hu).1,hndw u hu,by rw [e3]⟩)⟩
  ·by_cases c:u=t
   ·rw [c,e1]at q;exact absurd q (by show¬(0:Int)=1;decide)
   ·exact absurd q (hone u hu c)
  ·by_cases c:u=t
   ·rw [c,e1]at q;exact absurd q (by show¬(0:Int)=1;decide)
   ·exact absurd q (hone u hu c)
  ·by_cases c:u=t
   ·rw [c,(pc_at q2 (by decide)).2]at q;exact absurd q (by decide)
   ·rw [(hrun u c).1]at q
    rw [(hrun u c).2.1]
    exact V.r12 u hu q
 |13,_,hp,hA,hop,H'=>
  obtain rfl:=Option.some.inj hop
  have e:execV t v (k*22+13) r (.jump (k*22+20))=v.mv t ⟨((k*22+20:Nat):Int),r,0⟩ (v.bf t) v.mem []:=rfl
  rw [e]at H'⊢
  exact nb_mv H V h4 ht (by decide) hp H' (o':=20) mv_all.1 (by decide) (by decide) (by rw [mv_all.2.1];omega) mv_all.2.2 rfl (.inr rfl) (by decide) (by decide) (fun q=>absurd q (by decide))
 |14,_,hp,hA,hop,H'=>
  obtain rfl:=Option.some.inj hop
  obtain ⟨_,hb,hk,_⟩:=hA
  have e:execV t v (k*22+14) r (.load 4 17)=v.mv t ⟨((k*22+15:Nat):Int),updR r 4 (seeV (v.bf t) v.mem 17),0⟩ (v.bf t) v.mem [⟨1,(t:Int),((k*22+14:Nat):Int),((17:Nat):Int),seeV (v.bf t) v.mem 17,0,0,false⟩]:=rfl
  rw [e]at H'⊢
  refine nb_spn H V ht (by decide) hp H' (o':=15) mv_all.1 (by decide) mv_all.2.1 mv_all.2.2 rfl rfl ?_
  rw [spB_at _ _ _ _ _ (by decide),spB_at _ _ _ _ _ (by decide),updR_at,hb,seeV_nil,H.m17]
  simp only [show ((15:Nat)=14)=False by simp,if_false,if_true]
  by_cases c:P=k
  ·rw [if_pos c,if_pos c];decide
  ·rw [if_neg c,if_neg c,if_neg (by omega)];decide
 |15,_,hp,hA,hop,H'=>
  obtain rfl:=Option.some.inj hop
  obtain ⟨_,hb,hk,h5,h4r⟩:=hA
  have e:execV t v (k*22+15) r (.same 6 4 5)=v.mv t ⟨((k*22+16:Nat):Int),updR r 6 (if r 4=r 5 then 1 else 0),0⟩ (v.bf t) v.mem []:=rfl
  rw [e]at H'⊢
  refine nb_spn H V ht (by decide) hp H' (o':=16) mv_all.1 (by decide) mv_all.2.1 mv_all.2.2 rfl rfl ?_
  rw [spB_at _ _ _ _ _ (by decide),spB_at _ _ _ _ _ (by decide),updR_at,h5]
  simp only [show ((16:Nat)=14)=False by simp,show ((16:Nat)=15)=False by simp,show ((15:Nat)=14)=False by simp,if_false,if_true]
  by_cases c:P=k
  ·have hr:r 4=(k:Int):=Classical.byContradiction fun z=>by have :=h4r z;omega
   rw [if_pos c,if_pos hr,if_neg (by decide),if_pos c];decide
  ·by_cases d:r 4=(k:Int)
   ·rw [if_neg c,if_pos d,if_pos d,if_neg (by decide),if_neg c];decide
   ·simp [c,d]
 |16,_,hp,hA,hop,H'=>
  obtain rfl:=Option.some.inj hop
  by_cases c:r 6=0
  ·have e:execV t v (k*22+16) r (.zero 6 (k*22+20))=v.mv t ⟨((k*22+20:Nat):Int),r,0⟩ (v.bf t) v.mem []:=by show v.mv t ⟨if r 6=0 then _ else _,r,0⟩ _ _ _=_;rw [if_pos c]
   rw [e]at H'⊢
   exact nb_mv H V h4 ht (by decide) hp H' (o':=20) mv_all.1 (by decide) (by decide) (by rw [mv_all.2.1];omega) mv_all.2.2 rfl (.inr rfl) (by decide) (by decide) (fun q=>absurd q (by decide))
  ·have e:execV t v (k*22+16) r (.zero 6 (k*22+20))=v.mv t ⟨((k*22+17:Nat):Int),r,0⟩ (v.bf t) v.mem []:=by show v.mv t ⟨if r 6=0 then _ else _,r,0⟩ _ _ _=_;rw [if_neg c]
   rw [e]at H'⊢
   refine nb_spn H V ht (by decide) hp H' (o':=17) mv_all.1 (by decide) mv_all.2.1 mv_all.2.2 rfl rfl ?_
   rw [spB_at _ _ _ _ _ (by decide),spB_at _ _ _ _ _ (by decide)]
   simp only [show ((17:Nat)=14)=False by simp,show ((17:Nat)=15)=False by simp,show ((17:Nat)=16)=False by simp,show ((16:Nat)=14)=False by simp,show ((16:Nat)=15)=False by simp,if_false,if_true,if_neg c]
   split<;>decide
 |17,_,hp,hA,hop,H'=>
  obtain rfl:=Option.some.inj hop
  have e:execV t v (k*22+17) r (.move 4 5)=v.mv t ⟨((k*22+18:Nat):Int),updR r 4 (r 5),0⟩ (v.bf t) v.mem []:=rfl
  rw [e]at H'⊢
  refine nb_spn H V ht (by decide) hp H' (o':=18) mv_all.1 (by decide) mv_all.2.1 mv_all.2.2 rfl rfl ?_
  rw [spB_at _ _ _ _ _ (by decide),spB_at _ _ _ _ _ (by decide)]
  by_cases c:P=k
  ·simp [c]
  ·simp [c]
 |18,_,hp,hA,hop,H'=>
  obtain rfl:=Option.some.inj hop
  obtain ⟨_,hb,hk,h5,h4r⟩:=hA
  by_cases c:v.mem 17=r 4
  ·have hPk:P=k:=by have :=H.m17;rw [c,h4r]at this;omega
   have e:execV t v (k*22+18) r (.wait 4 17)={v.mv t ⟨((k*22+19:Nat):Int),updR r 4 0,1⟩ (v.bf t) v.mem [⟨8,(t:Int),((k*22+18:Nat):Int),((17:Nat):Int),v.mem 17,0,0,true⟩]with slp:=if slpE v.slp (t:Int)=0 then v.slp++[((t:Int),((17:Nat):Int))]else v.slp}:=if_pos c
   have hE:slpE v.slp (t:Int)=0:=by
    have hN8:=H.n1.2.1
    unfold slpE
    rw [if_neg (by omega),if_neg (fun q=>?_)]
    obtain ⟨i,hi⟩: ∃i,fnd v.slp (t:Int)=i:=⟨_,rfl⟩
    rw [hi]at q
    have hfi:(v.slp[i].1==(t:Int))=true:=by
     unfold fnd at hi
     have :=List.findIdx_getElem (p:=fun x:Slp=>x.1==(t:Int)) (xs:=v.slp) (w:=by rw [hi];exact q)
     simpa [hi]using this
    obtain ⟨_,u,u1,u2,u3⟩:=V.slp _ (List.getElem_mem q)
    have :u=t:=by rw [u2]at hfi;simp at hfi;omega
    rw [this,hp]at u3
    exact absurd u3 (by show¬(0:Int)=1;decide)
   rw [if_pos hE]at e
   obtain ⟨w,hwe⟩: ∃w,execV t v (k*22+18) r (.wait 4 17)=w:=⟨_,rfl⟩
   have e1:w.th t=⟨((k*22+19:Nat):Int),updR r 4 0,1⟩:=by rw [<-hwe,e];exact upd_same _ _ _
   have e2: ∀u,u≠t->w.th u=v.th u/\w.bf u=v.bf u:=fun u hu=>by rw [<-hwe,e];exact ⟨upd_ne _ _ _ hu,upd_ne _ _ _ hu⟩
   have e3:w.bf t=v.bf t:=by rw [<-hwe,e];exact upd_same _ _ _
   have e4:w.slp=v.slp++[((t:Int),(17:Int))]:=by rw [<-hwe,e];rfl
   have e5:w.mem 17=v.mem 17:=by rw [<-hwe,e];rfl
   rw [hwe]at H'⊢
   have eP:P'=P:=by have h1:=H.m17;have h2:=H'.m17;rw [e5,h1]at h2;omega
   subst eP
   have q1:(v.th t).pc=((k*22+18:Nat):Int):=by rw [hp]
   have q2:(w.th t).pc=((k*22+19:Nat):Int):=by rw [e1]
   have d1:=pc_at q1 (by decide)
   have d2:=pc_at q2 (by decide)
   refine ⟨⟨fun x hx=>?_,fun u hu q=>?_,fun u hu q=>?_,fun u hu q=>?_⟩,mu_spin ht H.n1.2.2.1 (by rw [hp];show (0:Int)≠2;decide) (by rw [e1];show (1:Int)≠2;decide) (by rw [posB_at q1 (by decide),posB_at q2 (by decide)];rfl) (by rw [e3]) ?_ e2⟩
   ·rw [e4]at hx
    rcases List.mem_append.1 hx with hx|hx
    ·obtain ⟨h1,u,h2,h3,h6⟩:=V.slp x hx
     have hne:u≠t:=fun z=>by rw [z,hp]at h6;exact absurd h6 (by show¬(0:Int)=1;decide)
     exact ⟨h1,u,h2,h3,by rw [(e2 u hne).1];exact h6⟩
    ·rw [List.mem_singleton.1 hx]
     exact ⟨rfl,t,ht,rfl,by rw [e1]⟩
   ·rw [e4]
    by_cases z:u=t
    ·subst z;simp
    ·rw [(e2 u z).1]at q
     exact List.mem_append_left _ (V.in_ u hu q)
   ·by_cases z:u=t
    ·subst z
     exact ⟨d2.2,.inl (by rw [d2.1];exact hPk.symm)⟩
    ·rw [(e2 u z).1]at q⊢
     obtain ⟨h1,h2⟩:=V.at19 u hu q
     refine ⟨h1,h2.imp id (fun ⟨x,x1,x2,x3⟩=>?_)⟩
     have hne:x≠t:=fun y=>by rw [y,d1.2]at x3;omega
     exact ⟨x,x1,by rw [(e2 x hne).1];exact x2,by rw [(e2 x hne).1];exact x3⟩
   ·by_cases z:u=t
    ·subst z;rw [d2.2]at q;omega
    ·rw [(e2 u z).1]at q⊢
     exact V.r12 u hu q
   ·rw [e1,hp,spB_at _ _ _ _ _ (by decide),spB_at _ _ _ _ _ (by decide)]
    simp [hPk]
  ·have hPk:P≠k:=fun z=>c (by rw [H.m17,h4r,z])
   have e:execV t v (k*22+18) r (.wait 4 17)=v.mv t ⟨((k*22+19:Nat):Int),updR r 4 1,0⟩ (v.bf t) v.mem [⟨8,(t:Int),((k*22+18:Nat):Int),((17:Nat):Int),v.mem 17,0,0,false⟩]:=if_neg c
   rw [e]at H'⊢
   refine nb_spn H V ht (by decide) hp H' (o':=19) mv_all.1 (by decide) mv_all.2.1 mv_all.2.2 rfl rfl ?_
   rw [spB_at _ _ _ _ _ (by decide),spB_at _ _ _ _ _ (by decide)]
   simp [hPk]
 |19,_,hp,hA,hop,H'=>
  obtain rfl:=Option.some.inj hop
  have e:execV t v (k*22+19) r (.jump (k*22+14))=v.mv t ⟨((k*22+14:Nat):Int),r,0⟩ (v.bf t) v.mem []:=rfl
  rw [e]at H'⊢
  refine nb_spn H V ht (by decide) hp H' (o':=14) mv_all.1 (by decide) mv_all.2.1 mv_all.2.2 rfl rfl ?_
  rw [spB_at _ _ _ _ _ (by decide),spB_at _ _ _ _ _ (by decide)]
  by_cases c:P=k
  ·simp [c]
  ·simp [c]
 |20,_,hp,hA,hop,H'=>
  obtain rfl:=Option.some.inj hop
  exact nb_str H V h4 ht (by decide) hp rfl rfl H' (by decide) (.inr rfl) (by decide) (fun q=>absurd q (by decide))
 |21,_,hp,hA,hop,H'=>
  obtain rfl:=Option.some.inj hop
  exact nb_str H V h4 ht (by decide) hp rfl rfl H' (by decide) (.inr rfl) (by decide) (fun q=>absurd q (by decide))
 |o+22,ho,_,_,_,_=>exact absurd ho (by omega)
theorem BarV.awake (H:BarI nt N rd v P la) (V:BarV N v P) (h: ∀t,t<nt->(v.th t).st≠0): ∀t,t<nt->(v.th t).st=2/\(t<N->v.bf t=[]/\(v.th t).pc=((rd*22:Nat):Int)):=by
 have hN:=H.n1.2.2.1
 have noone: ∀t,t<N->(v.th t).st≠1:=fun t ht hs=>by
  have hall: ∀u,u<N->(v.th u).st=1/\arr P (v.th u)=1:=fun u hu=>by
   have hP: ∀w,w<N->(v.th w).st=1->(v.th w).pc.toNat/22=P:=fun w hw q=>by
    rcases (V.at19 w hw q).2 with z|⟨x,x1,x2,_⟩
    ·exact z
    ·exact absurd x2 (h x (by omega))
   obtain ⟨k,o,hp,q|q⟩:=H.loc u hu
   ·have hs1:(v.th u).st=1:=q.2.2.1.resolve_left (h u (by omega))
    have h19:=(V.at19 u hu hs1).1
    have hk:=hP u hu hs1
    rw [(pc_at hp q.2.1).1]at hk
    rw [(pc_at hp q.2.1).2]at h19
    exact ⟨hs1,by rw [arrP_at hp q.2.1,if_pos ⟨hk,by omega⟩]⟩
   ·
    exfalso
    obtain ⟨k',o',hp',q'|q'⟩:=H.loc t ht
    ·have hk:=hP t ht hs
     rw [(pc_at hp' q'.2.1).1]at hk
     have h1:=q.2.2.2.1
     have h2:=q.1
     have h3:=q'.1
     omega
    ·have :=q'.2.2.1
     omega
  cases hla:la with
  |none=>
   have h1:=(H.none_ hla).2
   have h2:(sumT N fun t=>arr P (v.th t))=sumT N fun _=>1:=sumT_congr (fun u hu=>(hall u hu).2)
   rw [h2,sumT_const]at h1
   omega
  |some u=>
   have hu:=(H.some_ u hla).1
   obtain ⟨k,o,hp,q|q⟩:=H.loc u hu
   ·have h19:=(V.at19 u hu (hall u hu).1).1
    rw [(pc_at hp q.2.1).2]at h19
    subst h19
    exact q.2.2.2.1 hla
   ·exact q.2.2.2.2.1 hla
 intro t ht
 rcases Nat.lt_or_ge t N with c|c
 ·obtain ⟨k,o,hp,q|q⟩:=H.loc t c
  ·exact absurd (q.2.2.1.resolve_left (h t ht)) (noone t c)
  ·refine ⟨q.2.2.1.resolve_left (h t ht),fun _=>⟨q.2.2.2.2.2,?_⟩⟩
   rw [hp,q.1,q.2.1];rfl
 ·exact ⟨(H.out t c ht).2.1.resolve_left (h t ht),fun z=>absurd z (by omega)⟩
theorem muM_zero (H:BarI nt N rd v P la) (V:BarV N v P) (h: ∀t,t<nt->(v.th t).st≠0):muM nt N rd P v=0:=by
 have ha:=V.awake H h
 refine sumT_none (fun t ht=>?_)
 obtain ⟨h1,h2⟩:=ha t ht
 have hnd:nd (v.th t)=0:=if_pos h1
 unfold wkM
 split
 ·rename_i c
  obtain ⟨h3,h4⟩:=h2 c
  have h4':(v.th t).pc=((rd*22+0:Nat):Int):=h4
  have e:=posB_at h4' (by decide)
  have d:=pc_at h4' (by decide)
  have es:spB P (v.th t)=0:=by
   unfold spB
   rw [d.2];rfl
  unfold lfB
  rw [hnd,e,h3,es]
  show 45*(rd*22-(rd*22+0)+0)+0+0=0
  omega
 ·exact hnd
end
def GoodB (nt N rd m:Nat) (h x:Int×Int) (v':Vw):Prop:= ∃P la,BarI nt N rd v' P la/\BarV N v' P/\(muM nt N rd P v'<m∨(muM nt N rd P v'=m/\(m=0∨(hlpM nt v'=h/\x≠h))))
theorem BarV.same {N P:Nat} {v v':Vw} (V:BarV N v P) (h1:v'.th=v.th) (h2:v'.slp=v.slp):BarV N v' P:=by
 refine ⟨?_,?_,?_,?_⟩
 ·rw [h1,h2];exact V.slp
 ·rw [h1,h2];exact V.in_
 ·rw [h1];exact V.at19
 ·rw [h1];exact V.r12
theorem bar_helps {B:MB} {s:Mst} {N rd P:Nat} {la:Option Nat} (hw:Wf B s) (h4:B.codes.length<=4) (hC:MeetB B N rd) (H:BarI B.codes.length N rd (vw s) P la) (V:BarV N (vw s) P) (x:Int×Int) (hx2:x.1≠2):
 GoodB B.codes.length N rd (muM B.codes.length N rd P (vw s)) (hlpM B.codes.length (vw s)) x (vw (tPick B s x)):=by
 have hN:=H.n1.2.2.1
 have hsl8:(vw s).slp.length<=8:=by
  have h1:=hw.ok.ok.slp.len
  have h2:=hw.ok.ok.nt
  show s.slp.length<=8
  omega
 refine pick_cases (P:=GoodB B.codes.length N rd (muM B.codes.length N rd P (vw s)) (hlpM B.codes.length (vw s)) x) hw x (fun h0 h1=>?_) (fun t ht hx hb=>?_) (fun t ht hx hst=>?_) (fun t ht hx _=>absurd (by rw [hx]) hx2)
 ·refine ⟨P,la,H,V,.inr ⟨rfl,?_⟩⟩
  cases ha:fstB B.codes.length (awk (vw s))with
  |none=>exact .inl (muM_zero H V (fun t ht=>by have :=fstB_none ha ht;unfold awk at this;exact of_decide_eq_false this))
  |some u=>
   obtain ⟨u1,u2⟩:=fstB_some ha
   refine .inr ⟨rfl,fun e=>?_⟩
   unfold hlpM at e
   rw [ha]at e
   exact h0 u u1 e (of_decide_eq_true u2)
 ·
  have hf:=H.flush ht hb
  obtain ⟨y,l,hbl⟩: ∃y l,(vw s).bf t=y::l:=by
   cases hq:(vw s).bf t with
   |nil=>exact absurd hq hb
   |cons y l=>exact ⟨y,l,rfl⟩
  have e:flushV t (vw s)=⟨(vw s).th,upd (vw s).bf t l,upd (vw s).mem y.1.toNat y.2,(vw s).slp,(vw s).evs++[⟨3,(t:Int),0,y.1,y.2,0,0,false⟩]⟩:=by unfold flushV;rw [hbl]
  have htN:t<N:=by
   rcases Nat.lt_or_ge t N with c|c
   ·exact c
   ·exact absurd (H.out t c ht).2.2 hb
  rw [e]at hf⊢
  refine ⟨P,la,hf,V.same rfl rfl,.inl ?_⟩
  refine sumT_lessB (t:=t) (by omega) (fun u hu hne=>?_) ?_
  ·unfold wkM lfB
   show (if u<N then 45*(rd*22-posB ((vw s).th u)+nd ((vw s).th u))+spB P ((vw s).th u)+(upd (vw s).bf t l u).length else _)=_
   rw [upd_ne _ _ _ hne]
  ·unfold wkM
   rw [if_pos htN,if_pos htN]
   unfold lfB
   show 45*(rd*22-posB ((vw s).th t)+nd ((vw s).th t))+spB P ((vw s).th t)+(upd (vw s).bf t l t).length<45*(rd*22-posB ((vw s).th t)+nd ((vw s).th t))+spB P ((vw s).th t)+((vw s).bf t).length
   rw [upd_same,hbl,List.length_cons]
   omega
 ·rcases Nat.lt_or_ge t N with htN|htN
  ·obtain ⟨k,o,hpc,hl|hl⟩:=H.loc t htN
   ·obtain ⟨op,hop,hk⟩:=bar_exec H htN hl.1 hl.2.1 hpc hl.2.2.2
    have hth:thM s t=⟨((k*22+o:Nat):Int),(thM s t).regs,0⟩:=Th.parts hpc hst
    refine .inl ⟨k*22+o,(thM s t).regs,op,(hC.hC t htN).at_ hw ht hl.1 hop hth,fun h1 _=>?_⟩
    obtain ⟨P',la',H'⟩:=hk h1
    obtain ⟨V',hm⟩:=bar_next (P':=P') (la':=la') H V h4 hsl8 htN hl.1 hl.2.1 hth hl.2.2.2 hop H'
    exact ⟨P',la',H',V',.inl hm⟩
   ·have h0:o=0:=hl.2.1
    rw [h0]at hpc
    have hlen:((B.codes.getD t cdd).len:Int)<=(thM s t).pc:=by
     rw [(hC.hC t htN).len]
     have hpc':(thM s t).pc=((k*22+0:Nat):Int):=hpc
     rw [hpc',hl.1];exact Int.le_refl _
    refine .inr ⟨hlen,P,la,H.quiet htN (fun x hx=>(by rw [List.mem_singleton.1 hx];exact (by decide:(12:Int)≠7))) hpc (by decide) (k':=k) (o':=0) hpc (by decide) ⟨rfl,by decide,by decide⟩ ⟨k,0,hpc,.inr ⟨hl.1,rfl,.inr rfl,hl.2.2.2⟩⟩,?_,.inl ?_⟩
    ·have hd:=(pc_at (th:=thM s t) hpc (by decide)).2
     have hst0:((vw s).th t).st=0:=hst
     obtain ⟨y,hy⟩: ∃y,(vw s).mv t ⟨(thM s t).pc,(thM s t).regs,2⟩ ((vw s).bf t) (vw s).mem [⟨12,(t:Int),(thM s t).pc,0,0,0,0,false⟩]=y:=⟨_,rfl⟩
     have y1:y.th t=⟨(thM s t).pc,(thM s t).regs,2⟩:=by rw [<-hy];exact upd_same _ _ _
     have y2: ∀u,u≠t->y.th u=(vw s).th u:=fun u hu=>by rw [<-hy];exact upd_ne _ _ _ hu
     have y3:y.slp=(vw s).slp:=by rw [<-hy];rfl
     rw [hy]
     have ne1: ∀u,(y.th u).st=1->u≠t:=fun u q e=>by rw [e,y1]at q;exact absurd q (by show¬(2:Int)=1;decide)
     refine ⟨fun x hx=>?_,fun u hu q=>?_,fun u hu q=>?_,fun u hu q=>?_⟩
     ·rw [y3]at hx
      obtain ⟨h1,u,h2,h3,h6⟩:=V.slp x hx
      have hne:u≠t:=fun z=>by rw [z]at h6;omega
      exact ⟨h1,u,h2,h3,by rw [y2 u hne];exact h6⟩
     ·rw [y3]
      rw [y2 u (ne1 u q)]at q
      exact V.in_ u hu q
     ·have hne:=ne1 u q
      rw [y2 u hne]at q⊢
      obtain ⟨h1,h2⟩:=V.at19 u hu q
      refine ⟨h1,h2.imp id (fun ⟨x,x1,x2,x3⟩=>?_)⟩
      have hne2:x≠t:=fun z=>by
       rw [z]at x3
       have hd':((vw s).th t).pc.toNat % 22=0:=hd
       omega
      exact ⟨x,x1,by rw [y2 x hne2];exact x2,by rw [y2 x hne2];exact x3⟩
     ·by_cases z:u=t
      ·subst z
       rw [y1]at q
       exfalso
       have q':(thM s u).pc.toNat % 22=12:=q
       omega
      ·rw [y2 u z]at q⊢
       exact V.r12 u hu q
    ·refine sumT_lessB (t:=t) (by omega) (fun u hu hne=>?_) ?_
     ·unfold wkM lfB
      rw [show ((vw s).mv t ⟨(thM s t).pc,(thM s t).regs,2⟩ ((vw s).bf t) (vw s).mem [⟨12,(t:Int),(thM s t).pc,0,0,0,0,false⟩]).th u=(vw s).th u from upd_ne _ _ _ hne,show ((vw s).mv t ⟨(thM s t).pc,(thM s t).regs,2⟩ ((vw s).bf t) (vw s).mem [⟨12,(t:Int),(thM s t).pc,0,0,0,0,false⟩]).bf u=(vw s).bf u from upd_ne _ _ _ hne]
     ·unfold wkM
      rw [if_pos htN,if_pos htN]
      unfold lfB
      rw [show ((vw s).mv t ⟨(thM s t).pc,(thM s t).regs,2⟩ ((vw s).bf t) (vw s).mem [⟨12,(t:Int),(thM s t).pc,0,0,0,0,false⟩]).th t=⟨(thM s t).pc,(thM s t).regs,2⟩ from upd_same _ _ _,show ((vw s).mv t ⟨(thM s t).pc,(thM s t).regs,2⟩ ((vw s).bf t) (vw s).mem [⟨12,(t:Int),(thM s t).pc,0,0,0,0,false⟩]).bf t=(vw s).bf t from upd_same _ _ _]
      have n1:nd ((vw s).th t)=1:=by unfold nd;rw [show ((vw s).th t).st=0 from hst];rfl
      have n2:nd ⟨(thM s t).pc,(thM s t).regs,2⟩=0:=rfl
      have p1:posB ⟨(thM s t).pc,(thM s t).regs,2⟩=posB ((vw s).th t):=rfl
      have s1:spB P ⟨(thM s t).pc,(thM s t).regs,2⟩<=8:=spB_le _ _
      rw [n1,n2,p1]
      omega
  ·
   obtain ⟨o1,o2,o3⟩:=H.out t htN ht
   refine .inr ⟨by rw [hC.hO t htN ht];have :(thM s t).pc=0:=o1;omega,P,la,H.outer htN (th:=⟨(thM s t).pc,(thM s t).regs,2⟩) o1 (.inr rfl) o3 (fun x hx=>by rw [List.mem_singleton.1 hx];exact (by decide:(12:Int)≠7)),?_,.inl ?_⟩
   ·obtain ⟨y,hy⟩: ∃y,(vw s).mv t ⟨(thM s t).pc,(thM s t).regs,2⟩ ((vw s).bf t) (vw s).mem [⟨12,(t:Int),(thM s t).pc,0,0,0,0,false⟩]=y:=⟨_,rfl⟩
    have y2: ∀u,u<N->y.th u=(vw s).th u:=fun u hu=>by rw [<-hy];exact upd_ne _ _ _ (by omega)
    have y3:y.slp=(vw s).slp:=by rw [<-hy];rfl
    rw [hy]
    refine ⟨fun x hx=>?_,fun u hu q=>?_,fun u hu q=>?_,fun u hu q=>?_⟩
    ·rw [y3]at hx
     obtain ⟨h1,u,h2,h3,h6⟩:=V.slp x hx
     exact ⟨h1,u,h2,h3,by rw [y2 u h2];exact h6⟩
    ·rw [y3];rw [y2 u hu]at q;exact V.in_ u hu q
    ·rw [y2 u hu]at q⊢
     obtain ⟨h1,h2⟩:=V.at19 u hu q
     exact ⟨h1,h2.imp id (fun ⟨x,x1,x2,x3⟩=>⟨x,x1,by rw [y2 x x1];exact x2,by rw [y2 x x1];exact x3⟩)⟩
    ·rw [y2 u hu]at q⊢;exact V.r12 u hu q
   ·refine sumT_lessB (t:=t) ht (fun u hu hne=>?_) ?_
    ·unfold wkM lfB
     rw [show ((vw s).mv t ⟨(thM s t).pc,(thM s t).regs,2⟩ ((vw s).bf t) (vw s).mem [⟨12,(t:Int),(thM s t).pc,0,0,0,0,false⟩]).th u=(vw s).th u from upd_ne _ _ _ hne,show ((vw s).mv t ⟨(thM s t).pc,(thM s t).regs,2⟩ ((vw s).bf t) (vw s).mem [⟨12,(t:Int),(thM s t).pc,0,0,0,0,false⟩]).bf u=(vw s).bf u from upd_ne _ _ _ hne]
    ·unfold wkM
     rw [if_neg (by omega),if_neg (by omega)]
     rw [show ((vw s).mv t ⟨(thM s t).pc,(thM s t).regs,2⟩ ((vw s).bf t) (vw s).mem [⟨12,(t:Int),(thM s t).pc,0,0,0,0,false⟩]).th t=⟨(thM s t).pc,(thM s t).regs,2⟩ from upd_same _ _ _]
     have n1:nd ((vw s).th t)=1:=by unfold nd;rw [show ((vw s).th t).st=0 from hst];rfl
     rw [n1]
     show 0<1
     decide
def BarR (N rd:Nat) (B:MB) (s:Mst) (m:Nat) (h:Int×Int):Prop:=Wf B s/\ ∃P la,BarI B.codes.length N rd (vw s) P la/\BarV N (vw s) P/\m=muM B.codes.length N rd P (vw s)/\h=hlpM B.codes.length (vw s)
theorem bar_lives {B:MB} {N rd:Nat} (hB:MBok B) (h4:B.codes.length<=4) (hC:MeetB B N rd):Helps B B.codes.length (fun x=>x.1≠2) (BarR N rd B):=by
 refine ⟨fun {s m h} hR hm=>?_,fun {s m h x} hR hx=>?_⟩
 ·obtain ⟨hw,P,la,H,V,rfl,rfl⟩:=hR
  cases ha:fstB B.codes.length (awk (vw s))with
  |none=>exact absurd (muM_zero H V (fun t ht=>by have :=fstB_none ha ht;unfold awk at this;exact of_decide_eq_false this)) (by omega)
  |some u=>exact ⟨0,u,by decide,(fstB_some ha).1,by unfold hlpM;rw [ha];rfl⟩
 ·obtain ⟨hw,P,la,H,V,rfl,rfl⟩:=hR
  obtain ⟨P',la',H',V',q⟩:=bar_helps hw h4 hC H V x hx
  exact ⟨_,_,⟨hw.pick hB x,P',la',H',V',rfl,rfl⟩,q⟩
theorem BarR.done {N rd:Nat} {B:MB} {s:Mst} {h:Int×Int} (hR:BarR N rd B s 0 h): ∀t,t<B.codes.length->(thM s t).st=2/\bufM s t=[]:=by
 obtain ⟨hw,P,la,H,V,hm,_⟩:=hR
 have hz:=fun t ht=>sumT_zero hm.symm t ht
 have hst: ∀t,t<B.codes.length->((vw s).th t).st=2:=fun t ht=>by
  have z:=hz t ht
  by_cases c:((vw s).th t).st=2
  ·exact c
  ·have n1:nd ((vw s).th t)=1:=if_neg c
   unfold wkM at z
   split at z
   ·unfold lfB at z;rw [n1]at z;omega
   ·omega
 intro t ht
 refine ⟨hst t ht,?_⟩
 have ha:=V.awake H (fun t ht q=>by have :=hst t ht;omega)
 rcases Nat.lt_or_ge t N with c|c
 ·exact ((ha t ht).2 c).1
 ·exact (H.out t c ht).2.2
theorem BarI.fin {nt N rd P:Nat} {la:Option Nat} {v:Vw} (H:BarI nt N rd v P la) (h: ∀t,t<N->(v.th t).st=2):v.mem 16=0/\v.mem 17=(rd:Int)/\ ∀t,t<N->cntE (isMW 18 t) v.evs=rd:=by
 have loc: ∀t,t<N->(v.th t).pc=((rd*22+0:Nat):Int)/\P=rd:=fun t ht=>by
  obtain ⟨k,o,hp,q|q⟩:=H.loc t ht
  ·have :=h t ht;have :=q.2.2.1;omega
  ·have h1:=q.1
   have h2:=q.2.1
   have h3:=q.2.2.2.1
   rw [h1,h2]at hp
   exact ⟨hp,by omega⟩
 have h0:=loc 0 H.n1.1
 have harr: ∀t,t<N->arr P (v.th t)=0:=fun t ht=>by
  rw [arrP_at (loc t ht).1 (by decide),if_neg (by omega)]
 have hla:la=none:=by
  cases hla:la with
  |none=>rfl
  |some u=>
   have :=(H.some_ u hla).2 0 H.n1.1
   rw [harr 0 H.n1.1]at this
   omega
 refine ⟨?_,?_,fun t ht=>?_⟩
 ·rw [(H.none_ hla).1,sumT_none harr];rfl
 ·rw [H.m17,h0.2]
 ·rw [H.k18 t ht,knocks_at (loc t ht).1 (by decide)];rfl
theorem bar_begin {B:MB} {s:Mst} {N rd:Nat} (hw:Wf B s) (h4:B.codes.length<=4) (hN:1<=N/\N<=B.codes.length) (hrd:rd<=4) (h1: ∀t,(vw s).th t=tha) (h2: ∀t,(vw s).bf t=[]) (h3:(vw s).mem 16=0/\(vw s).mem 17=0) (h5:(vw s).evs=[]) (h6:(vw s).slp=[]): ∃m h,m<=17000/\BarR N rd B s m h:=by
 have H:=bar_start (nt:=B.codes.length) (N:=N) (rd:=rd) (v:=vw s) ⟨hN.1,by omega,hN.2,by omega⟩ h1 h2 h3 h5
 have V:BarV N (vw s) 0:=by
  refine ⟨fun x hx=>absurd hx (by rw [h6];simp),fun u hu q=>?_,fun u hu q=>?_,fun u hu q=>?_⟩
  ·rw [h1]at q;exact absurd q (by decide)
  ·rw [h1]at q;exact absurd q (by decide)
  ·rw [h1]at q;exact absurd q (by decide)
 refine ⟨_,_,?_,hw,0,none,H,V,rfl,rfl⟩
 have :=sumT_le (W:=B.codes.length) (f:=wkM N rd 0 (vw s)) (k:=4100) (fun t ht=>by
  have hs:=spB_le 0 ((vw s).th t)
  unfold wkM lfB nd
  rw [h2]
  split
  ·show _+0<=_
   split<;>omega
  ·split<;>omega)
 unfold muM
 have hh:B.codes.length*4100<=4*4100:=Nat.mul_le_mul_right _ h4
 omega
end Go.Proofs.YtmhfpjnkjlhbpaaGreatDoor
