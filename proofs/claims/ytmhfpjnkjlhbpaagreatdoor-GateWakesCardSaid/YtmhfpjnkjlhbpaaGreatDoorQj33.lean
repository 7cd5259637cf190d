/- condition (plain): what a pick does; by fair scripts all come to an end. -/
import Derived.Test.YtmhfpjnkjlhbpaaGreatDoorQj32
namespace Go.Proofs.YtmhfpjnkjlhbpaaGreatDoor
open Go.ChangeShapes Go.WideShapes Go.ChangeAt Go.RowKit Go.Deep
set_option linter.unusedVariables false
set_option maxRecDepth 100000
set_option linter.unusedSimpArgs false
section
variable {n t:Nat} {v v':Vw}
theorem con_br (H:ConI n v) (hG: ∀t,t<n->2<=(v.th t).pc) (hl8:v.slp.length<=8) {o:Nat} {r:Nat->Int} (ho:o<7) (hp:v.th n=⟨(o:Int),r,0⟩): ∃op,bcL[o]?=some op/\ConN n v (execV n v o r op) n:=by
 obtain ⟨o1,p1,p2,hb,p4,p5,p6⟩:=H.br
 have :o1=o:=by rw [hp]at p1;have p1':(o:Int)=(o1:Int):=p1;omega
 subst this
 rw [hp]at p5 p6
 have n0: ∀x∈([]:List Evt),x.who=(n:Int):=fun x hx=>by cases hx
 have n1: ∀{y:Evt},y.who=(n:Int)-> ∀x∈[y],x.who=(n:Int):=fun h x hx=>by rw [List.mem_singleton.1 hx];exact h
 have z0: ∀x∈([]:List Evt),isEvn n x=false:=fun x hx=>by cases hx
 have z1: ∀{y:Evt},isEvn n y=false-> ∀x∈[y],isEvn n x=false:=fun h x hx=>by rw [List.mem_singleton.1 hx];exact h
 have h16:=H.m16
 rw [hp]at h16
 match o1,ho,hp,p5,p6,h16 with
 |0,_,hp,p5,p6,h16=>
  refine ⟨_,rfl,con_mb H hp hb (by decide) ⟨1,rfl,by decide,rfl,.inl rfl,fun q=>absurd q (by decide),fun q=>absurd q (by decide)⟩ (fun _ _=>rfl) (by rw [h16];rfl) hG (.inl (by decide)) (n1 rfl) (.inr ⟨rfl,_,rfl,?_⟩)⟩
  unfold isEvn;simp
 |1,_,hp,p5,p6,h16=>
  exact ⟨_,rfl,con_mb H hp hb (by decide) ⟨2,rfl,by decide,rfl,.inl rfl,fun _=>by show updR r 4 1 4=1;exact updR_at _ _ _,fun q=>absurd q (by decide)⟩ (fun _ _=>rfl) (by rw [h16];rfl) hG (.inl (by decide)) n0 (.inl ⟨by decide,z0⟩)⟩
 |2,_,hp,p5,p6,h16=>
  have h4:r 4=1:=p5 rfl
  have h0:v.mem 16=0:=h16
  exact ⟨_,rfl,con_mb H hp hb (by decide) ⟨3,rfl,by decide,rfl,.inl rfl,fun q=>absurd q (by decide),fun q=>absurd q (by decide)⟩ (fun a ha=>upd_ne _ _ _ ha) (by rw [upd_same,h0,h4];rfl) hG (.inl (by decide)) (n1 rfl) (.inl ⟨by decide,z1 (by unfold isEvn;rfl)⟩)⟩
 |3,_,hp,p5,p6,h16=>
  exact ⟨_,rfl,con_mb H hp hb (by decide) ⟨4,rfl,by decide,rfl,.inl rfl,fun q=>absurd q (by decide),fun _=>by show updR r 4 4294967295 4=4294967295;exact updR_at _ _ _⟩ (fun _ _=>rfl) (by rw [h16];rfl) hG (.inl (by decide)) n0 (.inl ⟨by decide,z0⟩)⟩
 |4,_,hp,p5,p6,h16=>
  refine ⟨_,rfl,?_⟩
  have h4r:r 4=4294967295:=p6 rfl
  have hw:=wk_every (a:=((16:Nat):Int)) (l:=v.slp) (n:=(r 4).toNat) (fun x hx=>(H.slp x hx).1) (by rw [h4r];have :(4294967295:Int).toNat=4294967295:=rfl;omega)
  obtain ⟨w,hwe⟩: ∃w,execV n v 4 r (.wake 4 16)=w:=⟨_,rfl⟩
  have e1:w.th n=⟨((5:Nat):Int),updR r 4 ((wk ((16:Nat):Int) (r 4).toNat v.slp).2.length:Int),0⟩:=by rw [<-hwe];exact upd_same _ _ _
  have e2: ∀u,u≠n->w.th u=runV (wk ((16:Nat):Int) (r 4).toNat v.slp).2 v.th u:=fun u hu=>by rw [<-hwe];exact upd_ne _ _ _ hu
  have e3:w.bf=v.bf:=by rw [<-hwe];rfl
  have e4:w.slp=[]:=by rw [<-hwe];exact hw.1
  have e5:w.mem=v.mem:=by rw [<-hwe];rfl
  have e6: ∃z,w.evs=v.evs++[⟨9,(n:Int),((4:Nat):Int),((16:Nat):Int),z,0,0,false⟩]:=⟨_,by rw [<-hwe];rfl⟩
  obtain ⟨z,e6⟩:=e6
  show ConN n v (execV n v 4 r (.wake 4 16)) n
  rw [hwe]
  have ne: ∀u,u<n->u≠n:=fun u hu=>by omega
  have hrun: ∀u,u≠n->(w.th u).pc=(v.th u).pc/\(w.th u).regs=(v.th u).regs/\((w.th u).st=(v.th u).st∨(w.th u).st=0):=fun u hu=>by
   rw [e2 u hu]
   unfold runV
   split
   ·exact ⟨rfl,rfl,.inr rfl⟩
   ·exact ⟨rfl,rfl,.inl rfl⟩
  have hone: ∀u,u<n->(w.th u).st≠1:=fun u hu q=>by
   have h1:(v.th u).st=1:=by
    rcases (hrun u (ne u hu)).2.2 with y|y
    ·rw [<-y];exact q
    ·omega
   have h2:=H.in_ u hu h1
   rw [e2 u (ne u hu)]at q
   unfold runV at q
   rw [if_pos (by rw [hw.2];exact List.mem_map.2 ⟨_,h2,rfl⟩)]at q
   exact absurd q (by show¬(0:Int)=1;decide)
  have hws: ∀u,u≠n->((u:Int)∈(wk ((16:Nat):Int) (r 4).toNat v.slp).2)->(v.th u).st=1:=fun u hu hm=>by
   rw [hw.2]at hm
   obtain ⟨x,hx,hxe⟩:=List.mem_map.1 hm
   obtain ⟨_,u',_,q2,q3⟩:=H.slp x hx
   have :u'=u:=by omega
   subst this;exact q3
  have hndw: ∀u,u≠n->nd (w.th u)=nd (v.th u)/\((v.th u).st=2->(w.th u).st=2):=fun u hu=>by
   rw [e2 u hu]
   unfold runV
   split
   ·rename_i hm
    have h1:=hws u hu hm
    exact ⟨by unfold nd;rw [h1];rfl,fun q=>by omega⟩
   ·exact ⟨rfl,id⟩
  refine ⟨⟨H.n3,fun u hu=>?_,by rw [e1,e3,hb];exact ⟨5,rfl,by decide,rfl,.inl rfl,fun q=>absurd q (by decide),fun q=>absurd q (by decide)⟩,by rw [e5,e1,h16];rfl,fun u hu=>by rw [e5];exact H.own u hu,fun x hx=>absurd hx (by rw [e4];simp),fun u hu q=>absurd q (hone u hu),.inr (fun u hu=>by rw [(hrun u (ne u hu)).1];exact hG u hu),fun u hu q=>absurd q (hone u hu),fun x hx=>?_,fun u hu=>?_,fun u hu x hx=>?_,?_⟩,
   fun u hu=>⟨(hrun u hu).1,by unfold wkC;rw [(hrun u hu).1,(hndw u hu).1,e3],(hndw u hu).2⟩,by rw [e1,hp];show ((4:Nat):Int)<=((5:Nat):Int);decide,?_⟩
  ·obtain ⟨o,q1,q2,q3,q4,q5,q6⟩:=H.sl u hu
   refine ⟨o,(hrun u (ne u hu)).1.trans q1,q2,by rw [e3];exact q3,?_,by rw [(hrun u (ne u hu)).2.1];exact q5,by rw [(hrun u (ne u hu)).2.1];exact q6⟩
   rcases (hrun u (ne u hu)).2.2 with y|y
   ·rw [y];exact q4
   ·exact .inl y
  ·rw [e6]at hx
   rcases List.mem_append.1 hx with y|y
   ·exact H.evw x y
   ·intro h7;rw [List.mem_singleton.1 y]at h7;exact absurd h7 (by show (9:Int)≠7;decide)
  ·rw [e6,cntE_no (fun x hx=>by rw [List.mem_singleton.1 hx];unfold isEvn;rfl),H.evc u hu]
   unfold begS
   rw [(hrun u (ne u hu)).1]
  ·rw [e6]at hx
   intro h7 hwho hodd
   rw [(hrun u (ne u hu)).1]
   rcases List.mem_append.1 hx with y|y
   ·exact H.evo u hu x y h7 hwho hodd
   ·rw [List.mem_singleton.1 y]at h7;exact absurd h7 (by show (9:Int)≠7;decide)
  ·have hv:=H.evb
   rw [hp]at hv
   rw [e6,cntE_no (fun x hx=>by rw [List.mem_singleton.1 hx];unfold isEvn;rfl),hv,e1];rfl
  ·rw [wkC_b (o:=5) (by rw [e1]),wkC_b (o:=4) (by rw [hp]),e1,hp]
   show (7-5)+1<(7-4)+1
   decide
 |5,_,hp,p5,p6,h16=>
  have hslp:v.slp=[]:=by
   cases hs:v.slp with
   |nil=>rfl
   |cons x l=>
    obtain ⟨_,u,u1,_,u3⟩:=H.slp x (by rw [hs];simp)
    have :=H.aw u u1 u3
    rw [hp]at this
    exact absurd this (by show¬((5:Nat):Int)<=4;decide)
  exact ⟨_,rfl,con_mb H hp hb (by decide) ⟨6,rfl,by decide,rfl,.inl rfl,fun q=>absurd q (by decide),fun q=>absurd q (by decide)⟩ (fun _ _=>rfl) (by rw [h16];rfl) hG (.inr hslp) n0 (.inl ⟨by decide,z0⟩)⟩
 |6,_,hp,p5,p6,h16=>
  have hslp:v.slp=[]:=by
   cases hs:v.slp with
   |nil=>rfl
   |cons x l=>
    obtain ⟨_,u,u1,_,u3⟩:=H.slp x (by rw [hs];simp)
    have :=H.aw u u1 u3
    rw [hp]at this
    exact absurd this (by show¬((6:Nat):Int)<=4;decide)
  exact ⟨_,rfl,con_mb H hp hb (by decide) ⟨7,rfl,by decide,rfl,.inl rfl,fun q=>absurd q (by decide),fun q=>absurd q (by decide)⟩ (fun _ _=>rfl) (by rw [h16];rfl) hG (.inr hslp) (n1 rfl) (.inl ⟨by decide,z1 (by unfold isEvn;rfl)⟩)⟩
 |o+7,ho,_,_,_,_=>exact absurd ho (by omega)
theorem con_flush (H:ConI n v) (ht:t<=n) (hb:v.bf t≠[]):ConN n v (flushV t v) t:=by
 have htn:t<n:=by
  rcases Nat.lt_or_ge t n with c|c
  ·exact c
  ·have :t=n:=by omega
   obtain ⟨_,_,_,q,_⟩:=H.br
   exact absurd q (this▸hb)
 obtain ⟨o,p1,p2,p3,p4,p5,p6⟩:=H.sl t htn
 obtain ⟨q1,q2,q3⟩:=p3.resolve_left hb
 have e:flushV t v=⟨v.th,upd v.bf t [],upd v.mem (17+t) 0,v.slp,v.evs++[⟨3,(t:Int),0,((17+t:Nat):Int),0,0,0,false⟩]⟩:=by
  unfold flushV;rw [q3];rfl
 rw [e]
 have hn:n≠t:=by omega
 refine ⟨⟨H.n3,fun u hu=>?_,?_,?_,fun u hu=>?_,H.slp,H.in_,H.G,H.aw,fun x hx=>?_,fun u hu=>?_,fun u hu x hx=>?_,?_⟩,fun u hu=>⟨rfl,?_,id⟩,Int.le_refl _,?_⟩
 ·show SlA u (v.th u) (upd v.bf t [] u)
  by_cases c:u=t
  ·subst c
   rw [upd_same]
   exact ⟨o,p1,p2,.inl rfl,p4,p5,p6⟩
  ·rw [upd_ne _ _ _ c];exact H.sl u hu
 ·show BrA (v.th n) (upd v.bf t [] n)
  rw [upd_ne _ _ _ hn];exact H.br
 ·show upd v.mem (17+t) 0 16=_
  rw [upd_ne _ _ _ (by omega)];exact H.m16
 ·show upd v.mem (17+t) 0 (17+u)=0
  by_cases c:u=t
  ·rw [c,upd_same]
  ·rw [upd_ne _ _ _ (by omega)];exact H.own u hu
 ·rcases List.mem_append.1 hx with y|y
  ·exact H.evw x y
  ·intro h7;rw [List.mem_singleton.1 y]at h7;exact absurd h7 (by show (3:Int)≠7;decide)
 ·show cntE (isEvn u) (v.evs++_)=_
  rw [cntE_no (fun x hx=>by rw [List.mem_singleton.1 hx];unfold isEvn;rfl)];exact H.evc u hu
 ·intro h7 hwho hodd
  rcases List.mem_append.1 hx with y|y
  ·exact H.evo u hu x y h7 hwho hodd
  ·rw [List.mem_singleton.1 y]at h7;exact absurd h7 (by show (3:Int)≠7;decide)
 ·show cntE (isEvn n) (v.evs++_)=_
  rw [cntE_no (fun x hx=>by rw [List.mem_singleton.1 hx];unfold isEvn;rfl)];exact H.evb
 ·unfold wkC
  show (if u<n then _+(upd v.bf t [] u).length else _)=_
  rw [upd_ne _ _ _ hu]
 ·unfold wkC
  rw [if_pos htn,if_pos htn]
  show (10-(v.th t).pc.toNat)+(if (v.th t).pc<=2 then 1 else 0)+nd (v.th t)+(upd v.bf t [] t).length<(10-(v.th t).pc.toNat)+(if (v.th t).pc<=2 then 1 else 0)+nd (v.th t)+(v.bf t).length
  rw [upd_same,q3]
  exact Nat.lt_succ_self _
theorem con_end (H:ConI n v) (ht:t<=n) (hst:(v.th t).st=0) (ho:(t<n/\(v.th t).pc=10)∨(t=n/\(v.th t).pc=7)):ConN n v (v.mv t ⟨(v.th t).pc,(v.th t).regs,2⟩ (v.bf t) v.mem [⟨12,(t:Int),(v.th t).pc,0,0,0,0,false⟩]) t:=by
 obtain ⟨y,hy⟩: ∃y,v.mv t ⟨(v.th t).pc,(v.th t).regs,2⟩ (v.bf t) v.mem [⟨12,(t:Int),(v.th t).pc,0,0,0,0,false⟩]=y:=⟨_,rfl⟩
 have e1:y.th t=⟨(v.th t).pc,(v.th t).regs,2⟩:=by rw [<-hy];exact upd_same _ _ _
 have e2: ∀u,u≠t->y.th u=v.th u:=fun u hu=>by rw [<-hy];exact upd_ne _ _ _ hu
 have e3: ∀u,y.bf u=v.bf u:=fun u=>by
  rw [<-hy]
  by_cases c:u=t
  ·rw [c];exact upd_same _ _ _
  ·exact upd_ne _ _ _ c
 have e4:y.slp=v.slp:=by rw [<-hy];rfl
 have e5:y.mem=v.mem:=by rw [<-hy];rfl
 have e6:y.evs=v.evs++[⟨12,(t:Int),(v.th t).pc,0,0,0,0,false⟩]:=by rw [<-hy];rfl
 rw [hy]
 have epc: ∀u,(y.th u).pc=(v.th u).pc:=fun u=>by
  by_cases c:u=t
  ·rw [c,e1]
  ·rw [e2 u c]
 have ereg: ∀u,(y.th u).regs=(v.th u).regs:=fun u=>by
  by_cases c:u=t
  ·rw [c,e1]
  ·rw [e2 u c]
 have ne1: ∀u,(y.th u).st=1->u≠t:=fun u q z=>by rw [z,e1]at q;exact absurd q (by show¬(2:Int)=1;decide)
 refine ⟨⟨H.n3,fun u hu=>?_,?_,by rw [e5,epc];exact H.m16,fun u hu=>by rw [e5];exact H.own u hu,fun x hx=>?_,fun u hu q=>?_,by rw [epc];exact H.G.imp id (fun h u hu=>by rw [epc];exact h u hu),fun u hu q=>?_,fun x hx=>?_,fun u hu=>?_,fun u hu x hx=>?_,?_⟩,fun u hu=>⟨epc u,by unfold wkC;rw [e2 u hu,e3],by rw [e2 u hu];exact id⟩,by rw [epc];exact Int.le_refl _,?_⟩
 ·obtain ⟨o,p1,p2,p3,p4,p5,p6⟩:=H.sl u hu
  refine ⟨o,(epc u).trans p1,p2,by rw [e3];exact p3,?_,by rw [ereg];exact p5,by rw [ereg];exact p6⟩
  by_cases c:u=t
  ·subst c
   rcases ho with ⟨_,q⟩|⟨q,_⟩
   ·exact .inr (.inr ⟨by omega,by rw [e1]⟩)
   ·omega
  ·rw [e2 u c];exact p4
 ·obtain ⟨o,p1,p2,p3,p4,p5,p6⟩:=H.br
  refine ⟨o,(epc n).trans p1,p2,(e3 n).trans p3,?_,by rw [ereg];exact p5,by rw [ereg];exact p6⟩
  by_cases c:n=t
  ·subst c
   rcases ho with ⟨q,_⟩|⟨_,q⟩
   ·omega
   ·exact .inr ⟨by omega,by rw [e1]⟩
  ·rw [e2 n c];exact p4
 ·rw [e4]at hx
  obtain ⟨h1,u,h2,h3,h4⟩:=H.slp x hx
  have hne:u≠t:=fun z=>by rw [z,hst]at h4;exact absurd h4 (by decide)
  exact ⟨h1,u,h2,h3,by rw [e2 u hne];exact h4⟩
 ·rw [e4]
  rw [e2 u (ne1 u q)]at q
  exact H.in_ u hu q
 ·rw [epc]
  rw [e2 u (ne1 u q)]at q
  exact H.aw u hu q
 ·rw [e6]at hx
  rcases List.mem_append.1 hx with z|z
  ·exact H.evw x z
  ·intro h7;rw [List.mem_singleton.1 z]at h7;exact absurd h7 (by show (12:Int)≠7;decide)
 ·rw [e6,cntE_no (fun x hx=>by rw [List.mem_singleton.1 hx];unfold isEvn;rfl),H.evc u hu]
  unfold begS
  rw [epc]
 ·rw [e6]at hx
  intro h7 hwho hodd
  rw [epc]
  rcases List.mem_append.1 hx with z|z
  ·exact H.evo u hu x z h7 hwho hodd
  ·rw [List.mem_singleton.1 z]at h7;exact absurd h7 (by show (12:Int)≠7;decide)
 ·rw [e6,cntE_no (fun x hx=>by rw [List.mem_singleton.1 hx];unfold isEvn;rfl),H.evb,epc]
 ·have n1:nd (v.th t)=1:=by unfold nd;rw [hst];rfl
  have n2:nd (y.th t)=0:=by rw [e1];rfl
  unfold wkC
  rw [epc,e3,n1,n2]
  split<;>omega
theorem con_rouse (H:ConI n v) {i:Nat} (hi:i<v.slp.length) (hit:v.slp[i].1=(t:Int)) (hnd:(v.slp.map (·.1)).Nodup):let v':={v.mv t ⟨(v.th t).pc,(v.th t).regs,0⟩ (v.bf t) v.mem [⟨11,(t:Int),0,0,0,0,0,false⟩]with slp:=v.slp.eraseIdx i}
 ConI n v'/\(∀u,(v'.th u).pc=(v.th u).pc)/\ ∀u,wkC n v' u=wkC n v u:=by
 intro y
 obtain ⟨hx16,t',t1,t2,t3⟩:=H.slp _ (List.getElem_mem hi)
 have :t'=t:=by omega
 subst this
 have e1:y.th t'=⟨(v.th t').pc,(v.th t').regs,0⟩:=upd_same _ _ _
 have e2: ∀u,u≠t'->y.th u=v.th u:=fun u hu=>upd_ne _ _ _ hu
 have e3: ∀u,y.bf u=v.bf u:=fun u=>by
  by_cases c:u=t'
  ·rw [c];exact upd_same _ _ _
  ·exact upd_ne _ _ _ c
 have e4:y.slp=v.slp.eraseIdx i:=rfl
 have e5:y.mem=v.mem:=rfl
 have e6:y.evs=v.evs++[⟨11,(t':Int),0,0,0,0,0,false⟩]:=rfl
 have epc: ∀u,(y.th u).pc=(v.th u).pc:=fun u=>by
  by_cases c:u=t'
  ·rw [c,e1]
  ·rw [e2 u c]
 have ereg: ∀u,(y.th u).regs=(v.th u).regs:=fun u=>by
  by_cases c:u=t'
  ·rw [c,e1]
  ·rw [e2 u c]
 have ne1: ∀u,(y.th u).st=1->u≠t':=fun u q z=>by rw [z,e1]at q;exact absurd q (by show¬(0:Int)=1;decide)
 have hn:n≠t':=by omega
 have end_: ∀u,nd (y.th u)=nd (v.th u):=fun u=>by
  by_cases c:u=t'
  ·subst c
   unfold nd
   rw [e1,t3];rfl
  ·rw [e2 u c]
 have who: ∀x∈v.slp.eraseIdx i,x∈v.slp/\x.1≠(t':Int):=fun x hx=>by
  obtain ⟨j,hj,hne,he⟩:=List.mem_eraseIdx_iff_getElem.1 hx
  refine ⟨by rw [<-he];exact List.getElem_mem hj,fun q=>?_⟩
  have h1:=List.getElem_inj (i:=j) (j:=i) (h₀:=by simpa using hj) (h₁:=by simpa using hi) hnd
  have :j=i:=h1.1 (by simp only [List.getElem_map];rw [he,hit,q])
  exact hne this
 refine ⟨⟨H.n3,fun u hu=>?_,?_,by rw [e5,epc];exact H.m16,fun u hu=>by rw [e5];exact H.own u hu,fun x hx=>?_,fun u hu q=>?_,by rw [epc];exact H.G.imp id (fun h u hu=>by rw [epc];exact h u hu),fun u hu q=>?_,fun x hx=>?_,fun u hu=>?_,fun u hu x hx=>?_,?_⟩,epc,fun u=>by unfold wkC;rw [epc,end_,e3]⟩
 ·obtain ⟨o,p1,p2,p3,p4,p5,p6⟩:=H.sl u hu
  refine ⟨o,(epc u).trans p1,p2,by rw [e3];exact p3,?_,by rw [ereg];exact p5,by rw [ereg];exact p6⟩
  by_cases c:u=t'
  ·exact .inl (by rw [c,e1])
  ·rw [e2 u c];exact p4
 ·rw [e2 n hn,e3];exact H.br
 ·rw [e4]at hx
  obtain ⟨w1,w2⟩:=who x hx
  obtain ⟨h1,u,h2,h3,h4⟩:=H.slp x w1
  have hne:u≠t':=fun z=>w2 (by rw [h3,z])
  exact ⟨h1,u,h2,h3,by rw [e2 u hne];exact h4⟩
 ·rw [e4]
  have hne:=ne1 u q
  rw [e2 u hne]at q
  have hm:=H.in_ u hu q
  obtain ⟨j,hj,he⟩:=List.getElem_of_mem hm
  refine List.mem_eraseIdx_iff_getElem.2 ⟨j,hj,fun z=>?_,he⟩
  subst z
  rw [he]at hit
  have :(u:Int)=(t':Int):=hit
  omega
 ·rw [epc]
  rw [e2 u (ne1 u q)]at q
  exact H.aw u hu q
 ·rw [e6]at hx
  rcases List.mem_append.1 hx with z|z
  ·exact H.evw x z
  ·intro h7;rw [List.mem_singleton.1 z]at h7;exact absurd h7 (by show (11:Int)≠7;decide)
 ·rw [e6,cntE_no (fun x hx=>by rw [List.mem_singleton.1 hx];unfold isEvn;rfl),H.evc u hu]
  unfold begS
  rw [epc]
 ·rw [e6]at hx
  intro h7 hwho hodd
  rw [epc]
  rcases List.mem_append.1 hx with z|z
  ·exact H.evo u hu x z h7 hwho hodd
  ·rw [List.mem_singleton.1 z]at h7;exact absurd h7 (by show (11:Int)≠7;decide)
 ·rw [e6,cntE_no (fun x hx=>by rw [List.mem_singleton.1 hx];unfold isEvn;rfl),H.evb,epc]
end
structure ConB (B:MB) (n:Nat):Prop where
 len:B.codes.length=n+1
 sl: ∀t,t<n->Flat B t (condL t)
 br:Flat B n bcL
structure ConP (n:Nat) (v v':Vw) (x:Int×Int):Prop where
 I:ConI n v'
 mono: ∀u,(v.th u).pc<=(v'.th u).pc
 oth: ∀u:Nat,(u:Int)≠x.2->(v'.th u).pc=(v.th u).pc
 le: ∀u,wkC n v' u<=wkC n v u
 lt: ∀u:Nat,u<=n->x=(0,(u:Int))->(v.th u).st=0->wkC n v' u<wkC n v u
 go:x.1=2∨(∃u,u<=n/\wkC n v' u<wkC n v u)∨(v'=v/\ ∀u:Nat,u<=n->x=(0,(u:Int))->(v.th u).st≠0)
theorem ConN.p {n t:Nat} {v v':Vw} {x:Int×Int} (h:ConN n v v' t) (ht:t<=n) (hx:x.2=(t:Int)):ConP n v v' x:=by
 refine ⟨h.I,fun u=>?_,fun u hu=>(h.oth u (fun e=>hu (by rw [e,hx]))).1,fun u=>?_,fun u _ e _=>?_,.inr (.inl ⟨t,ht,h.less⟩)⟩
 ·by_cases c:u=t
  ·rw [c];exact h.mono
  ·rw [(h.oth u c).1];exact Int.le_refl _
 ·by_cases c:u=t
  ·rw [c];exact Nat.le_of_lt h.less
  ·rw [(h.oth u c).2.1];exact Nat.le_refl _
 ·rw [e]at hx
  have :u=t:=by have hx':(u:Int)=(t:Int):=hx;omega
  rw [this];exact h.less
theorem con_pick {B:MB} {s:Mst} {n:Nat} (hw:Wf B s) (hC:ConB B n) (H:ConI n (vw s)) (x:Int×Int) (hG:x=(0,(n:Int))-> ∀t,t<n->2<=((vw s).th t).pc):ConP n (vw s) (vw (tPick B s x)) x:=by
 have hsl8:(vw s).slp.length<=8:=by
  have h1:=hw.ok.ok.slp.len
  have h2:=hw.ok.ok.nt
  have h3:=H.n3.2
  have h4:=hC.len
  show s.slp.length<=8
  omega
 refine pick_cases (P:=fun v'=>ConP n (vw s) v' x) hw x (fun h0 h1=>?_) (fun t ht hx hb=>?_) (fun t ht hx hst=>?_) (fun t ht hx hr=>?_)
 ·exact ⟨H,fun _=>Int.le_refl _,fun _ _=>rfl,fun _=>Nat.le_refl _,fun u hu e q=>absurd q (h0 u (by rw [hC.len];omega) e),.inr (.inr ⟨rfl,fun u hu e=>h0 u (by rw [hC.len];omega) e⟩)⟩
 ·rw [hC.len]at ht
  exact (con_flush H (by omega) hb).p (by omega) hx
 ·have htn:t<n+1:=by rw [<-hC.len];exact ht
  have hx2:x.2=(t:Int):=by rw [hx]
  rcases Nat.lt_or_ge t n with c|c
  ·obtain ⟨o,p1,p2,p3,p4,p5,p6⟩:=H.sl t c
   have p1':(thM s t).pc=(o:Int):=p1
   rcases Nat.lt_or_ge o 10 with d|d
   ·have hth:thM s t=⟨(o:Int),(thM s t).regs,0⟩:=by rw [<-hst,<-p1']
    obtain ⟨op,hop,hk⟩:=con_sl H c d hth
    exact .inl ⟨o,(thM s t).regs,op,(hC.sl t c).at_ hw ht hop hth,fun h1 _=>(hk h1).p (by omega) hx2⟩
   ·have ho:o=10:=by omega
    subst ho
    refine .inr ⟨by rw [(hC.sl t c).len,p1'];exact Int.le_refl _,?_⟩
    exact (con_end H (by omega) hst (.inl ⟨c,p1⟩)).p (by omega) hx2
  ·have hn:t=n:=by omega
   subst hn
   obtain ⟨o,p1,p2,p3,p4,p5,p6⟩:=H.br
   have p1':(thM s t).pc=(o:Int):=p1
   rcases Nat.lt_or_ge o 7 with d|d
   ·have hth:thM s t=⟨(o:Int),(thM s t).regs,0⟩:=by rw [<-hst,<-p1']
    obtain ⟨op,hop,hk⟩:=con_br H (hG hx) hsl8 d hth
    exact .inl ⟨o,(thM s t).regs,op,hC.br.at_ hw ht hop hth,fun _ _=>hk.p (Nat.le_refl _) hx2⟩
   ·have ho:o=7:=by omega
    subst ho
    refine .inr ⟨by rw [hC.br.len,p1'];exact Int.le_refl _,?_⟩
    exact (con_end H (Nat.le_refl _) hst (.inr ⟨rfl,p1⟩)).p (Nat.le_refl _) hx2
 ·have hfi:s.slp[fnd s.slp (t:Int)].1=(t:Int):=by
   have :=List.findIdx_getElem (p:=fun x:Slp=>x.1==(t:Int)) (xs:=s.slp) (w:=hr)
   have h2:(s.slp[fnd s.slp (t:Int)].1==(t:Int))=true:=this
   simpa using h2
  obtain ⟨q1,q2,q3⟩:=con_rouse (t:=t) H hr hfi hw.ok.ok.slp.nd
  refine ⟨q1,fun u=>Int.le_of_eq (q2 u).symm,fun u _=>q2 u,fun u=>Nat.le_of_eq (q3 u),fun u _ e _=>?_,.inl (by rw [hx])⟩
  rw [hx]at e
  injection e with e1 _
  exact absurd e1 (by decide)
def ConR (n:Nat) (B:MB) (s:Mst) (m:Nat) (h:Int×Int):Prop:=Wf B s/\ConI n (vw s)/\(∀t,t<n->2<=((vw s).th t).pc)/\m=sumT (n+1) (wkC n (vw s))/\h=hlpM (n+1) (vw s)
theorem ConI.asleep {n:Nat} {v:Vw} (H:ConI n v) (h: ∀t,t<n+1->(v.th t).st≠0): ∀t,t<n+1->(v.th t).st=2:=by
 obtain ⟨o,p1,p2,p3,p4,p5,p6⟩:=H.br
 obtain ⟨q1,q2⟩:=p4.resolve_left (h n (by omega))
 intro t ht
 rcases Nat.lt_or_ge t n with c|c
 ·obtain ⟨o',r1,r2,r3,r4,_⟩:=H.sl t c
  rcases r4 with z|⟨_,z⟩|⟨_,z⟩
  ·exact absurd z (h t ht)
  ·have :=H.aw t c z
   omega
  ·exact z
 ·have :t=n:=by omega
  rw [this];exact q2
theorem ConI.fin {n:Nat} {v:Vw} (H:ConI n v) (h: ∀t,t<n+1->(v.th t).st=2):sumT (n+1) (wkC n v)=0:=by
 refine sumT_none (fun t ht=>?_)
 have hs:=h t ht
 have n0:nd (v.th t)=0:=if_pos hs
 rcases Nat.lt_or_ge t n with c|c
 ·obtain ⟨o,r1,r2,r3,r4,_⟩:=H.sl t c
  have ho:o=10:=by rcases r4 with z|⟨_,z⟩|⟨z,_⟩<;>omega
  subst ho
  have hb:v.bf t=[]:=r3.resolve_right (fun q=>by omega)
  rw [wkC_at c r1,n0,hb];rfl
 ·have :t=n:=by omega
  subst this
  obtain ⟨o,p1,p2,p3,p4,p5,p6⟩:=H.br
  have ho:o=7:=by rcases p4 with z|⟨z,_⟩<;>omega
  subst ho
  rw [wkC_b p1,n0]
theorem sumT_leC {W:Nat} {f g:Nat->Nat} (h: ∀t,t<W->f t<=g t):sumT W f<=sumT W g:=by
 induction W with
 |zero=>exact Nat.le_refl _
 |succ W ih=>
  have h1:=ih (fun t ht=>h t (by omega))
  have h2:=h W (by omega)
  rw [sumT_succ,sumT_succ];omega
theorem con_lives {B:MB} {n:Nat} (hB:MBok B) (hC:ConB B n):Helps B (n+1) (fun x=>x.1≠2) (ConR n B):=by
 refine ⟨fun {s m h} hR hm=>?_,fun {s m h x} hR hx=>?_⟩
 ·obtain ⟨hw,H,hG,rfl,rfl⟩:=hR
  cases ha:fstB (n+1) (awk (vw s))with
  |none=>
   have :=H.fin (H.asleep (fun t ht=>by have :=fstB_none ha ht;unfold awk at this;exact of_decide_eq_false this))
   omega
  |some u=>exact ⟨0,u,by decide,(fstB_some ha).1,by unfold hlpM;rw [ha];rfl⟩
 ·obtain ⟨hw,H,hG,rfl,rfl⟩:=hR
  have P:=con_pick hw hC H x (fun _=>hG)
  refine ⟨_,_,⟨hw.pick hB x,P.I,fun t ht=>Int.le_trans (hG t ht) (P.mono t),rfl,rfl⟩,?_⟩
  rcases P.go with q|⟨u,u1,u2⟩|⟨q,q2⟩
  ·exact absurd q hx
  ·refine .inl ?_
   have h1:=sumT_leC (W:=n+1) (f:=wkC n (vw (tPick B s x))) (g:=wkC n (vw s)) (fun t _=>P.le t)
   rcases Nat.lt_or_ge (sumT (n+1) (wkC n (vw (tPick B s x)))) (sumT (n+1) (wkC n (vw s)))with c|c
   ·exact c
   ·exfalso
    have h3: ∀W,u<W->sumT W (wkC n (vw (tPick B s x)))<sumT W (wkC n (vw s)):=fun W=>by
     induction W with
     |zero=>intro z;omega
     |succ W ih=>
      intro z
      rw [sumT_succ,sumT_succ]
      by_cases d:u=W
      ·rw [<-d]
       have h4:=sumT_leC (W:=u) (f:=wkC n (vw (tPick B s x))) (g:=wkC n (vw s)) (fun t _=>P.le t)
       omega
      ·have h4:=ih (by omega)
       have h5:=P.le W
       omega
    have :=h3 (n+1) (by omega)
    omega
  ·rw [q]
   refine .inr ⟨rfl,?_⟩
   cases ha:fstB (n+1) (awk (vw s))with
   |none=>exact .inl (H.fin (H.asleep (fun t ht=>by have :=fstB_none ha ht;unfold awk at this;exact of_decide_eq_false this)))
   |some u=>
    obtain ⟨u1,u2⟩:=fstB_some ha
    refine .inr ⟨rfl,fun e=>?_⟩
    unfold hlpM at e
    rw [ha]at e
    exact q2 u (by omega) e (of_decide_eq_true u2)
theorem ConR.done {n:Nat} {B:MB} {s:Mst} {h:Int×Int} (hR:ConR n B s 0 h): ∀t,t<n+1->(thM s t).st=2/\bufM s t=[]:=by
 obtain ⟨hw,H,hG,hm,_⟩:=hR
 intro t ht
 have hz:=sumT_zero hm.symm t ht
 have hst:((vw s).th t).st=2:=by
  by_cases c:((vw s).th t).st=2
  ·exact c
  ·have n1:nd ((vw s).th t)=1:=if_neg c
   unfold wkC at hz
   rw [n1]at hz
   split at hz<;>omega
 refine ⟨hst,?_⟩
 rcases Nat.lt_or_ge t n with c|c
 ·obtain ⟨o,r1,r2,r3,r4,_⟩:=H.sl t c
  exact r3.resolve_right (fun q=>by rcases r4 with z|⟨_,z⟩|⟨z,_⟩<;>omega)
 ·have :t=n:=by omega
  subst this
  obtain ⟨_,_,_,q,_⟩:=H.br
  exact q
end Go.Proofs.YtmhfpjnkjlhbpaaGreatDoor
