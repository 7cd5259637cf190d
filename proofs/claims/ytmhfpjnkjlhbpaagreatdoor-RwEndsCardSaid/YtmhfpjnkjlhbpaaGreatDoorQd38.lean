/- rw (plain): by fair scripts that rouse nobody all come to an end. -/
import Derived.Test.YtmhfpjnkjlhbpaaGreatDoorQd37
namespace Go.Proofs.YtmhfpjnkjlhbpaaGreatDoor
open Go.ChangeShapes Go.WideShapes Go.ChangeAt Go.RowKit Go.Deep
set_option linter.unusedVariables false
set_option maxRecDepth 100000
set_option linter.unusedSimpArgs false
theorem rw_ops {t q o:Nat} {k:Bool} {op:Op} (h:(rwRd t k q)[o]?=some op):op.sleeps=false∨(op= .wait 4 16/\((k=true/\o=9)∨(k=false/\o=19)))∨(op= .wake 4 16/\((k=true/\o=38)∨(k=false/\o=45))):=by
 cases k
 ·match o,h with
  |0,h=>obtain rfl:_=op:=Option.some.inj h;exact .inl rfl
  |1,h=>obtain rfl:_=op:=Option.some.inj h;exact .inl rfl
  |2,h=>obtain rfl:_=op:=Option.some.inj h;exact .inl rfl
  |3,h=>obtain rfl:_=op:=Option.some.inj h;exact .inl rfl
  |4,h=>obtain rfl:_=op:=Option.some.inj h;exact .inl rfl
  |5,h=>obtain rfl:_=op:=Option.some.inj h;exact .inl rfl
  |6,h=>obtain rfl:_=op:=Option.some.inj h;exact .inl rfl
  |7,h=>obtain rfl:_=op:=Option.some.inj h;exact .inl rfl
  |8,h=>obtain rfl:_=op:=Option.some.inj h;exact .inl rfl
  |9,h=>obtain rfl:_=op:=Option.some.inj h;exact .inl rfl
  |10,h=>obtain rfl:_=op:=Option.some.inj h;exact .inl rfl
  |11,h=>obtain rfl:_=op:=Option.some.inj h;exact .inl rfl
  |12,h=>obtain rfl:_=op:=Option.some.inj h;exact .inl rfl
  |13,h=>obtain rfl:_=op:=Option.some.inj h;exact .inl rfl
  |14,h=>obtain rfl:_=op:=Option.some.inj h;exact .inl rfl
  |15,h=>obtain rfl:_=op:=Option.some.inj h;exact .inl rfl
  |16,h=>obtain rfl:_=op:=Option.some.inj h;exact .inl rfl
  |17,h=>obtain rfl:_=op:=Option.some.inj h;exact .inl rfl
  |18,h=>obtain rfl:_=op:=Option.some.inj h;exact .inl rfl
  |19,h=>obtain rfl:_=op:=Option.some.inj h;exact .inr (.inl ⟨rfl,.inr ⟨rfl,rfl⟩⟩)
  |20,h=>obtain rfl:_=op:=Option.some.inj h;exact .inl rfl
  |21,h=>obtain rfl:_=op:=Option.some.inj h;exact .inl rfl
  |22,h=>obtain rfl:_=op:=Option.some.inj h;exact .inl rfl
  |23,h=>obtain rfl:_=op:=Option.some.inj h;exact .inl rfl
  |24,h=>obtain rfl:_=op:=Option.some.inj h;exact .inl rfl
  |25,h=>obtain rfl:_=op:=Option.some.inj h;exact .inl rfl
  |26,h=>obtain rfl:_=op:=Option.some.inj h;exact .inl rfl
  |27,h=>obtain rfl:_=op:=Option.some.inj h;exact .inl rfl
  |28,h=>obtain rfl:_=op:=Option.some.inj h;exact .inl rfl
  |29,h=>obtain rfl:_=op:=Option.some.inj h;exact .inl rfl
  |30,h=>obtain rfl:_=op:=Option.some.inj h;exact .inl rfl
  |31,h=>obtain rfl:_=op:=Option.some.inj h;exact .inl rfl
  |32,h=>obtain rfl:_=op:=Option.some.inj h;exact .inl rfl
  |33,h=>obtain rfl:_=op:=Option.some.inj h;exact .inl rfl
  |34,h=>obtain rfl:_=op:=Option.some.inj h;exact .inl rfl
  |35,h=>obtain rfl:_=op:=Option.some.inj h;exact .inl rfl
  |36,h=>obtain rfl:_=op:=Option.some.inj h;exact .inl rfl
  |37,h=>obtain rfl:_=op:=Option.some.inj h;exact .inl rfl
  |38,h=>obtain rfl:_=op:=Option.some.inj h;exact .inl rfl
  |39,h=>obtain rfl:_=op:=Option.some.inj h;exact .inl rfl
  |40,h=>obtain rfl:_=op:=Option.some.inj h;exact .inl rfl
  |41,h=>obtain rfl:_=op:=Option.some.inj h;exact .inl rfl
  |42,h=>obtain rfl:_=op:=Option.some.inj h;exact .inl rfl
  |43,h=>obtain rfl:_=op:=Option.some.inj h;exact .inl rfl
  |44,h=>obtain rfl:_=op:=Option.some.inj h;exact .inl rfl
  |45,h=>obtain rfl:_=op:=Option.some.inj h;exact .inr (.inr ⟨rfl,.inr ⟨rfl,rfl⟩⟩)
  |46,h=>obtain rfl:_=op:=Option.some.inj h;exact .inl rfl
  |47,h=>obtain rfl:_=op:=Option.some.inj h;exact .inl rfl
  |o+48,h=>exact absurd (List.getElem?_eq_some_iff.1 h).1 (by rw [rwRd_len];show¬o+48<48;omega)
 ·match o,h with
  |0,h=>obtain rfl:_=op:=Option.some.inj h;exact .inl rfl
  |1,h=>obtain rfl:_=op:=Option.some.inj h;exact .inl rfl
  |2,h=>obtain rfl:_=op:=Option.some.inj h;exact .inl rfl
  |3,h=>obtain rfl:_=op:=Option.some.inj h;exact .inl rfl
  |4,h=>obtain rfl:_=op:=Option.some.inj h;exact .inl rfl
  |5,h=>obtain rfl:_=op:=Option.some.inj h;exact .inl rfl
  |6,h=>obtain rfl:_=op:=Option.some.inj h;exact .inl rfl
  |7,h=>obtain rfl:_=op:=Option.some.inj h;exact .inl rfl
  |8,h=>obtain rfl:_=op:=Option.some.inj h;exact .inl rfl
  |9,h=>obtain rfl:_=op:=Option.some.inj h;exact .inr (.inl ⟨rfl,.inl ⟨rfl,rfl⟩⟩)
  |10,h=>obtain rfl:_=op:=Option.some.inj h;exact .inl rfl
  |11,h=>obtain rfl:_=op:=Option.some.inj h;exact .inl rfl
  |12,h=>obtain rfl:_=op:=Option.some.inj h;exact .inl rfl
  |13,h=>obtain rfl:_=op:=Option.some.inj h;exact .inl rfl
  |14,h=>obtain rfl:_=op:=Option.some.inj h;exact .inl rfl
  |15,h=>obtain rfl:_=op:=Option.some.inj h;exact .inl rfl
  |16,h=>obtain rfl:_=op:=Option.some.inj h;exact .inl rfl
  |17,h=>obtain rfl:_=op:=Option.some.inj h;exact .inl rfl
  |18,h=>obtain rfl:_=op:=Option.some.inj h;exact .inl rfl
  |19,h=>obtain rfl:_=op:=Option.some.inj h;exact .inl rfl
  |20,h=>obtain rfl:_=op:=Option.some.inj h;exact .inl rfl
  |21,h=>obtain rfl:_=op:=Option.some.inj h;exact .inl rfl
  |22,h=>obtain rfl:_=op:=Option.some.inj h;exact .inl rfl
  |23,h=>obtain rfl:_=op:=Option.some.inj h;exact .inl rfl
  |24,h=>obtain rfl:_=op:=Option.some.inj h;exact .inl rfl
  |25,h=>obtain rfl:_=op:=Option.some.inj h;exact .inl rfl
  |26,h=>obtain rfl:_=op:=Option.some.inj h;exact .inl rfl
  |27,h=>obtain rfl:_=op:=Option.some.inj h;exact .inl rfl
  |28,h=>obtain rfl:_=op:=Option.some.inj h;exact .inl rfl
  |29,h=>obtain rfl:_=op:=Option.some.inj h;exact .inl rfl
  |30,h=>obtain rfl:_=op:=Option.some.inj h;exact .inl rfl
  |31,h=>obtain rfl:_=op:=Option.some.inj h;exact .inl rfl
  |32,h=>obtain rfl:_=op:=Option.some.inj h;exact .inl rfl
  |33,h=>obtain rfl:_=op:=Option.some.inj h;exact .inl rfl
  |34,h=>obtain rfl:_=op:=Option.some.inj h;exact .inl rfl
  |35,h=>obtain rfl:_=op:=Option.some.inj h;exact .inl rfl
  |36,h=>obtain rfl:_=op:=Option.some.inj h;exact .inl rfl
  |37,h=>obtain rfl:_=op:=Option.some.inj h;exact .inl rfl
  |38,h=>obtain rfl:_=op:=Option.some.inj h;exact .inr (.inr ⟨rfl,.inl ⟨rfl,rfl⟩⟩)
  |39,h=>obtain rfl:_=op:=Option.some.inj h;exact .inl rfl
  |40,h=>obtain rfl:_=op:=Option.some.inj h;exact .inl rfl
  |o+41,h=>exact absurd (List.getElem?_eq_some_iff.1 h).1 (by rw [rwRd_len];show¬o+41<41;omega)
theorem wA_hld {L:RL} {c t:Nat} {r:Nat->Int} {b:List Ent} {o:Nat} (h:wA L c t r b o):hld true o r=L.wt/\L.rs=false:=by
 unfold wA at h
 split at h
 all_goals first
  |exact h.elim
  |exact ⟨by rw [h.wt];rfl,h.rs⟩
  |exact ⟨by rw [h.1.wt];rfl,h.1.rs⟩
  |(rcases h with q|q
    ·exact ⟨by rw [q.1.wt];simp [hld,q.2],q.1.rs⟩
    ·exact ⟨by rw [q.1.wt];simp [hld,q.2.2.2],q.1.rs⟩)
theorem rA_hld {L:RL} {c t:Nat} {r:Nat->Int} {b:List Ent} {o:Nat} (h:rA L c t r b o):hld false o r=L.rs/\L.wt=false:=by
 unfold rA at h
 split at h
 all_goals first
  |exact h.elim
  |exact ⟨by rw [h.rs];rfl,h.wt⟩
  |exact ⟨by rw [h.1.rs];rfl,h.1.wt⟩
  |(rcases h with q|q
    ·exact ⟨by rw [q.1.rs];simp [hld,q.2],q.1.wt⟩
    ·exact ⟨by rw [q.1.rs];simp [hld,q.2.2],q.1.wt⟩)
theorem fnd_mem {l:List Slp} {who:Int} (h:fnd l who<l.length): ∃x∈l,x.1=who:=by
 unfold fnd at h
 obtain ⟨x,h1,h2⟩:=List.findIdx_lt_length.1 h
 exact ⟨x,h1,by simpa using h2⟩
section
variable (nt:Nat) (kd:Nat->Nat->Bool) (rd:Nat->Nat) (bs:Nat->Nat->Nat) (v:Vw) (pn po:Nat->Nat)
def awT (t:Nat):Bool:=decide (pn t<rd t)&&aw (kd t (pn t)) (po t) (v.th t).regs
def hldT (t:Nat):Bool:=decide (pn t<rd t)&&hld (kd t (pn t)) (po t) (v.th t).regs
def wkB (t:Nat):Nat:=(rb (kd t) (rd t)-(rb (kd t) (pn t)+pv (kd t (pn t)) (po t) (v.th t).regs))+(v.bf t).length+nd (v.th t)
def fsB:Nat:=fstT nt (wkB kd rd v pn po)
def dB:Nat:=match fstB nt (awT kd rd v pn po)with
 |some _=>0
 |none=>if v.mem 16=0 then dst (kd (fsB nt kd rd v pn po) (pn (fsB nt kd rd v pn po))) (po (fsB nt kd rd v pn po)) (v.th (fsB nt kd rd v pn po)).regs else 0
def muB:Nat:=if 0<sumT nt (wkB kd rd v pn po)then 18*sumT nt (wkB kd rd v pn po)+dB nt kd rd v pn po else 0
def hlpB:Int×Int:=match fstB nt (awT kd rd v pn po)with
 |some u=>(0,(u:Int))
 |none=>if v.mem 16=0 then (0,((fsB nt kd rd v pn po:Nat):Int))else match fstB nt (hldT kd rd v pn po)with
  |some u=>if v.bf u=[]then (0,(u:Int))else (1,(u:Int))
  |none=>(0,0)
structure RwV:Prop where
 slp: ∀x∈v.slp,x.2=16/\ ∃u,u<nt/\x.1=((u:Nat):Int)/\(v.th u).st=1
 st: ∀t,t<nt->(v.th t).st=1->((t:Int),(16:Int))∈v.slp/\pn t<rd t/\(kd t (pn t)=true->po t=10)/\(kd t (pn t)=false->po t=20)
 pos: ∀t,t<nt->(v.th t).pc=((bs t (pn t)+po t:Nat):Int)/\PlcL (fun n=>rwLn (kd t n)) (rd t) (pn t) (po t)
 rx: ∀t,t<nt->pn t<rd t->rx (kd t (pn t)) (po t) (v.th t).regs
 J:v.slp≠[]->v.mem 16≠0∨ ∃u,u<nt/\awT kd rd v pn po u=true
end
section
variable {nt:Nat} {kd:Nat->Nat->Bool} {rd:Nat->Nat} {bs:Nat->Nat->Nat} {v:Vw} {g:RG} {t:Nat} {pn po:Nat->Nat}
theorem RwV.loc (V:RwV nt kd rd bs v pn po) (H:RwI nt kd rd bs v g) (ht:t<nt):(pn t<rd t/\((v.th t).st=0∨(v.th t).st=1)/\((kd t (pn t)=true/\po t<41/\wA (g.at_ v t) (wrs (kd t) (pn t)) t (v.th t).regs (v.bf t) (po t))∨(kd t (pn t)=false/\po t<48/\rA (g.at_ v t) (wrs (kd t) (pn t)) t (v.th t).regs (v.bf t) (po t))))∨
 (pn t=rd t/\po t=0/\((v.th t).st=0∨(v.th t).st=2)/\RFree (g.at_ v t) (wrs (kd t) (pn t)) (v.bf t)):=by
 obtain ⟨h1,h2⟩:=V.pos t ht
 obtain ⟨n,o,hp,h⟩:=H.loc t ht
 have hP:PlcL (fun n=>rwLn (kd t n)) (rd t) n o:=h.imp (fun q=>⟨q.1,by
  rcases q.2.2 with z|z
  ·dsimp only;rw [z.1];exact z.2.1
  ·dsimp only;rw [z.1];exact z.2.1⟩) (fun q=>⟨q.1,q.2.1⟩)
 obtain ⟨e1,e2⟩:=pl_uniq (ln:=fun n=>rwLn (kd t n)) (H.nx t) hP h2 (by rw [hp]at h1;exact Int.ofNat_inj.1 h1)
 subst e1 e2
 exact h
theorem RwV.hold (V:RwV nt kd rd bs v pn po) (H:RwI nt kd rd bs v g) (ht:t<nt):hldT kd rd v pn po t=true↔(g.w=some t∨g.rs t=true):=by
 unfold hldT
 rcases V.loc H ht with ⟨q1,q2,q3⟩|⟨q1,q2,q3,q4⟩
 ·rw [decide_eq_true q1,Bool.true_and]
  rcases q3 with ⟨k1,k2,k3⟩|⟨k1,k2,k3⟩
  ·obtain ⟨h1,h2⟩:=wA_hld k3
   have h2':g.rs t=false:=h2
   have h1':hld true (po t) (v.th t).regs=decide (g.w=some t):=h1
   rw [k1,h1',h2']
   simp
  ·obtain ⟨h1,h2⟩:=rA_hld k3
   have h2':decide (g.w=some t)=false:=h2
   have h1':hld false (po t) (v.th t).regs=g.rs t:=h1
   rw [k1,h1']
   have : ¬g.w=some t:=of_decide_eq_false h2'
   simp [this]
 ·rw [decide_eq_false (by omega),Bool.false_and]
  have h1: ¬g.w=some t:=of_decide_eq_false q4.wt
  have h2:g.rs t=false:=q4.rs
  simp [h1,h2]
theorem RwV.some_ (V:RwV nt kd rd bs v pn po) (H:RwI nt kd rd bs v g) (h:v.mem 16≠0): ∃u,fstB nt (hldT kd rd v pn po)=some u:=by
 cases hf:fstB nt (hldT kd rd v pn po)with
 |some u=>exact ⟨u,rfl⟩
 |none=>
  exfalso
  have hn: ∀u,u<nt-> ¬(g.w=some u∨g.rs u=true):=fun u hu q=>by
   have :=(V.hold H hu).2 q
   rw [fstB_none hf hu]at this
   cases this
  cases hw:g.w with
  |some u=>exact hn u (H.sh1 u hw).2.1 (.inl hw)
  |none=>
   refine h ((H.sh0 hw).1.trans ?_)
   rw [sumT_none (fun u hu=>by
    cases hr:g.rs u with
    |false=>rfl
    |true=>exact absurd (.inr hr) (hn u hu))]
   rfl
theorem awT_yes (h:awT kd rd v pn po t=true):pn t<rd t/\aw (kd t (pn t)) (po t) (v.th t).regs=true:=by
 unfold awT at h
 rw [Bool.and_eq_true,decide_eq_true_eq]at h
 exact h
theorem hldT_yes (h:hldT kd rd v pn po t=true):pn t<rd t/\hld (kd t (pn t)) (po t) (v.th t).regs=true:=by
 unfold hldT at h
 rw [Bool.and_eq_true,decide_eq_true_eq]at h
 exact h
theorem RwV.runs (V:RwV nt kd rd bs v pn po) (H:RwI nt kd rd bs v g) (ht:t<nt) (h:awT kd rd v pn po t=true∨hldT kd rd v pn po t=true):(v.th t).st=0:=by
 have hlt:pn t<rd t:=h.elim (fun q=>(awT_yes q).1) (fun q=>(hldT_yes q).1)
 rcases V.loc H ht with ⟨q1,q2,q3⟩|⟨q1,q2,q3,q4⟩
 ·rcases q2 with q2|q2
  ·exact q2
  ·exfalso
   obtain ⟨_,_,k1,k2⟩:=V.st t ht q2
   cases hk:kd t (pn t)with
   |true=>
    have e:=k1 hk
    rcases h with h|h
    ·have :=(awT_yes h).2;rw [hk,e]at this;cases this
    ·have :=(hldT_yes h).2;rw [hk,e]at this;simp [hld]at this
   |false=>
    have e:=k2 hk
    rcases h with h|h
    ·have :=(awT_yes h).2;rw [hk,e]at this;simp [aw]at this
    ·have :=(hldT_yes h).2;rw [hk,e]at this;simp [hld]at this
 ·omega
theorem dB_le:dB nt kd rd v pn po<=17:=by
 unfold dB
 split
 ·omega
 ·split
  ·exact dst_le _ _ _
  ·omega
theorem muB_less {v':Vw} {pn' po':Nat->Nat} (h:sumT nt (wkB kd rd v' pn' po')<sumT nt (wkB kd rd v pn po)):muB nt kd rd v' pn' po'<muB nt kd rd v pn po:=by
 have h2:=dB_le (nt:=nt) (kd:=kd) (rd:=rd) (v:=v') (pn:=pn') (po:=po')
 unfold muB
 rw [if_pos (show 0<sumT nt (wkB kd rd v pn po) by omega)]
 split<;>omega
def OthB (v v':Vw) (t u:Nat):Prop:=(v'.th u).pc=(v.th u).pc/\(v'.th u).regs=(v.th u).regs/\nd (v'.th u)=nd (v.th u)/\v'.bf u=v.bf u
theorem OthB.same {v':Vw} {u:Nat} (h1:v'.th u=v.th u) (h2:v'.bf u=v.bf u):OthB v v' t u:=⟨by rw [h1],by rw [h1],by rw [h1],h2⟩
section
variable {v':Vw} {n' o' u:Nat}
theorem wkB_other (h:OthB v v' t u) (hu:u≠t):wkB kd rd v' (upd pn t n') (upd po t o') u=wkB kd rd v pn po u:=by
 unfold wkB
 rw [upd_ne _ _ _ hu,upd_ne _ _ _ hu,h.2.1,h.2.2.1,h.2.2.2]
theorem awT_other (h:OthB v v' t u) (hu:u≠t):awT kd rd v' (upd pn t n') (upd po t o') u=awT kd rd v pn po u:=by
 unfold awT
 rw [upd_ne _ _ _ hu,upd_ne _ _ _ hu,h.2.1]
theorem hldT_other (h:OthB v v' t u) (hu:u≠t):hldT kd rd v' (upd pn t n') (upd po t o') u=hldT kd rd v pn po u:=by
 unfold hldT
 rw [upd_ne _ _ _ hu,upd_ne _ _ _ hu,h.2.1]
theorem wkB_less (ht:t<nt) (ho: ∀u,u<nt->u≠t->OthB v v' t u) (h:wkB kd rd v' (upd pn t n') (upd po t o') t<wkB kd rd v pn po t):muB nt kd rd v' (upd pn t n') (upd po t o')<muB nt kd rd v pn po:=by
 refine muB_less ?_
 have :=sumT_upd (W:=nt) (t:=t) (f:=wkB kd rd v pn po) (g:=wkB kd rd v' (upd pn t n') (upd po t o')) ht (fun u hu hne=>wkB_other (ho u hu hne) hne)
 omega
end
def BGood (nt:Nat) (kd:Nat->Nat->Bool) (rd:Nat->Nat) (bs:Nat->Nat->Nat) (m:Nat) (h x:Int×Int) (v:Vw):Prop:= ∃g pn po,RwI nt kd rd bs v g/\RwV nt kd rd bs v pn po/\(muB nt kd rd v pn po<m∨(muB nt kd rd v pn po=m/\(m=0∨(hlpB nt kd rd v pn po=h/\x≠h))))
theorem RwV.step (V:RwV nt kd rd bs v pn po) (ht:t<nt) {v':Vw} {n' o':Nat} (ho: ∀u,u<nt->u≠t->OthB v v' t u)
 (hslp: ∀x∈v'.slp,x.2=16/\ ∃u,u<nt/\x.1=((u:Nat):Int)/\(v'.th u).st=1) (hst: ∀u,u<nt->u≠t->(v'.th u).st=1->(v.th u).st=1/\((u:Int),(16:Int))∈v'.slp)
 (htt:(v'.th t).st=1->((t:Int),(16:Int))∈v'.slp/\n'<rd t/\(kd t n'=true->o'=10)/\(kd t n'=false->o'=20))
 (hpc:(v'.th t).pc=((bs t n'+o':Nat):Int)) (hP:PlcL (fun n=>rwLn (kd t n)) (rd t) n' o') (hr:n'<rd t->Go.Proofs.YtmhfpjnkjlhbpaaGreatDoor.rx (kd t n') o' (v'.th t).regs)
 (hJ:v'.slp≠[]->v'.mem 16≠0∨ ∃u,u<nt/\awT kd rd v' (upd pn t n') (upd po t o') u=true):RwV nt kd rd bs v' (upd pn t n') (upd po t o'):=by
 refine ⟨hslp,fun u hu h=>?_,fun u hu=>?_,fun u hu h=>?_,hJ⟩
 ·by_cases c:u=t
  ·subst c
   rw [upd_same,upd_same];exact htt h
  ·obtain ⟨q1,q2⟩:=hst u hu c h
   rw [upd_ne _ _ _ c,upd_ne _ _ _ c]
   exact ⟨q2,(V.st u hu q1).2⟩
 ·by_cases c:u=t
  ·subst c
   rw [upd_same,upd_same];exact ⟨hpc,hP⟩
  ·rw [upd_ne _ _ _ c,upd_ne _ _ _ c,(ho u hu c).1];exact V.pos u hu
 ·by_cases c:u=t
  ·subst c
   rw [upd_same]at h⊢
   rw [upd_same]
   exact hr h
  ·rw [upd_ne _ _ _ c]at h⊢
   rw [upd_ne _ _ _ c,(ho u hu c).2.1];exact V.rx u hu h
theorem aw_still (ht:t<nt) {v':Vw} {n' o':Nat} (ho: ∀u,u<nt->u≠t->OthB v v' t u) (h1:v.slp≠[]->v.mem 16≠0∨ ∃u,u<nt/\awT kd rd v pn po u=true)
 (hm:v'.mem 16=0->(v.mem 16=0/\(aw (kd t (pn t)) (po t) (v.th t).regs=true->(n'<rd t/\aw (kd t n') o' (v'.th t).regs=true)∨v'.slp=[]))∨(n'<rd t/\aw (kd t n') o' (v'.th t).regs=true)) (hne:v'.slp≠[]) (hsub:v.slp=[]->v'.mem 16≠0):
 v'.mem 16≠0∨ ∃u,u<nt/\awT kd rd v' (upd pn t n') (upd po t o') u=true:=by
 have me:(n'<rd t/\aw (kd t n') o' (v'.th t).regs=true)-> ∃u,u<nt/\awT kd rd v' (upd pn t n') (upd po t o') u=true:=fun q=>⟨t,ht,by
  unfold awT
  rw [upd_same,upd_same,decide_eq_true q.1,q.2];rfl⟩
 by_cases c:v'.mem 16=0
 ·right
  rcases hm c with ⟨q1,q2⟩|q
  ·by_cases z:v.slp=[]
   ·exact absurd c (hsub z)
   rcases h1 z with y|⟨u,hu,y⟩
   ·exact absurd q1 y
   ·by_cases e:u=t
    ·subst e
     rcases q2 (awT_yes y).2 with w|w
     ·exact me w
     ·exact absurd w hne
    ·exact ⟨u,hu,by rw [awT_other (ho u hu e) e];exact y⟩
  ·exact me q
 ·exact .inl c
theorem rw_helps {B:MB} {s:Mst} (hw:Wf B s) (hnt:B.codes.length=nt) (hC: ∀t,t<nt->Coded B t (rd t) (bs t) (fun n=>rwRd t (kd t n) (bs t n))) (H:RwI nt kd rd bs (vw s) g) (V:RwV nt kd rd bs (vw s) pn po) (x:Int×Int) (hx2:x.1≠2):
 BGood nt kd rd bs (muB nt kd rd (vw s) pn po) (hlpB nt kd rd (vw s) pn po) x (vw (tPick B s x)):=by
 have h8:=H.n8
 have hnt': ∀t,t<B.codes.length->t<nt:=fun t ht=>by rw [<-hnt];exact ht
 have hsl8:(vw s).slp.length<=8:=by
  have h1:=hw.ok.ok.slp.len
  have h2:=hw.ok.ok.nt
  show s.slp.length<=8
  omega
 have hnot: ∀u,u<nt->(vw s).th u=(vw s).th u->((vw s).th u).st≠1->((u:Int),(16:Int))∉(vw s).slp:=fun u hu _ hst hm=>by
  obtain ⟨_,w,hw1,hw2,hw3⟩:=V.slp _ hm
  have :u=w:=by dsimp only at hw2;omega
  rw [this]at hst
  exact hst hw3
 refine pick_cases (P:=BGood nt kd rd bs (muB nt kd rd (vw s) pn po) (hlpB nt kd rd (vw s) pn po) x) hw x (fun h0 h1=>?_) (fun t ht hx hb=>?_) (fun t ht hx hst=>?_) (fun t ht hx hr=>?_)
 ·
  refine ⟨g,pn,po,H,V,.inr ⟨rfl,?_⟩⟩
  rcases Nat.eq_zero_or_pos (muB nt kd rd (vw s) pn po)with z|z
  ·exact .inl z
  have hG:0<sumT nt (wkB kd rd (vw s) pn po):=by
   unfold muB at z
   split at z
   ·assumption
   ·omega
  refine .inr ⟨rfl,fun e=>?_⟩
  unfold hlpB at e
  cases ha:fstB nt (awT kd rd (vw s) pn po)with
  |some u=>
   rw [ha]at e
   obtain ⟨u1,u2⟩:=fstB_some ha
   exact h0 u (by rw [hnt];exact u1) e (V.runs H u1 (.inl u2))
  |none=>
   rw [ha]at e
   dsimp only at e
   by_cases hm:(vw s).mem 16=0
   ·rw [if_pos hm]at e
    obtain ⟨f1,f2⟩:=fstT_yes hG
    have hst:=h0 (fsB nt kd rd (vw s) pn po) (by rw [hnt];exact f1) e
    have hs0:(vw s).slp=[]:=by
     by_cases c:(vw s).slp=[]
     ·exact c
     ·rcases V.J c with q|⟨u,hu,q⟩
      ·exact absurd hm q
      ·rw [fstB_none ha hu]at q;cases q
    have hst':((vw s).th (fsB nt kd rd (vw s) pn po)).st≠0:=hst
    rcases V.loc H (t:=fsB nt kd rd (vw s) pn po) f1 with ⟨q1,q2,q3⟩|⟨q1,q2,q3,q4⟩
    ·have q5:=(V.st _ f1 (q2.resolve_left hst')).1
     rw [hs0]at q5
     cases q5
    ·have h2:=q3.resolve_left hst'
     have f2':0<wkB kd rd (vw s) pn po (fsB nt kd rd (vw s) pn po):=f2
     unfold wkB at f2'
     have hn:nd ((vw s).th (fsB nt kd rd (vw s) pn po))=0:=if_pos h2
     rw [hn,q4.b,q1,q2,pv0]at f2'
     simp at f2'
   ·rw [if_neg hm]at e
    obtain ⟨u,hu⟩:=V.some_ H hm
    rw [hu]at e
    dsimp only at e
    obtain ⟨u1,u2⟩:=fstB_some hu
    by_cases hb:(vw s).bf u=[]
    ·rw [if_pos hb]at e
     exact h0 u (by rw [hnt];exact u1) e (V.runs H u1 (.inr u2))
    ·rw [if_neg hb]at e
     exact hb (h1 u (by rw [hnt];exact u1) e)
 ·
  have ht':=hnt' t ht
  have H':=H.flush ht' hb
  obtain ⟨y,l,hy⟩: ∃y l,(vw s).bf t=y::l:=by
   cases hq:(vw s).bf t with
   |nil=>exact absurd hq hb
   |cons y l=>exact ⟨y,l,rfl⟩
  have hy16:y.1.toNat≠16:=by
   have hl:=H.loc t ht'
   rw [hy]at hl
   rcases hl.fl with ⟨z,e,_⟩|⟨e,_⟩
   ·rw [e];show (((17+t:Nat):Int)).toNat≠16;omega
   ·rw [e];show (0:Int).toNat≠16;decide
  obtain ⟨v',hv'⟩: ∃v',flushV t (vw s)=v':=⟨_,rfl⟩
  have e1:v'.th=(vw s).th:=by rw [<-hv'];unfold flushV;rw [hy]
  have e2:v'.bf t=l:=by rw [<-hv'];unfold flushV;rw [hy];exact upd_same _ _ _
  have e2': ∀u,u≠t->v'.bf u=(vw s).bf u:=fun u hu=>by rw [<-hv'];unfold flushV;rw [hy];exact upd_ne _ _ _ hu
  have e3:v'.slp=(vw s).slp:=by rw [<-hv'];unfold flushV;rw [hy]
  have e4:v'.mem 16=(vw s).mem 16:=by rw [<-hv'];unfold flushV;rw [hy];exact upd_ne _ _ _ (Ne.symm hy16)
  rw [hv']at H'⊢
  have ho: ∀u,u<nt->u≠t->OthB (vw s) v' t u:=fun u _ hu=> .same (by rw [e1]) (e2' u hu)
  obtain ⟨p1,p2⟩:=V.pos t ht'
  have V':RwV nt kd rd bs v' (upd pn t (pn t)) (upd po t (po t)):=by
   refine V.step ht' ho (by rw [e3,e1];exact V.slp) (fun u hu hne h=>by rw [e1]at h;rw [e3];exact ⟨h,(V.st u hu h).1⟩) (fun h=>by rw [e1]at h;rw [e3];exact V.st t ht' h) (by rw [e1];exact p1) p2 (fun h=>by rw [e1];exact V.rx t ht' h) (fun h=>?_)
   rw [e3]at h
   rcases V.J h with q|⟨u,hu,q⟩
   ·exact .inl (by rw [e4];exact q)
   ·refine .inr ⟨u,hu,?_⟩
    have :awT kd rd v' (upd pn t (pn t)) (upd po t (po t)) u=awT kd rd (vw s) pn po u:=by unfold awT;rw [upd_self,upd_self,e1]
    rw [this];exact q
  refine ⟨g,_,_,H',V',.inl (wkB_less ht' ho ?_)⟩
  unfold wkB
  rw [upd_same,upd_same,e1,e2,hy,List.length_cons]
  omega
 ·
  have ht':=hnt' t ht
  obtain ⟨p1,p2⟩:=V.pos t ht'
  have hst':((vw s).th t).st=0:=hst
  rcases V.loc H ht' with ⟨q1,q2,q3⟩|⟨q1,q2,q3,q4⟩
  ·
   have h1x:=V.rx t ht' q1
   obtain ⟨op,hop,hk⟩:=rw_exec (r:=(thM s t).regs) H ht' q1 q3
   have hop':(rwRd t (kd t (pn t)) (bs t (pn t)))[po t]?=some op:=hop
   refine .inl ⟨bs t (pn t)+po t,_,op,(hC t ht').at_ hw ht q1 hop' (Th.parts p1 hst),fun hd _=>?_⟩
   obtain ⟨g',H'⟩:=hk hd
   have X:=rw_nx (r:=(thM s t).regs) H ht' (fun x hx=>(V.slp x hx).1) hsl8 q1 q3 h1x hop'
   obtain ⟨v',hv'⟩: ∃v',execV t (vw s) (bs t (pn t)+po t) (thM s t).regs op=v':=⟨_,rfl⟩
   have X':RwNx (kd t) (bs t) (rd t) (vw s) v' t (pn t) (po t) (thM s t).regs:=by rw [<-hv'];exact X
   have hbf: ∀u,u≠t->v'.bf u=(vw s).bf u:=by rw [<-hv'];exact exec_bf op t _ _ _
   have key:(∀u,u<nt->u≠t->OthB (vw s) v' t u)/\(v'.th t).st≠2/\ ∀n' o',(v'.th t).pc=((bs t n'+o':Nat):Int)->PlcL (fun n=>rwLn (kd t n)) (rd t) n' o'->(n'<rd t->rx (kd t n') o' (v'.th t).regs)->
    (v'.mem 16=0->((vw s).mem 16=0/\(aw (kd t (pn t)) (po t) ((vw s).th t).regs=true->(n'<rd t/\aw (kd t n') o' (v'.th t).regs=true)∨v'.slp=[]))∨(n'<rd t/\aw (kd t n') o' (v'.th t).regs=true))->RwV nt kd rd bs v' (upd pn t n') (upd po t o'):=by
    rcases rw_ops hop' with hsl|⟨rfl,hpl⟩|⟨rfl,hpl⟩
    ·
     obtain ⟨o1,o2,o3⟩:=exec_other hsl t (vw s) (bs t (pn t)+po t) (thM s t).regs
     rw [hv']at o1 o2 o3
     have ho: ∀u,u<nt->u≠t->OthB (vw s) v' t u:=fun u _ hu=> .same (o2 u hu).1 (o2 u hu).2
     refine ⟨ho,by rw [o3];decide,fun n' o' r1 r2 r3 r4=>V.step ht' ho (fun x hx=>?_) (fun u hu hne h=>by rw [(o2 u hne).1]at h;rw [o1];exact ⟨h,(V.st u hu h).1⟩) (fun h=>by rw [o3]at h;cases h) r1 r2 r3 (fun h=>aw_still ht' ho V.J r4 h (fun z=>absurd (o1.trans z) h))⟩
     rw [o1]at hx
     obtain ⟨a1,u,a2,a3,a4⟩:=V.slp x hx
     refine ⟨a1,u,a2,a3,?_⟩
     have :u≠t:=fun e=>by rw [e,hst']at a4;cases a4
     rw [(o2 u this).1];exact a4
    ·
     have h4:(thM s t).regs 4≠0:=by
      have h1x':rx (kd t (pn t)) (po t) (thM s t).regs:=h1x
      rcases hpl with ⟨k,o⟩|⟨k,o⟩
      ·rw [k]at h1x';exact h1x'.1 o
      ·rw [k]at h1x';rw [h1x'.2.1 o];decide
     by_cases hz:(vw s).mem 16=(thM s t).regs 4
     ·have e0:v'={(vw s).mv t ⟨((bs t (pn t)+po t+1:Nat):Int),updR (thM s t).regs 4 0,1⟩ ((vw s).bf t) (vw s).mem [⟨8,(t:Int),((bs t (pn t)+po t:Nat):Int),((16:Nat):Int),(vw s).mem 16,0,0,true⟩]with slp:=if slpE (vw s).slp (t:Int)=0 then (vw s).slp++[((t:Int),((16:Nat):Int))]else (vw s).slp}:=hv'.symm.trans (if_pos hz)
      have hE:slpE (vw s).slp (t:Int)=0:=by
       unfold slpE
       rw [if_neg (by omega),if_neg (fun q=>by
        obtain ⟨y,y1,y2⟩:=fnd_mem q
        obtain ⟨b1,u,b2,b3,b4⟩:=V.slp y y1
        have :u=t:=by omega
        rw [this,hst']at b4;cases b4)]
      have o1:v'.slp=(vw s).slp++[((t:Int),(16:Int))]:=by rw [e0];exact if_pos hE
      have o2: ∀u,u≠t->v'.th u=(vw s).th u:=fun u hu=>by rw [e0];exact upd_ne _ _ _ hu
      have o3:(v'.th t).st=1:=by rw [e0];show (upd (vw s).th t _ t).st=1;rw [upd_same]
      have o4:v'.mem=(vw s).mem:=by rw [e0];rfl
      have o5:(v'.th t).pc=((bs t (pn t)+(po t+1):Nat):Int):=by rw [e0];show (upd (vw s).th t _ t).pc=_;rw [upd_same];rfl
      have ho: ∀u,u<nt->u≠t->OthB (vw s) v' t u:=fun u _ hu=> .same (o2 u hu) (hbf u hu)
      refine ⟨ho,by rw [o3];decide,fun n' o' r1 r2 r3 r4=>V.step ht' ho (fun x hx=>?_) (fun u hu hne h=>by rw [o2 u hne]at h;rw [o1];exact ⟨h,List.mem_append_left _ (V.st u hu h).1⟩) (fun _=>?_) r1 r2 r3 (fun _=> .inl (by rw [o4,hz];exact h4))⟩
      ·rw [o1]at hx
       rcases List.mem_append.1 hx with hx|hx
       ·obtain ⟨a1,u,a2,a3,a4⟩:=V.slp x hx
        refine ⟨a1,u,a2,a3,?_⟩
        have :u≠t:=fun e=>by rw [e,hst']at a4;cases a4
        rw [o2 u this];exact a4
       ·rw [List.mem_singleton.1 hx]
        exact ⟨rfl,t,ht',rfl,o3⟩
      ·have hP2:PlcL (fun n=>rwLn (kd t n)) (rd t) (pn t) (po t+1):= .inl ⟨q1,by
        rcases hpl with ⟨k,o⟩|⟨k,o⟩
        ·dsimp only;rw [k,o];decide
        ·dsimp only;rw [k,o];decide⟩
       obtain ⟨f1,f2⟩:=pl_uniq (ln:=fun n=>rwLn (kd t n)) (H.nx t) r2 hP2 (by rw [r1]at o5;exact Int.ofNat_inj.1 o5)
       subst f1 f2
       refine ⟨by rw [o1];simp,q1,fun k=>?_,fun k=>?_⟩
       ·rcases hpl with ⟨k',o⟩|⟨k',o⟩
        ·rw [o]
        ·rw [k]at k';cases k'
       ·rcases hpl with ⟨k',o⟩|⟨k',o⟩
        ·rw [k]at k';cases k'
        ·rw [o]
     ·have e0:v'=(vw s).mv t ⟨((bs t (pn t)+po t+1:Nat):Int),updR (thM s t).regs 4 1,0⟩ ((vw s).bf t) (vw s).mem [⟨8,(t:Int),((bs t (pn t)+po t:Nat):Int),((16:Nat):Int),(vw s).mem 16,0,0,false⟩]:=hv'.symm.trans (if_neg hz)
      have o1:v'.slp=(vw s).slp:=by rw [e0];rfl
      have o2: ∀u,u≠t->v'.th u=(vw s).th u:=fun u hu=>by rw [e0];exact upd_ne _ _ _ hu
      have o3:(v'.th t).st=0:=by rw [e0];show (upd (vw s).th t _ t).st=0;rw [upd_same]
      have ho: ∀u,u<nt->u≠t->OthB (vw s) v' t u:=fun u _ hu=> .same (o2 u hu) (hbf u hu)
      refine ⟨ho,by rw [o3];decide,fun n' o' r1 r2 r3 r4=>V.step ht' ho (fun x hx=>?_) (fun u hu hne h=>by rw [o2 u hne]at h;rw [o1];exact ⟨h,(V.st u hu h).1⟩) (fun h=>by rw [o3]at h;cases h) r1 r2 r3 (fun h=>aw_still ht' ho V.J r4 h (fun z=>absurd (o1.trans z) h))⟩
      rw [o1]at hx
      obtain ⟨a1,u,a2,a3,a4⟩:=V.slp x hx
      refine ⟨a1,u,a2,a3,?_⟩
      have :u≠t:=fun e=>by rw [e,hst']at a4;cases a4
      rw [o2 u this];exact a4
    ·
     have h4:(thM s t).regs 4=4294967295:=by
      have h1x':rx (kd t (pn t)) (po t) (thM s t).regs:=h1x
      rcases hpl with ⟨k,o⟩|⟨k,o⟩
      ·rw [k]at h1x';exact h1x'.2 o
      ·rw [k]at h1x';exact h1x'.2.2.2 o
     obtain ⟨w1,w2⟩:=wk_every (fun x hx=>(V.slp x hx).1) (n:=((thM s t).regs 4).toNat) (by rw [h4];have :(4294967295:Int).toNat=4294967295:=rfl;omega)
     have o1:v'.slp=[]:=by rw [<-hv'];exact w1
     have o2: ∀u,u≠t->v'.th u=if (u:Int)∈(vw s).slp.map (·.1)then {(vw s).th u with st:=0}else (vw s).th u:=fun u hu=>by
      rw [<-hv']
      refine (upd_ne _ _ _ hu).trans ?_
      rw [<-w2];rfl
     have o3:(v'.th t).st=0:=by
      have e:(execV t (vw s) (bs t (pn t)+po t) (thM s t).regs (.wake 4 16)).th t=⟨((bs t (pn t)+po t+1:Nat):Int),updR (thM s t).regs 4 ((wk ((16:Nat):Int) ((thM s t).regs 4).toNat (vw s).slp).2.length:Int),0⟩:=upd_same _ _ _
      rw [<-hv',e]
     have ho: ∀u,u<nt->u≠t->OthB (vw s) v' t u:=fun u hu hne=>by
      have e:=o2 u hne
      split at e
      ·rename_i hm
       obtain ⟨y,y1,y2⟩:=List.mem_map.1 hm
       obtain ⟨a1,w,a2,a3,a4⟩:=V.slp y y1
       have :w=u:=by omega
       rw [this]at a4
       refine ⟨by rw [e],by rw [e],?_,hbf u hne⟩
       rw [e]
       have z1:nd {(vw s).th u with st:=0}=1:=rfl
       have z2:nd ((vw s).th u)=1:=if_neg (by rw [a4];decide)
       rw [z1,z2]
      ·exact .same e (hbf u hne)
     refine ⟨ho,by rw [o3];decide,fun n' o' r1 r2 r3 r4=>V.step ht' ho (fun x hx=>by rw [o1]at hx;cases hx) (fun u hu hne h=>?_) (fun h=>by rw [o3]at h;cases h) r1 r2 r3 (fun h=>absurd o1 h)⟩
     exfalso
     have e:=o2 u hne
     split at e
     ·rw [e]at h;cases h
     ·rename_i hm
      rw [e]at h
      exact hm (List.mem_map.2 ⟨_,(V.st u hu h).1,rfl⟩)
   obtain ⟨ho,hs2,hV⟩:=key
   obtain ⟨n',o',r1,r2,r3,r4,r5⟩:=X'
   have V':=hV n' o' r2 r1 r3 r4
   rw [hv']at H'⊢
   refine ⟨g',_,_,H',V',?_⟩
   have n1:nd (v'.th t)=1:=if_neg hs2
   have n0:nd ((vw s).th t)=1:=if_neg (by rw [hst'];decide)
   rcases r5 with r5|⟨rfl,a1,a2,⟨a3,a4⟩,a5⟩
   ·refine .inl (wkB_less ht' ho ?_)
    unfold wkB
    rw [upd_same,upd_same,n1,n0]
    have r5':(rb (kd t) (rd t)-(rb (kd t) n'+pv (kd t n') o' (v'.th t).regs))+(v'.bf t).length<(rb (kd t) (rd t)-(rb (kd t) (pn t)+pv (kd t (pn t)) (po t) ((vw s).th t).regs))+((vw s).bf t).length:=r5
    omega
   ·
    have a1':spn (kd t (pn t)) (po t) ((vw s).th t).regs=true:=a1
    have a5':(vw s).mem 16=0->dst (kd t (pn t)) o' (v'.th t).regs<dst (kd t (pn t)) (po t) ((vw s).th t).regs:=a5
    have hWs: ∀u,u<nt->wkB kd rd v' (upd pn t (pn t)) (upd po t o') u=wkB kd rd (vw s) pn po u:=fun u hu=>by
     by_cases c:u=t
     ·subst c
      unfold wkB
      rw [upd_same,upd_same,n1,n0,a3]
      have z1:pv (kd u (pn u)) o' (v'.th u).regs=3:=if_pos a2
      have z2:pv (kd u (pn u)) (po u) ((vw s).th u).regs=3:=if_pos a1'
      rw [z1,z2]
     ·exact wkB_other (ho u hu c) c
    have hAs: ∀u,u<nt->awT kd rd v' (upd pn t (pn t)) (upd po t o') u=awT kd rd (vw s) pn po u:=fun u hu=>by
     by_cases c:u=t
     ·subst c
      unfold awT
      rw [upd_same,upd_same,(spn_aw a2).1,(spn_aw a1').1]
     ·exact awT_other (ho u hu c) c
    have hHs: ∀u,u<nt->hldT kd rd v' (upd pn t (pn t)) (upd po t o') u=hldT kd rd (vw s) pn po u:=fun u hu=>by
     by_cases c:u=t
     ·subst c
      unfold hldT
      rw [upd_same,upd_same,(spn_aw a2).2,(spn_aw a1').2]
     ·exact hldT_other (ho u hu c) c
    have hsum:sumT nt (wkB kd rd v' (upd pn t (pn t)) (upd po t o'))=sumT nt (wkB kd rd (vw s) pn po):=sumT_congr hWs
    have hfs:fsB nt kd rd v' (upd pn t (pn t)) (upd po t o')=fsB nt kd rd (vw s) pn po:=fstT_congr hWs
    have hfa:fstB nt (awT kd rd v' (upd pn t (pn t)) (upd po t o'))=fstB nt (awT kd rd (vw s) pn po):=fstB_congr hAs
    have hfh:fstB nt (hldT kd rd v' (upd pn t (pn t)) (upd po t o'))=fstB nt (hldT kd rd (vw s) pn po):=fstB_congr hHs
    have hbfa: ∀u,v'.bf u=(vw s).bf u:=fun u=>by
     by_cases c:u=t
     ·rw [c];exact a3
     ·exact hbf u c
    have hG:0<sumT nt (wkB kd rd (vw s) pn po):=by
     refine sumT_pos ht' ?_
     unfold wkB
     rw [n0];omega
    have awt:awT kd rd (vw s) pn po t=false:=by unfold awT;rw [(spn_aw a1').1,Bool.and_false]
    have hlt:hldT kd rd (vw s) pn po t=false:=by unfold hldT;rw [(spn_aw a1').2,Bool.and_false]
    cases ha:fstB nt (awT kd rd (vw s) pn po)with
    |some u=>
     obtain ⟨u1,u2⟩:=fstB_some ha
     refine .inr ⟨?_,.inr ⟨?_,?_⟩⟩
     ·unfold muB dB
      rw [hsum,hfa,ha]
     ·unfold hlpB
      rw [hfa,ha]
     ·unfold hlpB
      rw [ha,hx]
      intro e
      injection e with e1 e2
      have :t=u:=by omega
      rw [<-this,awt]at u2;cases u2
    |none=>
     by_cases hm:(vw s).mem 16=0
     ·by_cases hu:fsB nt kd rd (vw s) pn po=t
      ·refine .inl ?_
       unfold muB
       rw [hsum,if_pos hG,if_pos hG]
       have :dB nt kd rd v' (upd pn t (pn t)) (upd po t o')<dB nt kd rd (vw s) pn po:=by
        unfold dB
        rw [hfa,ha,hfs,hu,a4]
        dsimp only
        rw [if_pos hm,if_pos hm,upd_same,upd_same]
        exact a5' hm
       omega
      ·refine .inr ⟨?_,.inr ⟨?_,?_⟩⟩
       ·unfold muB
        rw [hsum]
        have :dB nt kd rd v' (upd pn t (pn t)) (upd po t o')=dB nt kd rd (vw s) pn po:=by
         obtain ⟨f1,f2⟩:=fstT_yes hG
         have z:=(ho (fsB nt kd rd (vw s) pn po) f1 hu).2.1
         unfold dB
         rw [hfa,ha,hfs,a4,z,upd_ne _ _ _ hu,upd_ne _ _ _ hu]
        rw [this]
       ·unfold hlpB
        rw [hfa,ha,hfs,a4]
        dsimp only
        rw [if_pos hm,if_pos hm]
       ·unfold hlpB
        rw [ha,hx]
        dsimp only
        rw [if_pos hm]
        intro e
        injection e with e1 e2
        omega
     ·obtain ⟨u,hu⟩:=V.some_ H hm
      obtain ⟨u1,u2⟩:=fstB_some hu
      have hne:t≠u:=fun e=>by rw [<-e,hlt]at u2;cases u2
      refine .inr ⟨?_,.inr ⟨?_,?_⟩⟩
      ·unfold muB dB
       rw [hsum,hfa,ha,a4]
       dsimp only
       rw [if_neg hm,if_neg hm]
      ·unfold hlpB
       rw [hfa,ha,hfh,hu,a4]
       dsimp only
       rw [if_neg hm,if_neg hm,hbfa]
      ·unfold hlpB
       rw [ha,hx,hu]
       dsimp only
       rw [if_neg hm]
       split
       ·intro e
        injection e with e1 e2
        omega
       ·intro e
        injection e with e1 e2
        exact absurd e1 (by decide)
  ·
   have hpc0:(thM s t).pc=((bs t (rd t)+0:Nat):Int):=by
    have :((vw s).th t).pc=_:=p1
    rw [q1,q2]at this
    exact this
   refine .inr ⟨by rw [(hC t ht').len,hpc0];exact Int.le_refl _,?_⟩
   have H':=H.quiet ht' (th:=⟨(thM s t).pc,(thM s t).regs,2⟩) (b:=(vw s).bf t) (l:=[⟨12,(t:Int),(thM s t).pc,0,0,0,0,false⟩]) (fun x hx=>by rw [List.mem_singleton.1 hx];exact ⟨(by decide:(12:Int)≠7),(by decide:(12:Int)≠6)⟩) ⟨rd t,0,hpc0,.inr ⟨rfl,rfl,.inr rfl,by rw [<-q1];exact q4⟩⟩
   obtain ⟨v',hv'⟩: ∃v',(vw s).mv t ⟨(thM s t).pc,(thM s t).regs,2⟩ ((vw s).bf t) (vw s).mem [⟨12,(t:Int),(thM s t).pc,0,0,0,0,false⟩]=v':=⟨_,rfl⟩
   have t1:v'.th t=⟨(thM s t).pc,(thM s t).regs,2⟩:=by rw [<-hv'];exact upd_same _ _ _
   have t2:v'.bf t=(vw s).bf t:=by rw [<-hv'];exact upd_same _ _ _
   have o1:v'.slp=(vw s).slp:=by rw [<-hv'];rfl
   have o2: ∀u,u≠t->v'.th u=(vw s).th u/\v'.bf u=(vw s).bf u:=fun u hu=>by rw [<-hv'];exact ⟨upd_ne _ _ _ hu,upd_ne _ _ _ hu⟩
   have r7:v'.mem=(vw s).mem:=by rw [<-hv'];rfl
   have n1:nd (v'.th t)=0:=by rw [t1];rfl
   have n0:nd ((vw s).th t)=1:=if_neg (by rw [hst'];decide)
   rw [hv']at H'⊢
   have ho: ∀u,u<nt->u≠t->OthB (vw s) v' t u:=fun u _ hu=> .same (o2 u hu).1 (o2 u hu).2
   have hAs: ∀u,u<nt->awT kd rd v' (upd pn t (pn t)) (upd po t (po t)) u=awT kd rd (vw s) pn po u:=fun u hu=>by
    by_cases c:u=t
    ·subst c
     unfold awT
     rw [upd_same,upd_same,t1]
     rfl
    ·exact awT_other (ho u hu c) c
   have V':RwV nt kd rd bs v' (upd pn t (pn t)) (upd po t (po t)):=by
    refine V.step ht' ho (fun x hx=>?_) (fun u hu hne h=>by rw [(o2 u hne).1]at h;rw [o1];exact ⟨h,(V.st u hu h).1⟩) (fun h=>by rw [t1]at h;cases h) (by rw [t1];exact p1) p2 (fun h=>by omega) (fun h=>?_)
    ·rw [o1]at hx
     obtain ⟨a1,u,a2,a3,a4⟩:=V.slp x hx
     refine ⟨a1,u,a2,a3,?_⟩
     have :u≠t:=fun e=>by rw [e,hst']at a4;cases a4
     rw [(o2 u this).1];exact a4
    ·rw [o1]at h
     rcases V.J h with q|⟨u,hu,q⟩
     ·exact .inl (by rw [r7];exact q)
     ·exact .inr ⟨u,hu,by rw [hAs u hu];exact q⟩
   refine ⟨g,_,_,H',V',.inl (wkB_less ht' ho ?_)⟩
   unfold wkB
   rw [upd_same,upd_same,n1,n0,t2,t1]
   show (rb (kd t) (rd t)-(rb (kd t) (pn t)+pv (kd t (pn t)) (po t) (thM s t).regs))+_+0<(rb (kd t) (rd t)-(rb (kd t) (pn t)+pv (kd t (pn t)) (po t) (thM s t).regs))+_+1
   omega
 ·rw [hx]at hx2
  exact absurd rfl hx2
def RwR (nt:Nat) (kd:Nat->Nat->Bool) (rd:Nat->Nat) (bs:Nat->Nat->Nat) (B:MB) (s:Mst) (m:Nat) (h:Int×Int):Prop:=Wf B s/\ ∃g pn po,RwI nt kd rd bs (vw s) g/\RwV nt kd rd bs (vw s) pn po/\muB nt kd rd (vw s) pn po=m/\hlpB nt kd rd (vw s) pn po=h
theorem rw_lives {B:MB} (hB:MBok B) (hnt:B.codes.length=nt) (hC: ∀t,t<nt->Coded B t (rd t) (bs t) (fun n=>rwRd t (kd t n) (bs t n))):Helps B nt (fun x=>x.1≠2) (RwR nt kd rd bs B):=by
 refine ⟨fun {s m h} hR hm=>?_,fun {s m h x} hR hx=>?_⟩
 ·obtain ⟨hw,g,pn,po,H,V,rfl,rfl⟩:=hR
  have hG:0<sumT nt (wkB kd rd (vw s) pn po):=by
   unfold muB at hm
   split at hm
   ·assumption
   ·omega
  unfold hlpB
  cases ha:fstB nt (awT kd rd (vw s) pn po)with
  |some u=>exact ⟨0,u,by decide,(fstB_some ha).1,rfl⟩
  |none=>
   dsimp only
   by_cases hm:(vw s).mem 16=0
   ·rw [if_pos hm]
    exact ⟨0,_,by decide,(fstT_yes hG).1,rfl⟩
   ·rw [if_neg hm]
    obtain ⟨u,hu⟩:=V.some_ H hm
    rw [hu]
    dsimp only
    split
    ·exact ⟨0,u,by decide,(fstB_some hu).1,rfl⟩
    ·exact ⟨1,u,by decide,(fstB_some hu).1,rfl⟩
 ·obtain ⟨hw,g,pn,po,H,V,rfl,rfl⟩:=hR
  obtain ⟨g',pn',po',H',V',q⟩:=rw_helps hw hnt hC H V x hx
  exact ⟨_,_,⟨hw.pick hB x,g',pn',po',H',V',rfl,rfl⟩,q⟩
theorem RwR.done {B:MB} {s:Mst} {h:Int×Int} (hR:RwR nt kd rd bs B s 0 h): ∀t,t<nt->(thM s t).st=2/\bufM s t=[]:=by
 obtain ⟨hw,g,pn,po,H,V,hm,_⟩:=hR
 intro t ht
 unfold muB at hm
 split at hm
 ·omega
 ·rename_i hG
  have z:=sumT_zero (show sumT nt (wkB kd rd (vw s) pn po)=0 by omega) t ht
  unfold wkB at z
  refine ⟨?_,List.eq_nil_of_length_eq_zero (by show (bufM s t).length=0;have e:((vw s).bf t).length=(bufM s t).length:=rfl;omega)⟩
  by_cases c:(thM s t).st=2
  ·exact c
  ·have :nd ((vw s).th t)=1:=if_neg c
   omega
theorem rw_begin {B:MB} {s:Mst} (hw:Wf B s) (hrd: ∀t,t<nt->rd t<=4) (H:RwI nt kd rd bs (vw s) g) (h0: ∀t,bs t 0=0) (h1: ∀t,(vw s).th t=tha) (h2: ∀t,(vw s).bf t=[]) (h3:(vw s).slp=[]) (h4:nt<=4): ∃m h,m<=20000/\RwR nt kd rd bs B s m h:=by
 have V:RwV nt kd rd bs (vw s) (fun _=>0) (fun _=>0):=by
  refine ⟨fun x hx=>(by rw [h3]at hx;cases hx),fun t ht h=>(by rw [h1]at h;cases h),fun t ht=>⟨by rw [h1,h0];rfl,?_⟩,fun t ht _=>rx_triv (by decide),fun h=>absurd h3 h⟩
  rcases Nat.eq_zero_or_pos (rd t)with c|c
  ·exact .inr ⟨c.symm,rfl⟩
  ·exact .inl ⟨c,by have :=rwLn_pos (kd t 0);dsimp only;omega⟩
 refine ⟨_,_,?_,hw,g,_,_,H,V,rfl,rfl⟩
 have d:=dB_le (nt:=nt) (kd:=kd) (rd:=rd) (v:=vw s) (pn:=fun _=>0) (po:=fun _=>0)
 have w:=sumT_le (W:=nt) (f:=wkB kd rd (vw s) (fun _=>0) (fun _=>0)) (k:=137) (fun t ht=>by
  have h5:=hrd t ht
  have h6:=rb_le (kd t) (rd t)
  unfold wkB nd
  rw [h2]
  show _+0+_<=_
  split<;>omega)
 have :nt*137<=4*137:=Nat.mul_le_mul_right _ h4
 unfold muB
 split
 ·omega
 ·omega
end
end Go.Proofs.YtmhfpjnkjlhbpaaGreatDoor
