/- rw (plain): what is left to do at each place; an instruction lowers it, or its thread waits for the word. -/
import Derived.Test.YtmhfpjnkjlhbpaaGreatDoorQd28
import Derived.Test.YtmhfpjnkjlhbpaaGreatDoorQd36
namespace Go.Proofs.YtmhfpjnkjlhbpaaGreatDoor
open Go.ChangeShapes Go.WideShapes Go.ChangeAt Go.RowKit Go.Deep
set_option linter.unusedVariables false
set_option maxRecDepth 100000
set_option linter.unusedSimpArgs false
def rwLn (k:Bool):Nat:=if k=true then 41 else 48
def rx (k:Bool) (o:Nat) (r:Nat->Int):Prop:=if k=true then (o=9->r 4≠0)/\(o=38->r 4=4294967295)else (o=8->r 6≠0->r 4=4294967295)/\(o=19->r 4=4294967295)/\(o=42->r 5=1)/\(o=45->r 4=4294967295)
theorem rx_triv {k:Bool} {o:Nat} {r:Nat->Int} (h:o≠8/\o≠9/\o≠19/\o≠38/\o≠42/\o≠45):rx k o r:=by
 unfold rx
 split
 ·exact ⟨fun q=>absurd q h.2.1,fun q=>absurd q h.2.2.2.1⟩
 ·exact ⟨fun q=>absurd q h.1,fun q=>absurd q h.2.2.1,fun q=>absurd q h.2.2.2.2.1,fun q=>absurd q h.2.2.2.2.2⟩
def aw (k:Bool) (o:Nat) (r:Nat->Int):Bool:=match k with
 |true=>o==31||o==37||o==38
 |false=>(o==41&&decide (r 4=1))||(o==42&&decide (r 4=1))||(o==43&&decide (r 6≠0))||o==44||o==45
def spn (k:Bool) (o:Nat) (r:Nat->Int):Bool:=match k with
 |true=>o==5||o==6||o==7||o==9||o==10||(o==8&&decide (r 4≠0))
 |false=>(decide (5<=o)&&decide (o<=12))||o==19||o==20||(o==13&&decide (r 4≠r 6))||(o==14&&decide (r 6=0))
def hld (k:Bool) (o:Nat) (r:Nat->Int):Bool:=match k with
 |true=>(o==8&&decide (r 4=0))||(decide (11<=o)&&decide (o<=30))
 |false=>(o==13&&decide (r 4=r 6))||(o==14&&decide (r 6≠0))||(decide (15<=o)&&decide (o<=18))||(decide (21<=o)&&decide (o<=40))
def dst (k:Bool) (o:Nat) (r:Nat->Int):Nat:=match k,o with
 |true,5=>3|true,6=>2|true,7=>1|true,8=>6|true,9=>5|true,10=>4
 |false,5=>8|false,6=>if r 4=0 then 7 else 17|false,7=>if r 4=0 then 6 else 16|false,8=>if r 4=0 then 5 else 15|false,9=>if r 4=0 then 4 else 14
 |false,10=>if r 4=0 then 3 else 13|false,11=>if r 4=0 then 2 else 12|false,12=>if r 4=0 then 1 else 11|false,13=>10|false,14=>9|false,19=>10|false,20=>9
 |_,_=>0
theorem dst_le (k:Bool) (o:Nat) (r:Nat->Int):dst k o r<=17:=by
 unfold dst
 split
 all_goals first
  |omega
  |(split<;>omega)
def rk (k:Bool) (o:Nat):Nat:=match k,o with
 |true,1=>1|true,2=>2|true,5=>3|true,6=>3|true,7=>3|true,8=>4|true,9=>3|true,10=>3|true,11=>5|true,12=>6|true,13=>8|true,14=>9|true,15=>10|true,16=>11|true,17=>12|true,18=>13|true,19=>15|true,20=>16|true,21=>17|true,24=>18|true,25=>19|true,26=>20|true,27=>21|true,28=>23|true,29=>24|true,30=>25|true,31=>26|true,37=>27|true,38=>28|true,39=>29|true,40=>30|false,1=>1|false,2=>2|false,5=>3|false,6=>3|false,7=>3|false,8=>3|false,9=>3|false,10=>3|false,11=>3|false,12=>3|false,13=>4|false,14=>5|false,15=>6|false,16=>7|false,17=>9|false,18=>10|false,19=>3|false,20=>3|false,21=>11|false,22=>12|false,23=>13|false,24=>14|false,25=>15|false,26=>16|false,27=>17|false,28=>18|false,31=>19|false,32=>20|false,33=>21|false,34=>22|false,35=>24|false,39=>25|false,40=>26|false,41=>27|false,42=>28|false,43=>29|false,44=>30|false,45=>31|false,46=>32|false,47=>33
 |_,_=>0
def rkLn (k:Bool):Nat:=if k=true then 31 else 34
theorem rk_lt (k:Bool) (o:Nat):rk k o<rkLn k:=by
 unfold rk
 split
 all_goals first
  |decide
  |(cases k<;>decide)
def rb (kd:Nat->Bool):Nat->Nat
 |0=>0
 |n+1=>rb kd n+rkLn (kd n)
theorem rb_mono (kd:Nat->Bool) {n m:Nat} (h:n<=m):rb kd n<=rb kd m:=bs_mono (rd:=m) (ln:=fun n=>rkLn (kd n)) (fun _ _=>rfl) h (Nat.le_refl _)
theorem rb_le (kd:Nat->Bool) (n:Nat):rb kd n<=34*n:=by
 induction n with
 |zero=>exact Nat.le_refl _
 |succ n ih=>
  show rb kd n+rkLn (kd n)<=_
  unfold rkLn
  split<;>omega
def pv (k:Bool) (o:Nat) (r:Nat->Int):Nat:=if spn k o r=true then 3 else rk k o
theorem spn_o {k:Bool} {o:Nat} {r:Nat->Int} (h:spn k o r=true):5<=o:=by
 cases k
 ·simp only [spn,Bool.or_eq_true,Bool.and_eq_true,beq_iff_eq,decide_eq_true_eq]at h
  omega
 ·simp only [spn,Bool.or_eq_true,Bool.and_eq_true,beq_iff_eq,decide_eq_true_eq]at h
  omega
theorem spn_aw {k:Bool} {o:Nat} {r:Nat->Int} (h:spn k o r=true):aw k o r=false/\hld k o r=false:=by
 cases k
 ·simp only [spn,Bool.or_eq_true,Bool.and_eq_true,beq_iff_eq,decide_eq_true_eq]at h
  refine ⟨Bool.eq_false_iff.2 (fun q=>?_),Bool.eq_false_iff.2 (fun q=>?_)⟩
  ·simp only [aw,Bool.or_eq_true,Bool.and_eq_true,beq_iff_eq,decide_eq_true_eq]at q
   omega
  ·simp only [hld,Bool.or_eq_true,Bool.and_eq_true,beq_iff_eq,decide_eq_true_eq]at q
   omega
 ·simp only [spn,Bool.or_eq_true,Bool.and_eq_true,beq_iff_eq,decide_eq_true_eq]at h
  refine ⟨Bool.eq_false_iff.2 (fun q=>?_),Bool.eq_false_iff.2 (fun q=>?_)⟩
  ·simp only [aw,Bool.or_eq_true,Bool.and_eq_true,beq_iff_eq,decide_eq_true_eq]at q
   omega
  ·simp only [hld,Bool.or_eq_true,Bool.and_eq_true,beq_iff_eq,decide_eq_true_eq]at q
   omega
theorem pv_lt {k:Bool} {o:Nat} {r:Nat->Int}:pv k o r<rkLn k:=by
 unfold pv
 split
 ·cases k<;>decide
 ·exact rk_lt _ _
theorem pv0 (k:Bool) (r:Nat->Int):pv k 0 r=0:=by cases k<;>rfl
theorem rwLn_pos (k:Bool):41<=rwLn k:=by cases k<;>decide
def RwNx (kd:Nat->Bool) (bs:Nat->Nat) (rd:Nat) (v v':Vw) (t n o:Nat) (r:Nat->Int):Prop:=
 ∃n' o',PlcL (fun n=>rwLn (kd n)) rd n' o'/\(v'.th t).pc=((bs n'+o':Nat):Int)/\(n'<rd->rx (kd n') o' (v'.th t).regs)/\
  (v'.mem 16=0->(v.mem 16=0/\(aw (kd n) o r=true->(n'<rd/\aw (kd n') o' (v'.th t).regs=true)∨v'.slp=[]))∨(n'<rd/\aw (kd n') o' (v'.th t).regs=true))/\
  ((rb kd rd-(rb kd n'+pv (kd n') o' (v'.th t).regs))+(v'.bf t).length<(rb kd rd-(rb kd n+pv (kd n) o r))+(v.bf t).length∨
    (n'=n/\spn (kd n) o r=true/\spn (kd n) o' (v'.th t).regs=true/\SameM v v' t/\(v.mem 16=0->dst (kd n) o' (v'.th t).regs<dst (kd n) o r)))
theorem mv_th (v:Vw) (t:Nat) (x:Th) (b:List Ent) (m:Nat->Int) (l:List Evt):(v.mv t x b m l).th t=x:=upd_same _ _ _
section
variable {nt:Nat} {kd:Nat->Nat->Bool} {rd:Nat->Nat} {bs:Nat->Nat->Nat} {v:Vw} {g:RG} {t:Nat}
theorem nx_in (H:RwI nt kd rd bs v g) {v':Vw} {n o o2 e:Nat} {r r':Nat->Int} {st:Int} {k:Bool} (hn:n<rd t) (hk:kd t n=k) (hth:v'.th t=⟨((bs t n+o2:Nat):Int),r',st⟩) (hb:(v'.bf t).length<=(v.bf t).length+e) (h2:o2<rwLn k) (hr:rx k o2 r') (hp:pv k o r+e<pv k o2 r')
 (hm:v'.mem 16=0->(v.mem 16=0/\(aw k o r=true->aw k o2 r'=true∨v'.slp=[]))∨aw k o2 r'=true):RwNx (kd t) (bs t) (rd t) v v' t n o r:=by
 subst hk
 have hT:=rb_mono (kd t) (show n+1<=rd t from hn)
 have hl:rb (kd t) (n+1)=rb (kd t) n+rkLn (kd t n):=rfl
 have h3:pv (kd t n) o2 r'<rkLn (kd t n):=pv_lt
 refine ⟨n,o2,.inl ⟨hn,h2⟩,by rw [hth],fun _=>by rw [hth];exact hr,fun q=>?_,.inl ?_⟩
 ·rw [hth]
  exact (hm q).imp (fun z=>⟨z.1,fun a=>(z.2 a).imp (fun y=>⟨hn,y⟩) id⟩) (fun z=>⟨hn,z⟩)
 ·rw [hth]
  dsimp only
  omega
theorem nx_end (H:RwI nt kd rd bs v g) {v':Vw} {n o:Nat} {r r':Nat->Int} {st:Int} {k:Bool} (hn:n<rd t) (hk:kd t n=k) (ho:o<rwLn k) (hth:v'.th t=⟨((bs t n+rwLn k:Nat):Int),r',st⟩) (hb:(v'.bf t).length<=(v.bf t).length) (ha:aw k o r=false) (hm:v'.mem 16=v.mem 16):RwNx (kd t) (bs t) (rd t) v v' t n o r:=by
 subst hk
 have hT:=rb_mono (kd t) (show n+1<=rd t from hn)
 have hl:rb (kd t) (n+1)=rb (kd t) n+rkLn (kd t n):=rfl
 have hl2:bs t (n+1)=bs t n+rwLn (kd t n):=H.nx t n
 have h3:pv (kd t n) o r<rkLn (kd t n):=pv_lt
 refine ⟨n+1,0,?_,by rw [hth,Nat.add_zero,hl2],fun _=>rx_triv (by decide),fun q=> .inl ⟨by rw [<-hm];exact q,fun a=>absurd (a.symm.trans ha) (by decide)⟩,.inl ?_⟩
 ·rcases Nat.lt_or_ge (n+1) (rd t)with c|c
  ·exact .inl ⟨c,by have :=rwLn_pos (kd t (n+1));dsimp only;omega⟩
  ·exact .inr ⟨by omega,rfl⟩
 ·rw [pv0,hl]
  omega
theorem nx_sp {v':Vw} {n o o2:Nat} {r r':Nat->Int} {st:Int} {k:Bool} (hn:n<rd t) (hk:kd t n=k) (hth:v'.th t=⟨((bs t n+o2:Nat):Int),r',st⟩) (hb:v'.bf t=v.bf t) (hmm:v'.mem=v.mem) (h2:o2<rwLn k) (hr:rx k o2 r') (h3:spn k o r=true) (h4:spn k o2 r'=true) (hd:v.mem 16=0->dst k o2 r'<dst k o r):RwNx (kd t) (bs t) (rd t) v v' t n o r:=by
 subst hk
 refine ⟨n,o2,.inl ⟨hn,h2⟩,by rw [hth],fun _=>by rw [hth];exact hr,fun q=> .inl ⟨by rw [<-hmm];exact q,fun a=>absurd (a.symm.trans (spn_aw h3).1) (by decide)⟩,.inr ⟨rfl,h3,by rw [hth];exact h4,⟨hb,hmm⟩,fun q=>by rw [hth];exact hd q⟩⟩
theorem RwI.word (H:RwI nt kd rd bs v g):v.mem 16=4294967295∨(0<=v.mem 16/\v.mem 16<=8):=by
 cases h:g.w with
 |none=>have :=(H.sh0 h).1;have :=H.small.2;exact .inr ⟨by omega,by omega⟩
 |some u=>exact .inl (H.sh1 u h).1
theorem wv_0 (H:RwI nt kd rd bs v g) (ht:t<nt) (hS: ∀x∈v.slp,x.2=16) (hl8:v.slp.length<=8) {n:Nat} {r:Nat->Int} (hn:n<rd t) (hk:kd t n=true) (hA:wA (g.at_ v t) (wrs (kd t) n) t r (v.bf t) 0) (hX:rx true 0 r):RwNx (kd t) (bs t) (rd t) v (execV t v (bs t n+0) r (.mark 0)) t n 0 r:=by
 exact nx_in (o2:=1) H hn hk (mv_th _ _ _ _ _ _) (e:=0) (by show (upd v.bf t (v.bf t) t).length<=_;rw [upd_same];omega) (by decide) (rx_triv (by decide)) (by show (0+0:Nat)<1;decide) (fun q=> .inl ⟨q,fun a=>absurd a (by show¬_;simp [aw])⟩)
theorem wv_1 (H:RwI nt kd rd bs v g) (ht:t<nt) (hS: ∀x∈v.slp,x.2=16) (hl8:v.slp.length<=8) {n:Nat} {r:Nat->Int} (hn:n<rd t) (hk:kd t n=true) (hA:wA (g.at_ v t) (wrs (kd t) n) t r (v.bf t) 1) (hX:rx true 1 r):RwNx (kd t) (bs t) (rd t) v (execV t v (bs t n+1) r (.load 4 (17+t))) t n 1 r:=by
 exact nx_in (o2:=2) H hn hk (mv_th _ _ _ _ _ _) (e:=0) (by show (upd v.bf t (v.bf t) t).length<=_;rw [upd_same];omega) (by decide) (rx_triv (by decide)) (by show (1+0:Nat)<2;decide) (fun q=> .inl ⟨q,fun a=>absurd a (by show¬_;simp [aw])⟩)
theorem wv_2 (H:RwI nt kd rd bs v g) (ht:t<nt) (hS: ∀x∈v.slp,x.2=16) (hl8:v.slp.length<=8) {n:Nat} {r:Nat->Int} (hn:n<rd t) (hk:kd t n=true) (hA:wA (g.at_ v t) (wrs (kd t) n) t r (v.bf t) 2) (hX:rx true 2 r):RwNx (kd t) (bs t) (rd t) v (execV t v (bs t n+2) r (.zero 4 (bs t n+5))) t n 2 r:=by
 have hz:r 4=0:=hA.2
 refine nx_in (o2:=5) (r':=r) (st:=0) H hn hk ((mv_th _ _ _ _ _ _).trans ?_) (e:=0) (by show (upd v.bf t (v.bf t) t).length<=_;rw [upd_same];omega) (by decide) (rx_triv (by decide)) (by show (2+0:Nat)<3;decide) (fun q=> .inl ⟨q,fun a=>absurd a (by show¬_;simp [aw])⟩)
 rw [if_pos hz]
theorem wv_5 (H:RwI nt kd rd bs v g) (ht:t<nt) (hS: ∀x∈v.slp,x.2=16) (hl8:v.slp.length<=8) {n:Nat} {r:Nat->Int} (hn:n<rd t) (hk:kd t n=true) (hA:wA (g.at_ v t) (wrs (kd t) n) t r (v.bf t) 5) (hX:rx true 5 r):RwNx (kd t) (bs t) (rd t) v (execV t v (bs t n+5) r (.set 4 0)) t n 5 r:=by
 exact nx_sp (o2:=6) hn hk (mv_th _ _ _ _ _ _) (by show upd v.bf t (v.bf t) t=_;rw [upd_same]) rfl (by decide) (rx_triv (by decide)) rfl rfl (fun _=>by show (2:Nat)<3;decide)
theorem wv_6 (H:RwI nt kd rd bs v g) (ht:t<nt) (hS: ∀x∈v.slp,x.2=16) (hl8:v.slp.length<=8) {n:Nat} {r:Nat->Int} (hn:n<rd t) (hk:kd t n=true) (hA:wA (g.at_ v t) (wrs (kd t) n) t r (v.bf t) 6) (hX:rx true 6 r):RwNx (kd t) (bs t) (rd t) v (execV t v (bs t n+6) r (.set 5 4294967295)) t n 6 r:=by
 exact nx_sp (o2:=7) hn hk (mv_th _ _ _ _ _ _) (by show upd v.bf t (v.bf t) t=_;rw [upd_same]) rfl (by decide) (rx_triv (by decide)) rfl rfl (fun _=>by show (1:Nat)<2;decide)
theorem wv_7 (H:RwI nt kd rd bs v g) (ht:t<nt) (hS: ∀x∈v.slp,x.2=16) (hl8:v.slp.length<=8) {n:Nat} {r:Nat->Int} (hn:n<rd t) (hk:kd t n=true) (hA:wA (g.at_ v t) (wrs (kd t) n) t r (v.bf t) 7) (hX:rx true 7 r):RwNx (kd t) (bs t) (rd t) v (execV t v (bs t n+7) r (.cas 4 5 16)) t n 7 r:=by
 have h4:r 4=0:=hA.2.1
 by_cases hz:v.mem 16=r 4
 ·have e0:execV t v (bs t n+7) r (.cas 4 5 16)=v.mv t ⟨((bs t n+7+1:Nat):Int),updR r 4 (v.mem 16),0⟩ (v.bf t) (upd v.mem 16 (r 5)) [⟨4,(t:Int),((bs t n+7:Nat):Int),((16:Nat):Int),r 5,v.mem 16,0,true⟩]:=if_pos hz
  rw [e0]
  refine nx_in (o2:=8) H hn hk (mv_th _ _ _ _ _ _) (e:=0) (by show (upd v.bf t (v.bf t) t).length<=_;rw [upd_same];omega) (by decide) ⟨fun q=>absurd q (by decide),fun q=>absurd q (by decide)⟩ ?_ (fun q=>?_)
  ·have s:spn true 8 (updR r 4 (v.mem 16))=false:=by simp [spn,updR_at,hz,h4]
   unfold pv
   rw [s]
   show (3+0:Nat)<4
   decide
  ·exfalso
   have :upd v.mem 16 (r 5) 16=0:=q
   rw [upd_same,hA.2.2]at this
   exact absurd this (by decide)
 ·have e0:execV t v (bs t n+7) r (.cas 4 5 16)=v.mv t ⟨((bs t n+7+1:Nat):Int),updR r 4 (v.mem 16),0⟩ (v.bf t) v.mem [⟨4,(t:Int),((bs t n+7:Nat):Int),((16:Nat):Int),v.mem 16,v.mem 16,0,false⟩]:=if_neg hz
  rw [e0]
  rw [h4]at hz
  exact nx_sp (o2:=8) hn hk (mv_th _ _ _ _ _ _) (by show upd v.bf t (v.bf t) t=_;rw [upd_same]) rfl (by decide) ⟨fun q=>absurd q (by decide),fun q=>absurd q (by decide)⟩ rfl (by simp [spn,updR_at,hz]) (fun q=>absurd q hz)
theorem wv_8 (H:RwI nt kd rd bs v g) (ht:t<nt) (hS: ∀x∈v.slp,x.2=16) (hl8:v.slp.length<=8) {n:Nat} {r:Nat->Int} (hn:n<rd t) (hk:kd t n=true) (hA:wA (g.at_ v t) (wrs (kd t) n) t r (v.bf t) 8) (hX:rx true 8 r):RwNx (kd t) (bs t) (rd t) v (execV t v (bs t n+8) r (.zero 4 (bs t n+11))) t n 8 r:=by
 by_cases hz:r 4=0
 ·refine nx_in (o2:=11) (r':=r) (st:=0) H hn hk ((mv_th _ _ _ _ _ _).trans ?_) (e:=0) (by show (upd v.bf t (v.bf t) t).length<=_;rw [upd_same];omega) (by decide) (rx_triv (by decide)) ?_ (fun q=> .inl ⟨q,fun a=>absurd a (by show¬_;simp [aw])⟩)
  ·rw [if_pos hz]
  ·have s:spn true 8 r=false:=by simp [spn,hz]
   unfold pv
   rw [s]
   show (4+0:Nat)<5
   decide
 ·refine nx_sp (o2:=9) (r':=r) (st:=0) hn hk ((mv_th _ _ _ _ _ _).trans ?_) (by show upd v.bf t (v.bf t) t=_;rw [upd_same]) rfl (by decide) ⟨fun _=>hz,fun q=>absurd q (by decide)⟩ (by simp [spn,hz]) rfl (fun _=>by show (5:Nat)<6;decide)
  rw [if_neg hz]
theorem wv_9 (H:RwI nt kd rd bs v g) (ht:t<nt) (hS: ∀x∈v.slp,x.2=16) (hl8:v.slp.length<=8) {n:Nat} {r:Nat->Int} (hn:n<rd t) (hk:kd t n=true) (hA:wA (g.at_ v t) (wrs (kd t) n) t r (v.bf t) 9) (hX:rx true 9 r):RwNx (kd t) (bs t) (rd t) v (execV t v (bs t n+9) r (.wait 4 16)) t n 9 r:=by
 by_cases hz:v.mem 16=r 4
 ·have e0:execV t v (bs t n+9) r (.wait 4 16)={v.mv t ⟨((bs t n+9+1:Nat):Int),updR r 4 0,1⟩ (v.bf t) v.mem [⟨8,(t:Int),((bs t n+9:Nat):Int),((16:Nat):Int),v.mem 16,0,0,true⟩]with slp:=if slpE v.slp (t:Int)=0 then v.slp++[((t:Int),((16:Nat):Int))]else v.slp}:=if_pos hz
  rw [e0]
  exact nx_sp (o2:=10) hn hk (show upd v.th t ⟨((bs t n+9+1:Nat):Int),updR r 4 0,1⟩ t=_ from upd_same _ _ _) (by show upd v.bf t (v.bf t) t=_;rw [upd_same]) rfl (by decide) (rx_triv (by decide)) rfl rfl (fun _=>by show (4:Nat)<5;decide)
 ·have e0:execV t v (bs t n+9) r (.wait 4 16)=v.mv t ⟨((bs t n+9+1:Nat):Int),updR r 4 1,0⟩ (v.bf t) v.mem [⟨8,(t:Int),((bs t n+9:Nat):Int),((16:Nat):Int),v.mem 16,0,0,false⟩]:=if_neg hz
  rw [e0]
  exact nx_sp (o2:=10) hn hk (mv_th _ _ _ _ _ _) (by show upd v.bf t (v.bf t) t=_;rw [upd_same]) rfl (by decide) (rx_triv (by decide)) rfl rfl (fun _=>by show (4:Nat)<5;decide)
theorem wv_10 (H:RwI nt kd rd bs v g) (ht:t<nt) (hS: ∀x∈v.slp,x.2=16) (hl8:v.slp.length<=8) {n:Nat} {r:Nat->Int} (hn:n<rd t) (hk:kd t n=true) (hA:wA (g.at_ v t) (wrs (kd t) n) t r (v.bf t) 10) (hX:rx true 10 r):RwNx (kd t) (bs t) (rd t) v (execV t v (bs t n+10) r (.jump (bs t n+5))) t n 10 r:=by
 exact nx_sp (o2:=5) hn hk (mv_th _ _ _ _ _ _) (by show upd v.bf t (v.bf t) t=_;rw [upd_same]) rfl (by decide) (rx_triv (by decide)) rfl rfl (fun _=>by show (3:Nat)<4;decide)
theorem wv_11 (H:RwI nt kd rd bs v g) (ht:t<nt) (hS: ∀x∈v.slp,x.2=16) (hl8:v.slp.length<=8) {n:Nat} {r:Nat->Int} (hn:n<rd t) (hk:kd t n=true) (hA:wA (g.at_ v t) (wrs (kd t) n) t r (v.bf t) 11) (hX:rx true 11 r):RwNx (kd t) (bs t) (rd t) v (execV t v (bs t n+11) r (.set 4 2)) t n 11 r:=by
 exact nx_in (o2:=12) H hn hk (mv_th _ _ _ _ _ _) (e:=0) (by show (upd v.bf t (v.bf t) t).length<=_;rw [upd_same];omega) (by decide) (rx_triv (by decide)) (by show (5+0:Nat)<6;decide) (fun q=> .inl ⟨q,fun a=>absurd a (by show¬_;simp [aw])⟩)
theorem wv_13 (H:RwI nt kd rd bs v g) (ht:t<nt) (hS: ∀x∈v.slp,x.2=16) (hl8:v.slp.length<=8) {n:Nat} {r:Nat->Int} (hn:n<rd t) (hk:kd t n=true) (hA:wA (g.at_ v t) (wrs (kd t) n) t r (v.bf t) 13) (hX:rx true 13 r):RwNx (kd t) (bs t) (rd t) v (execV t v (bs t n+13) r (.set 7 0)) t n 13 r:=by
 exact nx_in (o2:=14) H hn hk (mv_th _ _ _ _ _ _) (e:=0) (by show (upd v.bf t (v.bf t) t).length<=_;rw [upd_same];omega) (by decide) (rx_triv (by decide)) (by show (8+0:Nat)<9;decide) (fun q=> .inl ⟨q,fun a=>absurd a (by show¬_;simp [aw])⟩)
theorem wv_14 (H:RwI nt kd rd bs v g) (ht:t<nt) (hS: ∀x∈v.slp,x.2=16) (hl8:v.slp.length<=8) {n:Nat} {r:Nat->Int} (hn:n<rd t) (hk:kd t n=true) (hA:wA (g.at_ v t) (wrs (kd t) n) t r (v.bf t) 14) (hX:rx true 14 r):RwNx (kd t) (bs t) (rd t) v (execV t v (bs t n+14) r (.mark 1)) t n 14 r:=by
 exact nx_in (o2:=15) H hn hk (mv_th _ _ _ _ _ _) (e:=0) (by show (upd v.bf t (v.bf t) t).length<=_;rw [upd_same];omega) (by decide) (rx_triv (by decide)) (by show (9+0:Nat)<10;decide) (fun q=> .inl ⟨q,fun a=>absurd a (by show¬_;simp [aw])⟩)
theorem wv_15 (H:RwI nt kd rd bs v g) (ht:t<nt) (hS: ∀x∈v.slp,x.2=16) (hl8:v.slp.length<=8) {n:Nat} {r:Nat->Int} (hn:n<rd t) (hk:kd t n=true) (hA:wA (g.at_ v t) (wrs (kd t) n) t r (v.bf t) 15) (hX:rx true 15 r):RwNx (kd t) (bs t) (rd t) v (execV t v (bs t n+15) r (.load 1 0)) t n 15 r:=by
 exact nx_in (o2:=16) H hn hk (mv_th _ _ _ _ _ _) (e:=0) (by show (upd v.bf t (v.bf t) t).length<=_;rw [upd_same];omega) (by decide) (rx_triv (by decide)) (by show (10+0:Nat)<11;decide) (fun q=> .inl ⟨q,fun a=>absurd a (by show¬_;simp [aw])⟩)
theorem wv_16 (H:RwI nt kd rd bs v g) (ht:t<nt) (hS: ∀x∈v.slp,x.2=16) (hl8:v.slp.length<=8) {n:Nat} {r:Nat->Int} (hn:n<rd t) (hk:kd t n=true) (hA:wA (g.at_ v t) (wrs (kd t) n) t r (v.bf t) 16) (hX:rx true 16 r):RwNx (kd t) (bs t) (rd t) v (execV t v (bs t n+16) r (.set 2 1)) t n 16 r:=by
 exact nx_in (o2:=17) H hn hk (mv_th _ _ _ _ _ _) (e:=0) (by show (upd v.bf t (v.bf t) t).length<=_;rw [upd_same];omega) (by decide) (rx_triv (by decide)) (by show (11+0:Nat)<12;decide) (fun q=> .inl ⟨q,fun a=>absurd a (by show¬_;simp [aw])⟩)
theorem wv_17 (H:RwI nt kd rd bs v g) (ht:t<nt) (hS: ∀x∈v.slp,x.2=16) (hl8:v.slp.length<=8) {n:Nat} {r:Nat->Int} (hn:n<rd t) (hk:kd t n=true) (hA:wA (g.at_ v t) (wrs (kd t) n) t r (v.bf t) 17) (hX:rx true 17 r):RwNx (kd t) (bs t) (rd t) v (execV t v (bs t n+17) r (.add 1 1 2)) t n 17 r:=by
 exact nx_in (o2:=18) H hn hk (mv_th _ _ _ _ _ _) (e:=0) (by show (upd v.bf t (v.bf t) t).length<=_;rw [upd_same];omega) (by decide) (rx_triv (by decide)) (by show (12+0:Nat)<13;decide) (fun q=> .inl ⟨q,fun a=>absurd a (by show¬_;simp [aw])⟩)
theorem wv_19 (H:RwI nt kd rd bs v g) (ht:t<nt) (hS: ∀x∈v.slp,x.2=16) (hl8:v.slp.length<=8) {n:Nat} {r:Nat->Int} (hn:n<rd t) (hk:kd t n=true) (hA:wA (g.at_ v t) (wrs (kd t) n) t r (v.bf t) 19) (hX:rx true 19 r):RwNx (kd t) (bs t) (rd t) v (execV t v (bs t n+19) r (.mark 2)) t n 19 r:=by
 exact nx_in (o2:=20) H hn hk (mv_th _ _ _ _ _ _) (e:=0) (by show (upd v.bf t (v.bf t) t).length<=_;rw [upd_same];omega) (by decide) (rx_triv (by decide)) (by show (15+0:Nat)<16;decide) (fun q=> .inl ⟨q,fun a=>absurd a (by show¬_;simp [aw])⟩)
theorem wv_20 (H:RwI nt kd rd bs v g) (ht:t<nt) (hS: ∀x∈v.slp,x.2=16) (hl8:v.slp.length<=8) {n:Nat} {r:Nat->Int} (hn:n<rd t) (hk:kd t n=true) (hA:wA (g.at_ v t) (wrs (kd t) n) t r (v.bf t) 20) (hX:rx true 20 r):RwNx (kd t) (bs t) (rd t) v (execV t v (bs t n+20) r (.load 4 (17+t))) t n 20 r:=by
 exact nx_in (o2:=21) H hn hk (mv_th _ _ _ _ _ _) (e:=0) (by show (upd v.bf t (v.bf t) t).length<=_;rw [upd_same];omega) (by decide) (rx_triv (by decide)) (by show (16+0:Nat)<17;decide) (fun q=> .inl ⟨q,fun a=>absurd a (by show¬_;simp [aw])⟩)
theorem wv_24 (H:RwI nt kd rd bs v g) (ht:t<nt) (hS: ∀x∈v.slp,x.2=16) (hl8:v.slp.length<=8) {n:Nat} {r:Nat->Int} (hn:n<rd t) (hk:kd t n=true) (hA:wA (g.at_ v t) (wrs (kd t) n) t r (v.bf t) 24) (hX:rx true 24 r):RwNx (kd t) (bs t) (rd t) v (execV t v (bs t n+24) r (.set 5 1)) t n 24 r:=by
 exact nx_in (o2:=25) H hn hk (mv_th _ _ _ _ _ _) (e:=0) (by show (upd v.bf t (v.bf t) t).length<=_;rw [upd_same];omega) (by decide) (rx_triv (by decide)) (by show (18+0:Nat)<19;decide) (fun q=> .inl ⟨q,fun a=>absurd a (by show¬_;simp [aw])⟩)
theorem wv_25 (H:RwI nt kd rd bs v g) (ht:t<nt) (hS: ∀x∈v.slp,x.2=16) (hl8:v.slp.length<=8) {n:Nat} {r:Nat->Int} (hn:n<rd t) (hk:kd t n=true) (hA:wA (g.at_ v t) (wrs (kd t) n) t r (v.bf t) 25) (hX:rx true 25 r):RwNx (kd t) (bs t) (rd t) v (execV t v (bs t n+25) r (.same 6 4 5)) t n 25 r:=by
 exact nx_in (o2:=26) H hn hk (mv_th _ _ _ _ _ _) (e:=0) (by show (upd v.bf t (v.bf t) t).length<=_;rw [upd_same];omega) (by decide) (rx_triv (by decide)) (by show (19+0:Nat)<20;decide) (fun q=> .inl ⟨q,fun a=>absurd a (by show¬_;simp [aw])⟩)
theorem wv_26 (H:RwI nt kd rd bs v g) (ht:t<nt) (hS: ∀x∈v.slp,x.2=16) (hl8:v.slp.length<=8) {n:Nat} {r:Nat->Int} (hn:n<rd t) (hk:kd t n=true) (hA:wA (g.at_ v t) (wrs (kd t) n) t r (v.bf t) 26) (hX:rx true 26 r):RwNx (kd t) (bs t) (rd t) v (execV t v (bs t n+26) r (.set 4 0)) t n 26 r:=by
 exact nx_in (o2:=27) H hn hk (mv_th _ _ _ _ _ _) (e:=0) (by show (upd v.bf t (v.bf t) t).length<=_;rw [upd_same];omega) (by decide) (rx_triv (by decide)) (by show (20+0:Nat)<21;decide) (fun q=> .inl ⟨q,fun a=>absurd a (by show¬_;simp [aw])⟩)
theorem wv_29 (H:RwI nt kd rd bs v g) (ht:t<nt) (hS: ∀x∈v.slp,x.2=16) (hl8:v.slp.length<=8) {n:Nat} {r:Nat->Int} (hn:n<rd t) (hk:kd t n=true) (hA:wA (g.at_ v t) (wrs (kd t) n) t r (v.bf t) 29) (hX:rx true 29 r):RwNx (kd t) (bs t) (rd t) v (execV t v (bs t n+29) r (.set 4 0)) t n 29 r:=by
 exact nx_in (o2:=30) H hn hk (mv_th _ _ _ _ _ _) (e:=0) (by show (upd v.bf t (v.bf t) t).length<=_;rw [upd_same];omega) (by decide) (rx_triv (by decide)) (by show (24+0:Nat)<25;decide) (fun q=> .inl ⟨q,fun a=>absurd a (by show¬_;simp [aw])⟩)
theorem wv_12 (H:RwI nt kd rd bs v g) (ht:t<nt) (hS: ∀x∈v.slp,x.2=16) (hl8:v.slp.length<=8) {n:Nat} {r:Nat->Int} (hn:n<rd t) (hk:kd t n=true) (hA:wA (g.at_ v t) (wrs (kd t) n) t r (v.bf t) 12) (hX:rx true 12 r):RwNx (kd t) (bs t) (rd t) v (execV t v (bs t n+12) r (.store 4 (17+t))) t n 12 r:=by
 exact nx_in (o2:=13) H hn hk (mv_th _ _ _ _ _ _) (e:=1) (by show (upd v.bf t (v.bf t++[_]) t).length<=_;rw [upd_same,List.length_append];exact Nat.le_refl _) (by decide) (rx_triv (by decide)) (by show (6+1:Nat)<8;decide) (fun q=> .inl ⟨q,fun a=>absurd a (by show¬_;simp [aw])⟩)
theorem wv_18 (H:RwI nt kd rd bs v g) (ht:t<nt) (hS: ∀x∈v.slp,x.2=16) (hl8:v.slp.length<=8) {n:Nat} {r:Nat->Int} (hn:n<rd t) (hk:kd t n=true) (hA:wA (g.at_ v t) (wrs (kd t) n) t r (v.bf t) 18) (hX:rx true 18 r):RwNx (kd t) (bs t) (rd t) v (execV t v (bs t n+18) r (.store 1 0)) t n 18 r:=by
 exact nx_in (o2:=19) H hn hk (mv_th _ _ _ _ _ _) (e:=1) (by show (upd v.bf t (v.bf t++[_]) t).length<=_;rw [upd_same,List.length_append];exact Nat.le_refl _) (by decide) ⟨fun q=>absurd q (by decide),fun q=>absurd q (by decide)⟩ (by show (13+1:Nat)<15;decide) (fun q=> .inl ⟨q,fun a=>absurd a (by show¬_;simp [aw])⟩)
theorem wv_27 (H:RwI nt kd rd bs v g) (ht:t<nt) (hS: ∀x∈v.slp,x.2=16) (hl8:v.slp.length<=8) {n:Nat} {r:Nat->Int} (hn:n<rd t) (hk:kd t n=true) (hA:wA (g.at_ v t) (wrs (kd t) n) t r (v.bf t) 27) (hX:rx true 27 r):RwNx (kd t) (bs t) (rd t) v (execV t v (bs t n+27) r (.store 4 (17+t))) t n 27 r:=by
 exact nx_in (o2:=28) H hn hk (mv_th _ _ _ _ _ _) (e:=1) (by show (upd v.bf t (v.bf t++[_]) t).length<=_;rw [upd_same,List.length_append];exact Nat.le_refl _) (by decide) (rx_triv (by decide)) (by show (21+1:Nat)<23;decide) (fun q=> .inl ⟨q,fun a=>absurd a (by show¬_;simp [aw])⟩)
theorem wv_21 (H:RwI nt kd rd bs v g) (ht:t<nt) (hS: ∀x∈v.slp,x.2=16) (hl8:v.slp.length<=8) {n:Nat} {r:Nat->Int} (hn:n<rd t) (hk:kd t n=true) (hA:wA (g.at_ v t) (wrs (kd t) n) t r (v.bf t) 21) (hX:rx true 21 r):RwNx (kd t) (bs t) (rd t) v (execV t v (bs t n+21) r (.some 4 (bs t n+24))) t n 21 r:=by
 have hz:r 4=2:=hA.2.2
 refine nx_in (o2:=24) (r':=r) (st:=0) H hn hk ((mv_th _ _ _ _ _ _).trans ?_) (e:=0) (by show (upd v.bf t (v.bf t) t).length<=_;rw [upd_same];omega) (by decide) (rx_triv (by decide)) (by show (17+0:Nat)<18;decide) (fun q=> .inl ⟨q,fun a=>absurd a (by show¬_;simp [aw])⟩)
 rw [if_neg (by rw [hz];decide)]
theorem wv_28 (H:RwI nt kd rd bs v g) (ht:t<nt) (hS: ∀x∈v.slp,x.2=16) (hl8:v.slp.length<=8) {n:Nat} {r:Nat->Int} (hn:n<rd t) (hk:kd t n=true) (hA:wA (g.at_ v t) (wrs (kd t) n) t r (v.bf t) 28) (hX:rx true 28 r):RwNx (kd t) (bs t) (rd t) v (execV t v (bs t n+28) r (.some 6 (bs t n+32))) t n 28 r:=by
 have hz:r 6=0:=hA.2.2
 refine nx_in (o2:=29) (r':=r) (st:=0) H hn hk ((mv_th _ _ _ _ _ _).trans ?_) (e:=0) (by show (upd v.bf t (v.bf t) t).length<=_;rw [upd_same];omega) (by decide) (rx_triv (by decide)) (by show (23+0:Nat)<24;decide) (fun q=> .inl ⟨q,fun a=>absurd a (by show¬_;simp [aw])⟩)
 rw [if_pos hz]
theorem wv_30 (H:RwI nt kd rd bs v g) (ht:t<nt) (hS: ∀x∈v.slp,x.2=16) (hl8:v.slp.length<=8) {n:Nat} {r:Nat->Int} (hn:n<rd t) (hk:kd t n=true) (hA:wA (g.at_ v t) (wrs (kd t) n) t r (v.bf t) 30) (hX:rx true 30 r):RwNx (kd t) (bs t) (rd t) v (execV t v (bs t n+30) r (.swap 4 16)) t n 30 r:=by
 exact nx_in (o2:=31) H hn hk (mv_th _ _ _ _ _ _) (e:=0) (by show (upd v.bf t (v.bf t) t).length<=_;rw [upd_same];omega) (by decide) (rx_triv (by decide)) (by show (25+0:Nat)<26;decide) (fun _=> .inr rfl)
theorem wv_31 (H:RwI nt kd rd bs v g) (ht:t<nt) (hS: ∀x∈v.slp,x.2=16) (hl8:v.slp.length<=8) {n:Nat} {r:Nat->Int} (hn:n<rd t) (hk:kd t n=true) (hA:wA (g.at_ v t) (wrs (kd t) n) t r (v.bf t) 31) (hX:rx true 31 r):RwNx (kd t) (bs t) (rd t) v (execV t v (bs t n+31) r (.jump (bs t n+37))) t n 31 r:=by
 exact nx_in (o2:=37) H hn hk (mv_th _ _ _ _ _ _) (e:=0) (by show (upd v.bf t (v.bf t) t).length<=_;rw [upd_same];omega) (by decide) (rx_triv (by decide)) (by show (26+0:Nat)<27;decide) (fun _=> .inr rfl)
theorem wv_37 (H:RwI nt kd rd bs v g) (ht:t<nt) (hS: ∀x∈v.slp,x.2=16) (hl8:v.slp.length<=8) {n:Nat} {r:Nat->Int} (hn:n<rd t) (hk:kd t n=true) (hA:wA (g.at_ v t) (wrs (kd t) n) t r (v.bf t) 37) (hX:rx true 37 r):RwNx (kd t) (bs t) (rd t) v (execV t v (bs t n+37) r (.set 4 4294967295)) t n 37 r:=by
 exact nx_in (o2:=38) H hn hk (mv_th _ _ _ _ _ _) (e:=0) (by show (upd v.bf t (v.bf t) t).length<=_;rw [upd_same];omega) (by decide) ⟨fun q=>absurd q (by decide),fun _=>updR_at _ _ _⟩ (by show (27+0:Nat)<28;decide) (fun _=> .inr rfl)
theorem wv_38 (H:RwI nt kd rd bs v g) (ht:t<nt) (hS: ∀x∈v.slp,x.2=16) (hl8:v.slp.length<=8) {n:Nat} {r:Nat->Int} (hn:n<rd t) (hk:kd t n=true) (hA:wA (g.at_ v t) (wrs (kd t) n) t r (v.bf t) 38) (hX:rx true 38 r):RwNx (kd t) (bs t) (rd t) v (execV t v (bs t n+38) r (.wake 4 16)) t n 38 r:=by
 have h4:r 4=4294967295:=hX.2 rfl
 have hw:=wk_every hS (n:=(r 4).toNat) (by rw [h4];have :(4294967295:Int).toNat=4294967295:=rfl;omega)
 have e0:(execV t v (bs t n+38) r (.wake 4 16)).th t=⟨((bs t n+38+1:Nat):Int),updR r 4 ((wk ((16:Nat):Int) (r 4).toNat v.slp).2.length:Int),0⟩:=upd_same _ _ _
 exact nx_in (o2:=39) H hn hk e0 (e:=0) (by show (v.bf t).length<=_;omega) (by decide) (rx_triv (by decide)) (by show (28+0:Nat)<29;decide) (fun q=> .inl ⟨q,fun _=> .inr hw.1⟩)
theorem wv_39 (H:RwI nt kd rd bs v g) (ht:t<nt) (hS: ∀x∈v.slp,x.2=16) (hl8:v.slp.length<=8) {n:Nat} {r:Nat->Int} (hn:n<rd t) (hk:kd t n=true) (hA:wA (g.at_ v t) (wrs (kd t) n) t r (v.bf t) 39) (hX:rx true 39 r):RwNx (kd t) (bs t) (rd t) v (execV t v (bs t n+39) r (.set 7 0)) t n 39 r:=by
 exact nx_in (o2:=40) H hn hk (mv_th _ _ _ _ _ _) (e:=0) (by show (upd v.bf t (v.bf t) t).length<=_;rw [upd_same];omega) (by decide) (rx_triv (by decide)) (by show (29+0:Nat)<30;decide) (fun q=> .inl ⟨q,fun a=>absurd a (by show¬_;simp [aw])⟩)
theorem wv_40 (H:RwI nt kd rd bs v g) (ht:t<nt) (hS: ∀x∈v.slp,x.2=16) (hl8:v.slp.length<=8) {n:Nat} {r:Nat->Int} (hn:n<rd t) (hk:kd t n=true) (hA:wA (g.at_ v t) (wrs (kd t) n) t r (v.bf t) 40) (hX:rx true 40 r):RwNx (kd t) (bs t) (rd t) v (execV t v (bs t n+40) r (.mark 3)) t n 40 r:=by
 exact nx_end H hn hk (by decide) (mv_th _ _ _ _ _ _) (by show (upd v.bf t (v.bf t) t).length<=_;rw [upd_same];exact Nat.le_refl _) rfl rfl
theorem rv_0 (H:RwI nt kd rd bs v g) (ht:t<nt) (hS: ∀x∈v.slp,x.2=16) (hl8:v.slp.length<=8) {n:Nat} {r:Nat->Int} (hn:n<rd t) (hk:kd t n=false) (hA:rA (g.at_ v t) (wrs (kd t) n) t r (v.bf t) 0) (hX:rx false 0 r):RwNx (kd t) (bs t) (rd t) v (execV t v (bs t n+0) r (.mark 4)) t n 0 r:=by
 exact nx_in (o2:=1) H hn hk (mv_th _ _ _ _ _ _) (e:=0) (by show (upd v.bf t (v.bf t) t).length<=_;rw [upd_same];omega) (by decide) (rx_triv (by decide)) (by show (0+0:Nat)<1;decide) (fun q=> .inl ⟨q,fun a=>absurd a (by show¬_;simp [aw])⟩)
theorem rv_1 (H:RwI nt kd rd bs v g) (ht:t<nt) (hS: ∀x∈v.slp,x.2=16) (hl8:v.slp.length<=8) {n:Nat} {r:Nat->Int} (hn:n<rd t) (hk:kd t n=false) (hA:rA (g.at_ v t) (wrs (kd t) n) t r (v.bf t) 1) (hX:rx false 1 r):RwNx (kd t) (bs t) (rd t) v (execV t v (bs t n+1) r (.load 4 (17+t))) t n 1 r:=by
 exact nx_in (o2:=2) H hn hk (mv_th _ _ _ _ _ _) (e:=0) (by show (upd v.bf t (v.bf t) t).length<=_;rw [upd_same];omega) (by decide) (rx_triv (by decide)) (by show (1+0:Nat)<2;decide) (fun q=> .inl ⟨q,fun a=>absurd a (by show¬_;simp [aw])⟩)
theorem rv_2 (H:RwI nt kd rd bs v g) (ht:t<nt) (hS: ∀x∈v.slp,x.2=16) (hl8:v.slp.length<=8) {n:Nat} {r:Nat->Int} (hn:n<rd t) (hk:kd t n=false) (hA:rA (g.at_ v t) (wrs (kd t) n) t r (v.bf t) 2) (hX:rx false 2 r):RwNx (kd t) (bs t) (rd t) v (execV t v (bs t n+2) r (.zero 4 (bs t n+5))) t n 2 r:=by
 have hz:r 4=0:=hA.2
 refine nx_in (o2:=5) (r':=r) (st:=0) H hn hk ((mv_th _ _ _ _ _ _).trans ?_) (e:=0) (by show (upd v.bf t (v.bf t) t).length<=_;rw [upd_same];omega) (by decide) (rx_triv (by decide)) (by show (2+0:Nat)<3;decide) (fun q=> .inl ⟨q,fun a=>absurd a (by show¬_;simp [aw])⟩)
 rw [if_pos hz]
theorem rv_5 (H:RwI nt kd rd bs v g) (ht:t<nt) (hS: ∀x∈v.slp,x.2=16) (hl8:v.slp.length<=8) {n:Nat} {r:Nat->Int} (hn:n<rd t) (hk:kd t n=false) (hA:rA (g.at_ v t) (wrs (kd t) n) t r (v.bf t) 5) (hX:rx false 5 r):RwNx (kd t) (bs t) (rd t) v (execV t v (bs t n+5) r (.load 4 16)) t n 5 r:=by
 have hb:v.bf t=[]:=hA.b
 refine nx_sp (o2:=6) hn hk (mv_th _ _ _ _ _ _) (by show upd v.bf t (v.bf t) t=_;rw [upd_same]) rfl (by decide) (rx_triv (by decide)) rfl rfl (fun q=>?_)
 show (if updR r 4 (seeV (v.bf t) v.mem 16) 4=0 then 7 else 17)<8
 rw [updR_at,hb,seeV_nil,q,if_pos rfl]
 decide
theorem rv_6 (H:RwI nt kd rd bs v g) (ht:t<nt) (hS: ∀x∈v.slp,x.2=16) (hl8:v.slp.length<=8) {n:Nat} {r:Nat->Int} (hn:n<rd t) (hk:kd t n=false) (hA:rA (g.at_ v t) (wrs (kd t) n) t r (v.bf t) 6) (hX:rx false 6 r):RwNx (kd t) (bs t) (rd t) v (execV t v (bs t n+6) r (.set 5 4294967295)) t n 6 r:=by
 refine nx_sp (o2:=7) hn hk (mv_th _ _ _ _ _ _) (by show upd v.bf t (v.bf t) t=_;rw [upd_same]) rfl (by decide) (rx_triv (by decide)) rfl rfl (fun q=>?_)
 show (if r 4=0 then 6 else 16)<(if r 4=0 then 7 else 17)
 split<;>decide
theorem rv_7 (H:RwI nt kd rd bs v g) (ht:t<nt) (hS: ∀x∈v.slp,x.2=16) (hl8:v.slp.length<=8) {n:Nat} {r:Nat->Int} (hn:n<rd t) (hk:kd t n=false) (hA:rA (g.at_ v t) (wrs (kd t) n) t r (v.bf t) 7) (hX:rx false 7 r):RwNx (kd t) (bs t) (rd t) v (execV t v (bs t n+7) r (.same 6 4 5)) t n 7 r:=by
 refine nx_sp (o2:=8) hn hk (mv_th _ _ _ _ _ _) (by show upd v.bf t (v.bf t) t=_;rw [upd_same]) rfl (by decide) ⟨fun _ q=>by rw [updR_at,hA.2]at q;rw [updR_ot _ _ _ _ (by decide)];exact Classical.byContradiction fun z=>q (if_neg z),fun q=>absurd q (by decide),fun q=>absurd q (by decide),fun q=>absurd q (by decide)⟩ rfl rfl (fun q=>?_)
 show (if r 4=0 then 5 else 15)<(if r 4=0 then 6 else 16)
 split<;>decide
theorem rv_8 (H:RwI nt kd rd bs v g) (ht:t<nt) (hS: ∀x∈v.slp,x.2=16) (hl8:v.slp.length<=8) {n:Nat} {r:Nat->Int} (hn:n<rd t) (hk:kd t n=false) (hA:rA (g.at_ v t) (wrs (kd t) n) t r (v.bf t) 8) (hX:rx false 8 r):RwNx (kd t) (bs t) (rd t) v (execV t v (bs t n+8) r (.some 6 (bs t n+19))) t n 8 r:=by
 by_cases hz:r 6=0
 ·refine nx_sp (o2:=9) (r':=r) (st:=0) hn hk ((mv_th _ _ _ _ _ _).trans ?_) (by show upd v.bf t (v.bf t) t=_;rw [upd_same]) rfl (by decide) ⟨fun q=>absurd q (by decide),fun q=>absurd q (by decide),fun q=>absurd q (by decide),fun q=>absurd q (by decide)⟩ rfl rfl (fun q=>?_)
  ·rw [if_pos hz]
  ·show (if r 4=0 then 4 else 14)<(if r 4=0 then 5 else 15)
   split<;>decide
 ·have h4:r 4=4294967295:=hX.1 rfl hz
  refine nx_sp (o2:=19) (r':=r) (st:=0) hn hk ((mv_th _ _ _ _ _ _).trans ?_) (by show upd v.bf t (v.bf t) t=_;rw [upd_same]) rfl (by decide) ⟨fun q=>absurd q (by decide),fun _=>h4,fun q=>absurd q (by decide),fun q=>absurd q (by decide)⟩ rfl rfl (fun q=>?_)
  ·rw [if_neg hz]
  ·show (10:Nat)<(if r 4=0 then 5 else 15)
   rw [h4];decide
theorem rv_9 (H:RwI nt kd rd bs v g) (ht:t<nt) (hS: ∀x∈v.slp,x.2=16) (hl8:v.slp.length<=8) {n:Nat} {r:Nat->Int} (hn:n<rd t) (hk:kd t n=false) (hA:rA (g.at_ v t) (wrs (kd t) n) t r (v.bf t) 9) (hX:rx false 9 r):RwNx (kd t) (bs t) (rd t) v (execV t v (bs t n+9) r (.set 5 1)) t n 9 r:=by
 refine nx_sp (o2:=10) hn hk (mv_th _ _ _ _ _ _) (by show upd v.bf t (v.bf t) t=_;rw [upd_same]) rfl (by decide) (rx_triv (by decide)) rfl rfl (fun q=>?_)
 show (if r 4=0 then 3 else 13)<(if r 4=0 then 4 else 14)
 split<;>decide
theorem rv_10 (H:RwI nt kd rd bs v g) (ht:t<nt) (hS: ∀x∈v.slp,x.2=16) (hl8:v.slp.length<=8) {n:Nat} {r:Nat->Int} (hn:n<rd t) (hk:kd t n=false) (hA:rA (g.at_ v t) (wrs (kd t) n) t r (v.bf t) 10) (hX:rx false 10 r):RwNx (kd t) (bs t) (rd t) v (execV t v (bs t n+10) r (.add 5 4 5)) t n 10 r:=by
 refine nx_sp (o2:=11) hn hk (mv_th _ _ _ _ _ _) (by show upd v.bf t (v.bf t) t=_;rw [upd_same]) rfl (by decide) (rx_triv (by decide)) rfl rfl (fun q=>?_)
 show (if r 4=0 then 2 else 12)<(if r 4=0 then 3 else 13)
 split<;>decide
theorem rv_11 (H:RwI nt kd rd bs v g) (ht:t<nt) (hS: ∀x∈v.slp,x.2=16) (hl8:v.slp.length<=8) {n:Nat} {r:Nat->Int} (hn:n<rd t) (hk:kd t n=false) (hA:rA (g.at_ v t) (wrs (kd t) n) t r (v.bf t) 11) (hX:rx false 11 r):RwNx (kd t) (bs t) (rd t) v (execV t v (bs t n+11) r (.move 6 4)) t n 11 r:=by
 refine nx_sp (o2:=12) hn hk (mv_th _ _ _ _ _ _) (by show upd v.bf t (v.bf t) t=_;rw [upd_same]) rfl (by decide) (rx_triv (by decide)) rfl rfl (fun q=>?_)
 show (if r 4=0 then 1 else 11)<(if r 4=0 then 2 else 12)
 split<;>decide
theorem rv_12 (H:RwI nt kd rd bs v g) (ht:t<nt) (hS: ∀x∈v.slp,x.2=16) (hl8:v.slp.length<=8) {n:Nat} {r:Nat->Int} (hn:n<rd t) (hk:kd t n=false) (hA:rA (g.at_ v t) (wrs (kd t) n) t r (v.bf t) 12) (hX:rx false 12 r):RwNx (kd t) (bs t) (rd t) v (execV t v (bs t n+12) r (.cas 4 5 16)) t n 12 r:=by
 obtain ⟨hF,h4,h5,h6⟩:=hA
 by_cases hz:v.mem 16=r 4
 ·have e0:execV t v (bs t n+12) r (.cas 4 5 16)=v.mv t ⟨((bs t n+12+1:Nat):Int),updR r 4 (v.mem 16),0⟩ (v.bf t) (upd v.mem 16 (r 5)) [⟨4,(t:Int),((bs t n+12:Nat):Int),((16:Nat):Int),r 5,v.mem 16,0,true⟩]:=if_pos hz
  rw [e0]
  refine nx_in (o2:=13) H hn hk (mv_th _ _ _ _ _ _) (e:=0) (by show (upd v.bf t (v.bf t) t).length<=_;rw [upd_same];omega) (by decide) (rx_triv (by decide)) ?_ (fun q=>?_)
  ·have s:spn false 13 (updR r 4 (v.mem 16))=false:=by simp [spn,updR_at,updR,hz,h6]
   unfold pv
   rw [s]
   show (3+0:Nat)<4
   decide
  ·exfalso
   have q':upd v.mem 16 (r 5) 16=0:=q
   rw [upd_same,h5]at q'
   have :=H.word
   omega
 ·have e0:execV t v (bs t n+12) r (.cas 4 5 16)=v.mv t ⟨((bs t n+12+1:Nat):Int),updR r 4 (v.mem 16),0⟩ (v.bf t) v.mem [⟨4,(t:Int),((bs t n+12:Nat):Int),((16:Nat):Int),v.mem 16,v.mem 16,0,false⟩]:=if_neg hz
  rw [e0]
  refine nx_sp (o2:=13) hn hk (mv_th _ _ _ _ _ _) (by show upd v.bf t (v.bf t) t=_;rw [upd_same]) rfl (by decide) (rx_triv (by decide)) rfl (by simp [spn,updR,h6,hz]) (fun q=>?_)
  show (10:Nat)<(if r 4=0 then 1 else 11)
  rw [if_neg (fun z=>hz (q.trans z.symm))];decide
theorem rv_13 (H:RwI nt kd rd bs v g) (ht:t<nt) (hS: ∀x∈v.slp,x.2=16) (hl8:v.slp.length<=8) {n:Nat} {r:Nat->Int} (hn:n<rd t) (hk:kd t n=false) (hA:rA (g.at_ v t) (wrs (kd t) n) t r (v.bf t) 13) (hX:rx false 13 r):RwNx (kd t) (bs t) (rd t) v (execV t v (bs t n+13) r (.same 6 4 6)) t n 13 r:=by
 by_cases hz:r 4=r 6
 ·refine nx_in (o2:=14) H hn hk (mv_th _ _ _ _ _ _) (e:=0) (by show (upd v.bf t (v.bf t) t).length<=_;rw [upd_same];omega) (by decide) (rx_triv (by decide)) ?_ (fun q=> .inl ⟨q,fun a=>absurd a (by show¬_;simp [aw])⟩)
  have s1:spn false 13 r=false:=by simp [spn,hz]
  have s2:spn false 14 (updR r 6 (if r 4=r 6 then 1 else 0))=false:=by simp [spn,updR,hz]
  unfold pv
  rw [s1,s2]
  show (4+0:Nat)<5
  decide
 ·exact nx_sp (o2:=14) hn hk (mv_th _ _ _ _ _ _) (by show upd v.bf t (v.bf t) t=_;rw [upd_same]) rfl (by decide) (rx_triv (by decide)) (by simp [spn,hz]) (by simp [spn,updR,hz]) (fun _=>by show (9:Nat)<10;decide)
theorem rv_14 (H:RwI nt kd rd bs v g) (ht:t<nt) (hS: ∀x∈v.slp,x.2=16) (hl8:v.slp.length<=8) {n:Nat} {r:Nat->Int} (hn:n<rd t) (hk:kd t n=false) (hA:rA (g.at_ v t) (wrs (kd t) n) t r (v.bf t) 14) (hX:rx false 14 r):RwNx (kd t) (bs t) (rd t) v (execV t v (bs t n+14) r (.zero 6 (bs t n+5))) t n 14 r:=by
 by_cases hz:r 6=0
 ·refine nx_sp (o2:=5) (r':=r) (st:=0) hn hk ((mv_th _ _ _ _ _ _).trans ?_) (by show upd v.bf t (v.bf t) t=_;rw [upd_same]) rfl (by decide) (rx_triv (by decide)) (by simp [spn,hz]) rfl (fun _=>by show (8:Nat)<9;decide)
  rw [if_pos hz]
 ·refine nx_in (o2:=15) (r':=r) (st:=0) H hn hk ((mv_th _ _ _ _ _ _).trans ?_) (e:=0) (by show (upd v.bf t (v.bf t) t).length<=_;rw [upd_same];omega) (by decide) (rx_triv (by decide)) ?_ (fun q=> .inl ⟨q,fun a=>absurd a (by show¬_;simp [aw])⟩)
  ·rw [if_neg hz]
  ·have s1:spn false 14 r=false:=by simp [spn,hz]
   unfold pv
   rw [s1]
   show (5+0:Nat)<6
   decide
theorem rv_15 (H:RwI nt kd rd bs v g) (ht:t<nt) (hS: ∀x∈v.slp,x.2=16) (hl8:v.slp.length<=8) {n:Nat} {r:Nat->Int} (hn:n<rd t) (hk:kd t n=false) (hA:rA (g.at_ v t) (wrs (kd t) n) t r (v.bf t) 15) (hX:rx false 15 r):RwNx (kd t) (bs t) (rd t) v (execV t v (bs t n+15) r (.set 4 1)) t n 15 r:=by
 exact nx_in (o2:=16) H hn hk (mv_th _ _ _ _ _ _) (e:=0) (by show (upd v.bf t (v.bf t) t).length<=_;rw [upd_same];omega) (by decide) (rx_triv (by decide)) (by show (6+0:Nat)<7;decide) (fun q=> .inl ⟨q,fun a=>absurd a (by show¬_;simp [aw])⟩)
theorem rv_17 (H:RwI nt kd rd bs v g) (ht:t<nt) (hS: ∀x∈v.slp,x.2=16) (hl8:v.slp.length<=8) {n:Nat} {r:Nat->Int} (hn:n<rd t) (hk:kd t n=false) (hA:rA (g.at_ v t) (wrs (kd t) n) t r (v.bf t) 17) (hX:rx false 17 r):RwNx (kd t) (bs t) (rd t) v (execV t v (bs t n+17) r (.set 7 0)) t n 17 r:=by
 exact nx_in (o2:=18) H hn hk (mv_th _ _ _ _ _ _) (e:=0) (by show (upd v.bf t (v.bf t) t).length<=_;rw [upd_same];omega) (by decide) (rx_triv (by decide)) (by show (9+0:Nat)<10;decide) (fun q=> .inl ⟨q,fun a=>absurd a (by show¬_;simp [aw])⟩)
theorem rv_21 (H:RwI nt kd rd bs v g) (ht:t<nt) (hS: ∀x∈v.slp,x.2=16) (hl8:v.slp.length<=8) {n:Nat} {r:Nat->Int} (hn:n<rd t) (hk:kd t n=false) (hA:rA (g.at_ v t) (wrs (kd t) n) t r (v.bf t) 21) (hX:rx false 21 r):RwNx (kd t) (bs t) (rd t) v (execV t v (bs t n+21) r (.mark 5)) t n 21 r:=by
 exact nx_in (o2:=22) H hn hk (mv_th _ _ _ _ _ _) (e:=0) (by show (upd v.bf t (v.bf t) t).length<=_;rw [upd_same];omega) (by decide) (rx_triv (by decide)) (by show (11+0:Nat)<12;decide) (fun q=> .inl ⟨q,fun a=>absurd a (by show¬_;simp [aw])⟩)
theorem rv_22 (H:RwI nt kd rd bs v g) (ht:t<nt) (hS: ∀x∈v.slp,x.2=16) (hl8:v.slp.length<=8) {n:Nat} {r:Nat->Int} (hn:n<rd t) (hk:kd t n=false) (hA:rA (g.at_ v t) (wrs (kd t) n) t r (v.bf t) 22) (hX:rx false 22 r):RwNx (kd t) (bs t) (rd t) v (execV t v (bs t n+22) r (.load 1 0)) t n 22 r:=by
 exact nx_in (o2:=23) H hn hk (mv_th _ _ _ _ _ _) (e:=0) (by show (upd v.bf t (v.bf t) t).length<=_;rw [upd_same];omega) (by decide) (rx_triv (by decide)) (by show (12+0:Nat)<13;decide) (fun q=> .inl ⟨q,fun a=>absurd a (by show¬_;simp [aw])⟩)
theorem rv_23 (H:RwI nt kd rd bs v g) (ht:t<nt) (hS: ∀x∈v.slp,x.2=16) (hl8:v.slp.length<=8) {n:Nat} {r:Nat->Int} (hn:n<rd t) (hk:kd t n=false) (hA:rA (g.at_ v t) (wrs (kd t) n) t r (v.bf t) 23) (hX:rx false 23 r):RwNx (kd t) (bs t) (rd t) v (execV t v (bs t n+23) r (.out 1)) t n 23 r:=by
 exact nx_in (o2:=24) H hn hk (mv_th _ _ _ _ _ _) (e:=0) (by show (upd v.bf t (v.bf t) t).length<=_;rw [upd_same];omega) (by decide) (rx_triv (by decide)) (by show (13+0:Nat)<14;decide) (fun q=> .inl ⟨q,fun a=>absurd a (by show¬_;simp [aw])⟩)
theorem rv_24 (H:RwI nt kd rd bs v g) (ht:t<nt) (hS: ∀x∈v.slp,x.2=16) (hl8:v.slp.length<=8) {n:Nat} {r:Nat->Int} (hn:n<rd t) (hk:kd t n=false) (hA:rA (g.at_ v t) (wrs (kd t) n) t r (v.bf t) 24) (hX:rx false 24 r):RwNx (kd t) (bs t) (rd t) v (execV t v (bs t n+24) r (.load 1 0)) t n 24 r:=by
 exact nx_in (o2:=25) H hn hk (mv_th _ _ _ _ _ _) (e:=0) (by show (upd v.bf t (v.bf t) t).length<=_;rw [upd_same];omega) (by decide) (rx_triv (by decide)) (by show (14+0:Nat)<15;decide) (fun q=> .inl ⟨q,fun a=>absurd a (by show¬_;simp [aw])⟩)
theorem rv_25 (H:RwI nt kd rd bs v g) (ht:t<nt) (hS: ∀x∈v.slp,x.2=16) (hl8:v.slp.length<=8) {n:Nat} {r:Nat->Int} (hn:n<rd t) (hk:kd t n=false) (hA:rA (g.at_ v t) (wrs (kd t) n) t r (v.bf t) 25) (hX:rx false 25 r):RwNx (kd t) (bs t) (rd t) v (execV t v (bs t n+25) r (.out 1)) t n 25 r:=by
 exact nx_in (o2:=26) H hn hk (mv_th _ _ _ _ _ _) (e:=0) (by show (upd v.bf t (v.bf t) t).length<=_;rw [upd_same];omega) (by decide) (rx_triv (by decide)) (by show (15+0:Nat)<16;decide) (fun q=> .inl ⟨q,fun a=>absurd a (by show¬_;simp [aw])⟩)
theorem rv_26 (H:RwI nt kd rd bs v g) (ht:t<nt) (hS: ∀x∈v.slp,x.2=16) (hl8:v.slp.length<=8) {n:Nat} {r:Nat->Int} (hn:n<rd t) (hk:kd t n=false) (hA:rA (g.at_ v t) (wrs (kd t) n) t r (v.bf t) 26) (hX:rx false 26 r):RwNx (kd t) (bs t) (rd t) v (execV t v (bs t n+26) r (.mark 2)) t n 26 r:=by
 exact nx_in (o2:=27) H hn hk (mv_th _ _ _ _ _ _) (e:=0) (by show (upd v.bf t (v.bf t) t).length<=_;rw [upd_same];omega) (by decide) (rx_triv (by decide)) (by show (16+0:Nat)<17;decide) (fun q=> .inl ⟨q,fun a=>absurd a (by show¬_;simp [aw])⟩)
theorem rv_27 (H:RwI nt kd rd bs v g) (ht:t<nt) (hS: ∀x∈v.slp,x.2=16) (hl8:v.slp.length<=8) {n:Nat} {r:Nat->Int} (hn:n<rd t) (hk:kd t n=false) (hA:rA (g.at_ v t) (wrs (kd t) n) t r (v.bf t) 27) (hX:rx false 27 r):RwNx (kd t) (bs t) (rd t) v (execV t v (bs t n+27) r (.load 4 (17+t))) t n 27 r:=by
 exact nx_in (o2:=28) H hn hk (mv_th _ _ _ _ _ _) (e:=0) (by show (upd v.bf t (v.bf t) t).length<=_;rw [upd_same];omega) (by decide) (rx_triv (by decide)) (by show (17+0:Nat)<18;decide) (fun q=> .inl ⟨q,fun a=>absurd a (by show¬_;simp [aw])⟩)
theorem rv_31 (H:RwI nt kd rd bs v g) (ht:t<nt) (hS: ∀x∈v.slp,x.2=16) (hl8:v.slp.length<=8) {n:Nat} {r:Nat->Int} (hn:n<rd t) (hk:kd t n=false) (hA:rA (g.at_ v t) (wrs (kd t) n) t r (v.bf t) 31) (hX:rx false 31 r):RwNx (kd t) (bs t) (rd t) v (execV t v (bs t n+31) r (.set 5 1)) t n 31 r:=by
 exact nx_in (o2:=32) H hn hk (mv_th _ _ _ _ _ _) (e:=0) (by show (upd v.bf t (v.bf t) t).length<=_;rw [upd_same];omega) (by decide) (rx_triv (by decide)) (by show (19+0:Nat)<20;decide) (fun q=> .inl ⟨q,fun a=>absurd a (by show¬_;simp [aw])⟩)
theorem rv_32 (H:RwI nt kd rd bs v g) (ht:t<nt) (hS: ∀x∈v.slp,x.2=16) (hl8:v.slp.length<=8) {n:Nat} {r:Nat->Int} (hn:n<rd t) (hk:kd t n=false) (hA:rA (g.at_ v t) (wrs (kd t) n) t r (v.bf t) 32) (hX:rx false 32 r):RwNx (kd t) (bs t) (rd t) v (execV t v (bs t n+32) r (.same 6 4 5)) t n 32 r:=by
 exact nx_in (o2:=33) H hn hk (mv_th _ _ _ _ _ _) (e:=0) (by show (upd v.bf t (v.bf t) t).length<=_;rw [upd_same];omega) (by decide) (rx_triv (by decide)) (by show (20+0:Nat)<21;decide) (fun q=> .inl ⟨q,fun a=>absurd a (by show¬_;simp [aw])⟩)
theorem rv_33 (H:RwI nt kd rd bs v g) (ht:t<nt) (hS: ∀x∈v.slp,x.2=16) (hl8:v.slp.length<=8) {n:Nat} {r:Nat->Int} (hn:n<rd t) (hk:kd t n=false) (hA:rA (g.at_ v t) (wrs (kd t) n) t r (v.bf t) 33) (hX:rx false 33 r):RwNx (kd t) (bs t) (rd t) v (execV t v (bs t n+33) r (.set 4 0)) t n 33 r:=by
 exact nx_in (o2:=34) H hn hk (mv_th _ _ _ _ _ _) (e:=0) (by show (upd v.bf t (v.bf t) t).length<=_;rw [upd_same];omega) (by decide) (rx_triv (by decide)) (by show (21+0:Nat)<22;decide) (fun q=> .inl ⟨q,fun a=>absurd a (by show¬_;simp [aw])⟩)
theorem rv_16 (H:RwI nt kd rd bs v g) (ht:t<nt) (hS: ∀x∈v.slp,x.2=16) (hl8:v.slp.length<=8) {n:Nat} {r:Nat->Int} (hn:n<rd t) (hk:kd t n=false) (hA:rA (g.at_ v t) (wrs (kd t) n) t r (v.bf t) 16) (hX:rx false 16 r):RwNx (kd t) (bs t) (rd t) v (execV t v (bs t n+16) r (.store 4 (17+t))) t n 16 r:=by
 exact nx_in (o2:=17) H hn hk (mv_th _ _ _ _ _ _) (e:=1) (by show (upd v.bf t (v.bf t++[_]) t).length<=_;rw [upd_same,List.length_append];exact Nat.le_refl _) (by decide) (rx_triv (by decide)) (by show (7+1:Nat)<9;decide) (fun q=> .inl ⟨q,fun a=>absurd a (by show¬_;simp [aw])⟩)
theorem rv_34 (H:RwI nt kd rd bs v g) (ht:t<nt) (hS: ∀x∈v.slp,x.2=16) (hl8:v.slp.length<=8) {n:Nat} {r:Nat->Int} (hn:n<rd t) (hk:kd t n=false) (hA:rA (g.at_ v t) (wrs (kd t) n) t r (v.bf t) 34) (hX:rx false 34 r):RwNx (kd t) (bs t) (rd t) v (execV t v (bs t n+34) r (.store 4 (17+t))) t n 34 r:=by
 exact nx_in (o2:=35) H hn hk (mv_th _ _ _ _ _ _) (e:=1) (by show (upd v.bf t (v.bf t++[_]) t).length<=_;rw [upd_same,List.length_append];exact Nat.le_refl _) (by decide) (rx_triv (by decide)) (by show (22+1:Nat)<24;decide) (fun q=> .inl ⟨q,fun a=>absurd a (by show¬_;simp [aw])⟩)
theorem rv_18 (H:RwI nt kd rd bs v g) (ht:t<nt) (hS: ∀x∈v.slp,x.2=16) (hl8:v.slp.length<=8) {n:Nat} {r:Nat->Int} (hn:n<rd t) (hk:kd t n=false) (hA:rA (g.at_ v t) (wrs (kd t) n) t r (v.bf t) 18) (hX:rx false 18 r):RwNx (kd t) (bs t) (rd t) v (execV t v (bs t n+18) r (.jump (bs t n+21))) t n 18 r:=by
 exact nx_in (o2:=21) H hn hk (mv_th _ _ _ _ _ _) (e:=0) (by show (upd v.bf t (v.bf t) t).length<=_;rw [upd_same];omega) (by decide) (rx_triv (by decide)) (by show (10+0:Nat)<11;decide) (fun q=> .inl ⟨q,fun a=>absurd a (by show¬_;simp [aw])⟩)
theorem rv_19 (H:RwI nt kd rd bs v g) (ht:t<nt) (hS: ∀x∈v.slp,x.2=16) (hl8:v.slp.length<=8) {n:Nat} {r:Nat->Int} (hn:n<rd t) (hk:kd t n=false) (hA:rA (g.at_ v t) (wrs (kd t) n) t r (v.bf t) 19) (hX:rx false 19 r):RwNx (kd t) (bs t) (rd t) v (execV t v (bs t n+19) r (.wait 4 16)) t n 19 r:=by
 have h4:r 4=4294967295:=hX.2.1 rfl
 by_cases hz:v.mem 16=r 4
 ·have e0:execV t v (bs t n+19) r (.wait 4 16)={v.mv t ⟨((bs t n+19+1:Nat):Int),updR r 4 0,1⟩ (v.bf t) v.mem [⟨8,(t:Int),((bs t n+19:Nat):Int),((16:Nat):Int),v.mem 16,0,0,true⟩]with slp:=if slpE v.slp (t:Int)=0 then v.slp++[((t:Int),((16:Nat):Int))]else v.slp}:=if_pos hz
  rw [e0]
  exact nx_sp (o2:=20) hn hk (show upd v.th t ⟨((bs t n+19+1:Nat):Int),updR r 4 0,1⟩ t=_ from upd_same _ _ _) (by show upd v.bf t (v.bf t) t=_;rw [upd_same]) rfl (by decide) (rx_triv (by decide)) rfl rfl (fun _=>by show (9:Nat)<10;decide)
 ·have e0:execV t v (bs t n+19) r (.wait 4 16)=v.mv t ⟨((bs t n+19+1:Nat):Int),updR r 4 1,0⟩ (v.bf t) v.mem [⟨8,(t:Int),((bs t n+19:Nat):Int),((16:Nat):Int),v.mem 16,0,0,false⟩]:=if_neg hz
  rw [e0]
  exact nx_sp (o2:=20) hn hk (mv_th _ _ _ _ _ _) (by show upd v.bf t (v.bf t) t=_;rw [upd_same]) rfl (by decide) (rx_triv (by decide)) rfl rfl (fun _=>by show (9:Nat)<10;decide)
theorem rv_20 (H:RwI nt kd rd bs v g) (ht:t<nt) (hS: ∀x∈v.slp,x.2=16) (hl8:v.slp.length<=8) {n:Nat} {r:Nat->Int} (hn:n<rd t) (hk:kd t n=false) (hA:rA (g.at_ v t) (wrs (kd t) n) t r (v.bf t) 20) (hX:rx false 20 r):RwNx (kd t) (bs t) (rd t) v (execV t v (bs t n+20) r (.jump (bs t n+5))) t n 20 r:=by
 exact nx_sp (o2:=5) hn hk (mv_th _ _ _ _ _ _) (by show upd v.bf t (v.bf t) t=_;rw [upd_same]) rfl (by decide) (rx_triv (by decide)) rfl rfl (fun _=>by show (8:Nat)<9;decide)
theorem rv_28 (H:RwI nt kd rd bs v g) (ht:t<nt) (hS: ∀x∈v.slp,x.2=16) (hl8:v.slp.length<=8) {n:Nat} {r:Nat->Int} (hn:n<rd t) (hk:kd t n=false) (hA:rA (g.at_ v t) (wrs (kd t) n) t r (v.bf t) 28) (hX:rx false 28 r):RwNx (kd t) (bs t) (rd t) v (execV t v (bs t n+28) r (.some 4 (bs t n+31))) t n 28 r:=by
 have hz:r 4=1:=hA.2.2
 refine nx_in (o2:=31) (r':=r) (st:=0) H hn hk ((mv_th _ _ _ _ _ _).trans ?_) (e:=0) (by show (upd v.bf t (v.bf t) t).length<=_;rw [upd_same];omega) (by decide) (rx_triv (by decide)) (by show (18+0:Nat)<19;decide) (fun q=> .inl ⟨q,fun a=>absurd a (by show¬_;simp [aw])⟩)
 rw [if_neg (by rw [hz];decide)]
theorem rv_35 (H:RwI nt kd rd bs v g) (ht:t<nt) (hS: ∀x∈v.slp,x.2=16) (hl8:v.slp.length<=8) {n:Nat} {r:Nat->Int} (hn:n<rd t) (hk:kd t n=false) (hA:rA (g.at_ v t) (wrs (kd t) n) t r (v.bf t) 35) (hX:rx false 35 r):RwNx (kd t) (bs t) (rd t) v (execV t v (bs t n+35) r (.some 6 (bs t n+39))) t n 35 r:=by
 have hz:r 6=1:=hA.2.2
 refine nx_in (o2:=39) (r':=r) (st:=0) H hn hk ((mv_th _ _ _ _ _ _).trans ?_) (e:=0) (by show (upd v.bf t (v.bf t) t).length<=_;rw [upd_same];omega) (by decide) (rx_triv (by decide)) (by show (24+0:Nat)<25;decide) (fun q=> .inl ⟨q,fun a=>absurd a (by show¬_;simp [aw])⟩)
 rw [if_neg (by rw [hz];decide)]
theorem rv_39 (H:RwI nt kd rd bs v g) (ht:t<nt) (hS: ∀x∈v.slp,x.2=16) (hl8:v.slp.length<=8) {n:Nat} {r:Nat->Int} (hn:n<rd t) (hk:kd t n=false) (hA:rA (g.at_ v t) (wrs (kd t) n) t r (v.bf t) 39) (hX:rx false 39 r):RwNx (kd t) (bs t) (rd t) v (execV t v (bs t n+39) r (.set 4 4294967295)) t n 39 r:=by
 exact nx_in (o2:=40) H hn hk (mv_th _ _ _ _ _ _) (e:=0) (by show (upd v.bf t (v.bf t) t).length<=_;rw [upd_same];omega) (by decide) (rx_triv (by decide)) (by show (25+0:Nat)<26;decide) (fun q=> .inl ⟨q,fun a=>absurd a (by show¬_;simp [aw])⟩)
theorem rv_40 (H:RwI nt kd rd bs v g) (ht:t<nt) (hS: ∀x∈v.slp,x.2=16) (hl8:v.slp.length<=8) {n:Nat} {r:Nat->Int} (hn:n<rd t) (hk:kd t n=false) (hA:rA (g.at_ v t) (wrs (kd t) n) t r (v.bf t) 40) (hX:rx false 40 r):RwNx (kd t) (bs t) (rd t) v (execV t v (bs t n+40) r (.fetch 4 16)) t n 40 r:=by
 have h4:r 4=4294967295:=hA.2.2
 have hrs:=(H.reads ht hA.1.rs)
 have hs:=H.sh0 hrs.1
 have hsm:=H.small.2
 refine nx_in (o2:=41) H hn hk (mv_th _ _ _ _ _ _) (e:=0) (by show (upd v.bf t (v.bf t) t).length<=_;rw [upd_same];omega) (by decide) (rx_triv (by decide)) (by show (26+0:Nat)<27;decide) (fun q=> .inr ?_)
 have q':upd v.mem 16 ((v.mem 16+r 4)% 4294967296) 16=0:=q
 rw [upd_same,h4]at q'
 have h1:v.mem 16=1:=by have :=hs.1;omega
 simp [aw,updR,h1]
theorem rv_41 (H:RwI nt kd rd bs v g) (ht:t<nt) (hS: ∀x∈v.slp,x.2=16) (hl8:v.slp.length<=8) {n:Nat} {r:Nat->Int} (hn:n<rd t) (hk:kd t n=false) (hA:rA (g.at_ v t) (wrs (kd t) n) t r (v.bf t) 41) (hX:rx false 41 r):RwNx (kd t) (bs t) (rd t) v (execV t v (bs t n+41) r (.set 5 1)) t n 41 r:=by
 refine nx_in (o2:=42) H hn hk (mv_th _ _ _ _ _ _) (e:=0) (by show (upd v.bf t (v.bf t) t).length<=_;rw [upd_same];omega) (by decide) ⟨fun q=>absurd q (by decide),fun q=>absurd q (by decide),fun _=>updR_at _ _ _,fun q=>absurd q (by decide)⟩ (by show (27+0:Nat)<28;decide) (fun q=> .inl ⟨q,fun a=> .inl ?_⟩)
 have a':r 4=1:=by simpa [aw]using a
 simp [aw,updR,a']
theorem rv_42 (H:RwI nt kd rd bs v g) (ht:t<nt) (hS: ∀x∈v.slp,x.2=16) (hl8:v.slp.length<=8) {n:Nat} {r:Nat->Int} (hn:n<rd t) (hk:kd t n=false) (hA:rA (g.at_ v t) (wrs (kd t) n) t r (v.bf t) 42) (hX:rx false 42 r):RwNx (kd t) (bs t) (rd t) v (execV t v (bs t n+42) r (.same 6 4 5)) t n 42 r:=by
 have h5:r 5=1:=hX.2.2.1 rfl
 refine nx_in (o2:=43) H hn hk (mv_th _ _ _ _ _ _) (e:=0) (by show (upd v.bf t (v.bf t) t).length<=_;rw [upd_same];omega) (by decide) (rx_triv (by decide)) (by show (28+0:Nat)<29;decide) (fun q=> .inl ⟨q,fun a=> .inl ?_⟩)
 have a':r 4=1:=by simpa [aw]using a
 simp [aw,updR,a',h5]
theorem rv_43 (H:RwI nt kd rd bs v g) (ht:t<nt) (hS: ∀x∈v.slp,x.2=16) (hl8:v.slp.length<=8) {n:Nat} {r:Nat->Int} (hn:n<rd t) (hk:kd t n=false) (hA:rA (g.at_ v t) (wrs (kd t) n) t r (v.bf t) 43) (hX:rx false 43 r):RwNx (kd t) (bs t) (rd t) v (execV t v (bs t n+43) r (.zero 6 (bs t n+46))) t n 43 r:=by
 by_cases hz:r 6=0
 ·refine nx_in (o2:=46) (r':=r) (st:=0) H hn hk ((mv_th _ _ _ _ _ _).trans ?_) (e:=0) (by show (upd v.bf t (v.bf t) t).length<=_;rw [upd_same];omega) (by decide) (rx_triv (by decide)) (by show (29+0:Nat)<32;decide) (fun q=> .inl ⟨q,fun a=>?_⟩)
  ·rw [if_pos hz]
  ·exfalso
   have a':r 6≠0:=by simpa [aw]using a
   exact a' hz
 ·refine nx_in (o2:=44) (r':=r) (st:=0) H hn hk ((mv_th _ _ _ _ _ _).trans ?_) (e:=0) (by show (upd v.bf t (v.bf t) t).length<=_;rw [upd_same];omega) (by decide) (rx_triv (by decide)) (by show (29+0:Nat)<30;decide) (fun q=> .inr rfl)
  rw [if_neg hz]
theorem rv_44 (H:RwI nt kd rd bs v g) (ht:t<nt) (hS: ∀x∈v.slp,x.2=16) (hl8:v.slp.length<=8) {n:Nat} {r:Nat->Int} (hn:n<rd t) (hk:kd t n=false) (hA:rA (g.at_ v t) (wrs (kd t) n) t r (v.bf t) 44) (hX:rx false 44 r):RwNx (kd t) (bs t) (rd t) v (execV t v (bs t n+44) r (.set 4 4294967295)) t n 44 r:=by
 exact nx_in (o2:=45) H hn hk (mv_th _ _ _ _ _ _) (e:=0) (by show (upd v.bf t (v.bf t) t).length<=_;rw [upd_same];omega) (by decide) ⟨fun q=>absurd q (by decide),fun q=>absurd q (by decide),fun q=>absurd q (by decide),fun _=>updR_at _ _ _⟩ (by show (30+0:Nat)<31;decide) (fun _=> .inr rfl)
theorem rv_45 (H:RwI nt kd rd bs v g) (ht:t<nt) (hS: ∀x∈v.slp,x.2=16) (hl8:v.slp.length<=8) {n:Nat} {r:Nat->Int} (hn:n<rd t) (hk:kd t n=false) (hA:rA (g.at_ v t) (wrs (kd t) n) t r (v.bf t) 45) (hX:rx false 45 r):RwNx (kd t) (bs t) (rd t) v (execV t v (bs t n+45) r (.wake 4 16)) t n 45 r:=by
 have h4:r 4=4294967295:=hX.2.2.2 rfl
 have hw:=wk_every hS (n:=(r 4).toNat) (by rw [h4];have :(4294967295:Int).toNat=4294967295:=rfl;omega)
 have e0:(execV t v (bs t n+45) r (.wake 4 16)).th t=⟨((bs t n+45+1:Nat):Int),updR r 4 ((wk ((16:Nat):Int) (r 4).toNat v.slp).2.length:Int),0⟩:=upd_same _ _ _
 exact nx_in (o2:=46) H hn hk e0 (e:=0) (by show (v.bf t).length<=_;omega) (by decide) (rx_triv (by decide)) (by show (31+0:Nat)<32;decide) (fun q=> .inl ⟨q,fun _=> .inr hw.1⟩)
theorem rv_46 (H:RwI nt kd rd bs v g) (ht:t<nt) (hS: ∀x∈v.slp,x.2=16) (hl8:v.slp.length<=8) {n:Nat} {r:Nat->Int} (hn:n<rd t) (hk:kd t n=false) (hA:rA (g.at_ v t) (wrs (kd t) n) t r (v.bf t) 46) (hX:rx false 46 r):RwNx (kd t) (bs t) (rd t) v (execV t v (bs t n+46) r (.set 7 0)) t n 46 r:=by
 exact nx_in (o2:=47) H hn hk (mv_th _ _ _ _ _ _) (e:=0) (by show (upd v.bf t (v.bf t) t).length<=_;rw [upd_same];omega) (by decide) (rx_triv (by decide)) (by show (32+0:Nat)<33;decide) (fun q=> .inl ⟨q,fun a=>absurd a (by show¬_;simp [aw])⟩)
theorem rv_47 (H:RwI nt kd rd bs v g) (ht:t<nt) (hS: ∀x∈v.slp,x.2=16) (hl8:v.slp.length<=8) {n:Nat} {r:Nat->Int} (hn:n<rd t) (hk:kd t n=false) (hA:rA (g.at_ v t) (wrs (kd t) n) t r (v.bf t) 47) (hX:rx false 47 r):RwNx (kd t) (bs t) (rd t) v (execV t v (bs t n+47) r (.mark 3)) t n 47 r:=by
 exact nx_end H hn hk (by decide) (mv_th _ _ _ _ _ _) (by show (upd v.bf t (v.bf t) t).length<=_;rw [upd_same];exact Nat.le_refl _) rfl rfl
theorem rw_nx (H:RwI nt kd rd bs v g) (ht:t<nt) (hS: ∀x∈v.slp,x.2=16) (hl8:v.slp.length<=8) {n o:Nat} {r:Nat->Int} (hn:n<rd t) (hA:(kd t n=true/\o<41/\wA (g.at_ v t) (wrs (kd t) n) t r (v.bf t) o)∨(kd t n=false/\o<48/\rA (g.at_ v t) (wrs (kd t) n) t r (v.bf t) o)) (hX:rx (kd t n) o r)
 {op:Op} (hop:(rwRd t (kd t n) (bs t n))[o]?=some op):RwNx (kd t) (bs t) (rd t) v (execV t v (bs t n+o) r op) t n o r:=by
 rcases hA with ⟨hk,ho,hA⟩|⟨hk,ho,hA⟩
 ·rw [hk]at hX hop
  match o,ho,hA,hX,hop with
  |0,_,hA,hX,hop=>obtain rfl:_=op:=Option.some.inj hop;exact wv_0 H ht hS hl8 hn hk hA hX
  |1,_,hA,hX,hop=>obtain rfl:_=op:=Option.some.inj hop;exact wv_1 H ht hS hl8 hn hk hA hX
  |2,_,hA,hX,hop=>obtain rfl:_=op:=Option.some.inj hop;exact wv_2 H ht hS hl8 hn hk hA hX
  |3,_,hA,_,_=>exact hA.elim
  |4,_,hA,_,_=>exact hA.elim
  |5,_,hA,hX,hop=>obtain rfl:_=op:=Option.some.inj hop;exact wv_5 H ht hS hl8 hn hk hA hX
  |6,_,hA,hX,hop=>obtain rfl:_=op:=Option.some.inj hop;exact wv_6 H ht hS hl8 hn hk hA hX
  |7,_,hA,hX,hop=>obtain rfl:_=op:=Option.some.inj hop;exact wv_7 H ht hS hl8 hn hk hA hX
  |8,_,hA,hX,hop=>obtain rfl:_=op:=Option.some.inj hop;exact wv_8 H ht hS hl8 hn hk hA hX
  |9,_,hA,hX,hop=>obtain rfl:_=op:=Option.some.inj hop;exact wv_9 H ht hS hl8 hn hk hA hX
  |10,_,hA,hX,hop=>obtain rfl:_=op:=Option.some.inj hop;exact wv_10 H ht hS hl8 hn hk hA hX
  |11,_,hA,hX,hop=>obtain rfl:_=op:=Option.some.inj hop;exact wv_11 H ht hS hl8 hn hk hA hX
  |12,_,hA,hX,hop=>obtain rfl:_=op:=Option.some.inj hop;exact wv_12 H ht hS hl8 hn hk hA hX
  |13,_,hA,hX,hop=>obtain rfl:_=op:=Option.some.inj hop;exact wv_13 H ht hS hl8 hn hk hA hX
  |14,_,hA,hX,hop=>obtain rfl:_=op:=Option.some.inj hop;exact wv_14 H ht hS hl8 hn hk hA hX
  |15,_,hA,hX,hop=>obtain rfl:_=op:=Option.some.inj hop;exact wv_15 H ht hS hl8 hn hk hA hX
  |16,_,hA,hX,hop=>obtain rfl:_=op:=Option.some.inj hop;exact wv_16 H ht hS hl8 hn hk hA hX
  |17,_,hA,hX,hop=>obtain rfl:_=op:=Option.some.inj hop;exact wv_17 H ht hS hl8 hn hk hA hX
  |18,_,hA,hX,hop=>obtain rfl:_=op:=Option.some.inj hop;exact wv_18 H ht hS hl8 hn hk hA hX
  |19,_,hA,hX,hop=>obtain rfl:_=op:=Option.some.inj hop;exact wv_19 H ht hS hl8 hn hk hA hX
  |20,_,hA,hX,hop=>obtain rfl:_=op:=Option.some.inj hop;exact wv_20 H ht hS hl8 hn hk hA hX
  |21,_,hA,hX,hop=>obtain rfl:_=op:=Option.some.inj hop;exact wv_21 H ht hS hl8 hn hk hA hX
  |22,_,hA,_,_=>exact hA.elim
  |23,_,hA,_,_=>exact hA.elim
  |24,_,hA,hX,hop=>obtain rfl:_=op:=Option.some.inj hop;exact wv_24 H ht hS hl8 hn hk hA hX
  |25,_,hA,hX,hop=>obtain rfl:_=op:=Option.some.inj hop;exact wv_25 H ht hS hl8 hn hk hA hX
  |26,_,hA,hX,hop=>obtain rfl:_=op:=Option.some.inj hop;exact wv_26 H ht hS hl8 hn hk hA hX
  |27,_,hA,hX,hop=>obtain rfl:_=op:=Option.some.inj hop;exact wv_27 H ht hS hl8 hn hk hA hX
  |28,_,hA,hX,hop=>obtain rfl:_=op:=Option.some.inj hop;exact wv_28 H ht hS hl8 hn hk hA hX
  |29,_,hA,hX,hop=>obtain rfl:_=op:=Option.some.inj hop;exact wv_29 H ht hS hl8 hn hk hA hX
  |30,_,hA,hX,hop=>obtain rfl:_=op:=Option.some.inj hop;exact wv_30 H ht hS hl8 hn hk hA hX
  |31,_,hA,hX,hop=>obtain rfl:_=op:=Option.some.inj hop;exact wv_31 H ht hS hl8 hn hk hA hX
  |32,_,hA,_,_=>exact hA.elim
  |33,_,hA,_,_=>exact hA.elim
  |34,_,hA,_,_=>exact hA.elim
  |35,_,hA,_,_=>exact hA.elim
  |36,_,hA,_,_=>exact hA.elim
  |37,_,hA,hX,hop=>obtain rfl:_=op:=Option.some.inj hop;exact wv_37 H ht hS hl8 hn hk hA hX
  |38,_,hA,hX,hop=>obtain rfl:_=op:=Option.some.inj hop;exact wv_38 H ht hS hl8 hn hk hA hX
  |39,_,hA,hX,hop=>obtain rfl:_=op:=Option.some.inj hop;exact wv_39 H ht hS hl8 hn hk hA hX
  |40,_,hA,hX,hop=>obtain rfl:_=op:=Option.some.inj hop;exact wv_40 H ht hS hl8 hn hk hA hX
  |o+41,ho,_,_,_=>exact absurd ho (by omega)
 ·rw [hk]at hX hop
  match o,ho,hA,hX,hop with
  |0,_,hA,hX,hop=>obtain rfl:_=op:=Option.some.inj hop;exact rv_0 H ht hS hl8 hn hk hA hX
  |1,_,hA,hX,hop=>obtain rfl:_=op:=Option.some.inj hop;exact rv_1 H ht hS hl8 hn hk hA hX
  |2,_,hA,hX,hop=>obtain rfl:_=op:=Option.some.inj hop;exact rv_2 H ht hS hl8 hn hk hA hX
  |3,_,hA,_,_=>exact hA.elim
  |4,_,hA,_,_=>exact hA.elim
  |5,_,hA,hX,hop=>obtain rfl:_=op:=Option.some.inj hop;exact rv_5 H ht hS hl8 hn hk hA hX
  |6,_,hA,hX,hop=>obtain rfl:_=op:=Option.some.inj hop;exact rv_6 H ht hS hl8 hn hk hA hX
  |7,_,hA,hX,hop=>obtain rfl:_=op:=Option.some.inj hop;exact rv_7 H ht hS hl8 hn hk hA hX
  |8,_,hA,hX,hop=>obtain rfl:_=op:=Option.some.inj hop;exact rv_8 H ht hS hl8 hn hk hA hX
  |9,_,hA,hX,hop=>obtain rfl:_=op:=Option.some.inj hop;exact rv_9 H ht hS hl8 hn hk hA hX
  |10,_,hA,hX,hop=>obtain rfl:_=op:=Option.some.inj hop;exact rv_10 H ht hS hl8 hn hk hA hX
  |11,_,hA,hX,hop=>obtain rfl:_=op:=Option.some.inj hop;exact rv_11 H ht hS hl8 hn hk hA hX
  |12,_,hA,hX,hop=>obtain rfl:_=op:=Option.some.inj hop;exact rv_12 H ht hS hl8 hn hk hA hX
  |13,_,hA,hX,hop=>obtain rfl:_=op:=Option.some.inj hop;exact rv_13 H ht hS hl8 hn hk hA hX
  |14,_,hA,hX,hop=>obtain rfl:_=op:=Option.some.inj hop;exact rv_14 H ht hS hl8 hn hk hA hX
  |15,_,hA,hX,hop=>obtain rfl:_=op:=Option.some.inj hop;exact rv_15 H ht hS hl8 hn hk hA hX
  |16,_,hA,hX,hop=>obtain rfl:_=op:=Option.some.inj hop;exact rv_16 H ht hS hl8 hn hk hA hX
  |17,_,hA,hX,hop=>obtain rfl:_=op:=Option.some.inj hop;exact rv_17 H ht hS hl8 hn hk hA hX
  |18,_,hA,hX,hop=>obtain rfl:_=op:=Option.some.inj hop;exact rv_18 H ht hS hl8 hn hk hA hX
  |19,_,hA,hX,hop=>obtain rfl:_=op:=Option.some.inj hop;exact rv_19 H ht hS hl8 hn hk hA hX
  |20,_,hA,hX,hop=>obtain rfl:_=op:=Option.some.inj hop;exact rv_20 H ht hS hl8 hn hk hA hX
  |21,_,hA,hX,hop=>obtain rfl:_=op:=Option.some.inj hop;exact rv_21 H ht hS hl8 hn hk hA hX
  |22,_,hA,hX,hop=>obtain rfl:_=op:=Option.some.inj hop;exact rv_22 H ht hS hl8 hn hk hA hX
  |23,_,hA,hX,hop=>obtain rfl:_=op:=Option.some.inj hop;exact rv_23 H ht hS hl8 hn hk hA hX
  |24,_,hA,hX,hop=>obtain rfl:_=op:=Option.some.inj hop;exact rv_24 H ht hS hl8 hn hk hA hX
  |25,_,hA,hX,hop=>obtain rfl:_=op:=Option.some.inj hop;exact rv_25 H ht hS hl8 hn hk hA hX
  |26,_,hA,hX,hop=>obtain rfl:_=op:=Option.some.inj hop;exact rv_26 H ht hS hl8 hn hk hA hX
  |27,_,hA,hX,hop=>obtain rfl:_=op:=Option.some.inj hop;exact rv_27 H ht hS hl8 hn hk hA hX
  |28,_,hA,hX,hop=>obtain rfl:_=op:=Option.some.inj hop;exact rv_28 H ht hS hl8 hn hk hA hX
  |29,_,hA,_,_=>exact hA.elim
  |30,_,hA,_,_=>exact hA.elim
  |31,_,hA,hX,hop=>obtain rfl:_=op:=Option.some.inj hop;exact rv_31 H ht hS hl8 hn hk hA hX
  |32,_,hA,hX,hop=>obtain rfl:_=op:=Option.some.inj hop;exact rv_32 H ht hS hl8 hn hk hA hX
  |33,_,hA,hX,hop=>obtain rfl:_=op:=Option.some.inj hop;exact rv_33 H ht hS hl8 hn hk hA hX
  |34,_,hA,hX,hop=>obtain rfl:_=op:=Option.some.inj hop;exact rv_34 H ht hS hl8 hn hk hA hX
  |35,_,hA,hX,hop=>obtain rfl:_=op:=Option.some.inj hop;exact rv_35 H ht hS hl8 hn hk hA hX
  |36,_,hA,_,_=>exact hA.elim
  |37,_,hA,_,_=>exact hA.elim
  |38,_,hA,_,_=>exact hA.elim
  |39,_,hA,hX,hop=>obtain rfl:_=op:=Option.some.inj hop;exact rv_39 H ht hS hl8 hn hk hA hX
  |40,_,hA,hX,hop=>obtain rfl:_=op:=Option.some.inj hop;exact rv_40 H ht hS hl8 hn hk hA hX
  |41,_,hA,hX,hop=>obtain rfl:_=op:=Option.some.inj hop;exact rv_41 H ht hS hl8 hn hk hA hX
  |42,_,hA,hX,hop=>obtain rfl:_=op:=Option.some.inj hop;exact rv_42 H ht hS hl8 hn hk hA hX
  |43,_,hA,hX,hop=>obtain rfl:_=op:=Option.some.inj hop;exact rv_43 H ht hS hl8 hn hk hA hX
  |44,_,hA,hX,hop=>obtain rfl:_=op:=Option.some.inj hop;exact rv_44 H ht hS hl8 hn hk hA hX
  |45,_,hA,hX,hop=>obtain rfl:_=op:=Option.some.inj hop;exact rv_45 H ht hS hl8 hn hk hA hX
  |46,_,hA,hX,hop=>obtain rfl:_=op:=Option.some.inj hop;exact rv_46 H ht hS hl8 hn hk hA hX
  |47,_,hA,hX,hop=>obtain rfl:_=op:=Option.some.inj hop;exact rv_47 H ht hS hl8 hn hk hA hX
  |o+48,ho,_,_,_=>exact absurd ho (by omega)
end
end Go.Proofs.YtmhfpjnkjlhbpaaGreatDoor
