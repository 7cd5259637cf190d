/- A machine with buffers (plain): the numbers that its events tell are words; how many events there are. Programs that a law builds: what may stand in a code; rows of codes in memory; picks one behind the other, however many. -/
import Derived.Test.YtmhfpjnkjlhbpaaGreatDoorQi26
import Derived.Test.YtmhfpjnkjlhbpaaGreatDoorQi25
namespace Go.Proofs.YtmhfpjnkjlhbpaaGreatDoor
open Go.ChangeShapes Go.WideShapes Go.ChangeAt Go.RowKit Go.Deep
set_option linter.unusedVariables false
set_option maxRecDepth 100000
set_option linter.unusedSimpArgs false
def EvK (l:List Evt):Prop:= ∀x∈l,0<=x.k/\x.k<=4294967295
theorem EvK.snoc {l:List Evt} (h:EvK l) {x:Evt} (hx:0<=x.k/\x.k<=4294967295):EvK (l++[x]):=fun y hy=>by
 rcases List.mem_append.1 hy with hy|hy
 ·exact h y hy
 ·rw [List.mem_singleton.1 hy];exact hx
section
variable {B:MB}
theorem insR_evk (t:Nat) (s:Mst) (th:Th) (i:Ins) (hk:0<=i.k/\i.k<=4294967295) (h:EvK s.evs):EvK (insR (tOps B t) s th i).2.evs:=by
 have z:(0:Int)<=0/\(0:Int)<=4294967295:=by decide
 have hf: ∀(t:Nat) (s:Mst),EvK s.evs->EvK (tflush t s).evs:=fun t s h=>by
  unfold tflush
  split
  ·exact h
  ·exact h.snoc z
 have hfn: ∀(t n:Nat) (s:Mst),EvK s.evs->EvK (tflushN t n s).evs:=fun t n=>by
  induction n with
  |zero=>exact fun _ h=>h
  |succ n ih=>exact fun s h=>ih _ (hf t s h)
 have hrem: ∀(s:Mst),EvK s.evs->EvK (tremote s).evs:=fun s h=>by
  unfold tremote
  generalize List.range s.bufs.length=l
  induction l generalizing s with
  |nil=>exact h
  |cons a l ih=>exact ih _ (hfn a _ _ h)
 have hn: ∀(s:Mst) (x:Evt),EvK s.evs->(0<=x.k/\x.k<=4294967295)->EvK (noteM (t:Int) s x).evs:=fun s x h hx=>h.snoc hx
 have hlock: ∀(s:Mst) (pc:Int) (m:Nat) (old v:Int) (ok:Bool),EvK s.evs->EvK (lockS (tOps B t) s pc m old v ok).evs:=fun s pc m old v ok h=>by
  unfold lockS
  cases ok
  ·exact hn _ _ h z
  ·exact hn _ _ (show EvK ({s with mem:=s.mem.set m v}:Mst).evs from h) z
 have hst: ∀(a:Nat) (v:Int),EvK ((tOps B t).store s a v).evs:=fun a v=>by
  show EvK (if a<B.m then ({s with bufs:=_}:Mst)else s).evs
  split<;>exact h
 have hsl: ∀(s:Mst) (a:Nat),EvK s.evs->EvK ((tOps B t).sleep s a).evs:=fun s a h=>by
  show EvK (sleepM (t:Int) s a).evs
  unfold sleepM
  split<;>exact h
 unfold insR
 split
 ·exact hf _ _ h
 split
 ·exact hf _ _ h
 split
 ·exact hn _ _ h z
 split
 ·exact h
 split
 ·show EvK (asksR (tOps B t) s th _ _ _ _).2.evs
  unfold asksR
  split
  ·exact hn _ _ h z
  split
  ·exact hn _ _ (hst _ _) z
  split
  ·exact hlock _ _ _ _ _ _ h
  split
  ·exact hlock _ _ _ _ _ _ h
  split
  ·exact hlock _ _ _ _ _ _ h
  split
  ·unfold waitR
   split
   ·exact hsl _ _ (hn _ _ h z)
   ·exact hn _ _ h z
  ·exact hn _ _ h z
 ·show EvK (plainR (tOps B t) s th _ _ _ _ _ _).2.evs
  unfold plainR
  repeat' split
  all_goals first
   |exact h
   |exact hn _ _ h z
   |exact hn _ _ h hk
   |exact hn _ _ (hrem _ h) z
theorem tPick_evk {s:Mst} (hB:MBok B) (hs:TOk B s) (h:EvK s.evs) (x:Int×Int):EvK (tPick B s x).evs:=by
 have z:(0:Int)<=0/\(0:Int)<=4294967295:=by decide
 unfold tPick
 split
 ·exact h
 rename_i hin
 split
 ·show EvK (stepR (tOps B x.2.toNat) s _ _).2.evs
  have ht:x.2.toNat<B.codes.length:=by
   have :=hs.ok.nt
   omega
  have hc:B.codes.getD x.2.toNat cdd∈B.codes:=getD_mem ht
  unfold stepR
  split
  ·exact h
  split
  ·exact h.snoc z
  split
  ·exact h.snoc z
  split
  ·exact h.snoc z
  ·rename_i h1 h2 h3 h4
   have :=((hB.cods _ hc).ins (s.ths.getD x.2.toNat tha).pc.toNat (by omega))
   exact insR_evk _ _ _ _ ⟨this.k0,this.k1⟩ h
 split
 ·unfold tflush
  split
  ·exact h
  ·exact h.snoc z
 split
 ·unfold rouseM
  split
  ·exact h.snoc z
  ·exact h
 ·exact h
theorem tRun_evk (hB:MBok B): ∀(l:List (Int×Int)) {s:Mst},TOk B s->EvK s.evs->EvK (tRun B s l).evs
 |[],_,_,h=>h
 |x::l,s,hs,h=>tRun_evk hB l (tPick_ok hB hs x) (tPick_evk hB hs h x)
def EvC (K n:Nat) (s:Mst):Prop:=s.evs.length+tot s.bufs+n<=K
theorem EvC.mono {K n m:Nat} {s:Mst} (h:EvC K n s) (hm:m<=n):EvC K m s:=by unfold EvC at*;omega
theorem EvC.flush {K n:Nat} {s:Mst} (h:EvC K n s) (t:Nat):EvC K n (tflush t s):=by
 cases hb:s.bufs.getD t []with
 |nil=>rw [tflush_nil hb];exact h
 |cons x l=>
  have ht:t<s.bufs.length:=by
   rcases Nat.lt_or_ge t s.bufs.length with h1|h1
   ·exact h1
   ·rw [getD_nil_of_ge _ _ _ h1]at hb;cases hb
  rw [tflush_cons hb]
  have h2:=tot_set s.bufs t l ht
  rw [hb]at h2
  unfold EvC at*
  simp only [List.length_cons]at h2
  simp only [List.length_append,List.length_cons,List.length_nil]
  omega
theorem EvC.note {K n:Nat} {s:Mst} (h:EvC K (n+1) s) (t:Int) (x:Evt):EvC K n (noteM t s x):=by
 unfold EvC at*
 show (s.evs++[_]).length+tot s.bufs+n<=K
 simp only [List.length_append,List.length_cons,List.length_nil]
 omega
theorem insR_evc {K n:Nat} (t:Nat) (s:Mst) (th:Th) (i:Ins) (h:EvC K (n+2) s):EvC K n (insR (tOps B t) s th i).2:=by
 have h1:EvC K (n+1) s:=h.mono (by omega)
 have h0:EvC K n s:=h.mono (by omega)
 have hfn: ∀(t m:Nat) (s:Mst) (k:Nat),EvC K k s->EvC K k (tflushN t m s):=fun t m=>by
  induction m with
  |zero=>exact fun _ _ h=>h
  |succ m ih=>exact fun s k h=>ih _ k (h.flush t)
 have hrem: ∀(s:Mst) (k:Nat),EvC K k s->EvC K k (tremote s):=fun s k h=>by
  unfold tremote
  generalize List.range s.bufs.length=l
  induction l generalizing s with
  |nil=>exact h
  |cons a l ih=>exact ih _ (hfn a _ _ _ h)
 have hlock: ∀(s:Mst) (pc:Int) (m:Nat) (old v:Int) (ok:Bool),EvC K (n+1) s->EvC K n (lockS (tOps B t) s pc m old v ok):=fun s pc m old v ok h=>by
  unfold lockS
  cases ok
  ·exact EvC.note h _ _
  ·exact EvC.note (s:={s with mem:=s.mem.set m v}) h _ _
 have hst: ∀(a:Nat) (v:Int),EvC K (n+1) ((tOps B t).store s a v):=fun a v=>by
  show EvC K (n+1) (if a<B.m then ({s with bufs:=_}:Mst)else s)
  split
  ·unfold EvC at*
   show s.evs.length+tot (s.bufs.set t (s.bufs.getD t []++[((a:Int),v)]))+(n+1)<=K
   rcases Nat.lt_or_ge t s.bufs.length with ht|ht
   ·have :=tot_set s.bufs t (s.bufs.getD t []++[((a:Int),v)]) ht
    simp only [List.length_append,List.length_cons,List.length_nil]at this
    omega
   ·rw [List.set_eq_of_length_le ht];omega
  ·exact h1
 have hsl: ∀(s:Mst) (a:Nat) (k:Nat),EvC K k s->EvC K k ((tOps B t).sleep s a):=fun s a k h=>by
  show EvC K k (sleepM (t:Int) s a)
  unfold sleepM
  split<;>exact h
 unfold insR
 split
 ·exact h0.flush _
 split
 ·exact h0.flush _
 split
 ·exact EvC.note h1 _ _
 split
 ·exact h0
 split
 ·show EvC K n (asksR (tOps B t) s th _ _ _ _).2
  unfold asksR
  split
  ·exact EvC.note h1 _ _
  split
  ·exact EvC.note (hst _ _) _ _
  split
  ·exact hlock _ _ _ _ _ _ h1
  split
  ·exact hlock _ _ _ _ _ _ h1
  split
  ·exact hlock _ _ _ _ _ _ h1
  split
  ·unfold waitR
   split
   ·exact hsl _ _ _ (EvC.note h1 _ _)
   ·exact EvC.note h1 _ _
  ·exact EvC.note (s:=((tOps B t).wake s _ _).2) h1 _ _
 ·show EvC K n (plainR (tOps B t) s th _ _ _ _ _ _).2
  unfold plainR
  repeat' split
  all_goals first
   |exact h0
   |exact EvC.note h1 _ _
   |exact EvC.note (hrem _ _ h1) _ _
theorem tPick_evc {K n:Nat} {s:Mst} (h:EvC K (n+2) s) (x:Int×Int):EvC K n (tPick B s x):=by
 have h1:EvC K (n+1) s:=h.mono (by omega)
 have h0:EvC K n s:=h.mono (by omega)
 unfold tPick
 split
 ·exact h0
 split
 ·show EvC K n (stepR (tOps B x.2.toNat) s _ _).2
  unfold stepR
  split
  ·exact h0
  split
  ·exact EvC.note h1 _ _
  split
  ·exact EvC.note h1 _ _
  split
  ·exact EvC.note h1 _ _
  ·exact insR_evc _ _ _ _ h
 split
 ·exact h0.flush _
 split
 ·unfold rouseM
  split
  ·exact EvC.note (s:={s with slp:=_,ths:=_}) h1 _ _
  ·exact h0
 ·exact h0
theorem tRun_evc {K:Nat}: ∀(l:List (Int×Int)) {n:Nat} {s:Mst},EvC K (n+2*l.length) s->EvC K n (tRun B s l)
 |[],_,_,h=>h
 |x::l,n,s,h=>tRun_evc l (tPick_evc (n:=n+2*l.length) (h.mono (by simp only [List.length_cons];omega)) x)
theorem can_of {s:Mst} (hs:TOk B s) (hB:MBok B) (h:EvC 999999000 0 s):mCan B 3 s:=by
 have hl:s.ths.length<=8:=by rw [hs.ok.nt];exact hB.n8
 have h8:=nodup_le s.ths.length (s.slp.map (·.1)) hs.ok.slp.nd (fun x hx=>by
  obtain ⟨y,hy,e⟩:=List.mem_map.1 hx
  rw [<-e];exact hs.ok.slp.lo y hy)
 rw [List.length_map]at h8
 refine ⟨by unfold EvC at h;omega,by omega,fun x hx=>hs.ok.slp.lo x hx,fun b hb e he=>(hs.ok.buf b hb e he).1,hl⟩
end
def opOk (size m:Nat):Op->Prop
 | .set a k=>a<8/\0<=k/\k<=4294967295
 | .move a b=>a<8/\b<8
 | .add a b c| .and a b c| .same a b c=>a<8/\b<8/\c<8
 | .jump k=>k<=size
 | .zero a k| .some a k=>a<8/\k<=size
 | .load a x| .store a x| .swap a x| .fetch a x| .wait a x| .wake a x=>a<8/\x<m
 | .cas a c x=>a<8/\c<8/\x<m
 | .out a=>a<8
 | .mark k=>k<=4294967295
theorem kinds_at:kindAt 1=⟨true,false,false,false,false,true⟩/\kindAt 2=⟨true,true,false,false,false,false⟩/\kindAt 3=⟨true,true,false,true,false,false⟩/\kindAt 6=⟨true,true,false,true,false,false⟩/\kindAt 12=⟨true,true,false,true,false,false⟩/\
 kindAt 13=⟨false,false,false,false,true,false⟩/\kindAt 14=⟨true,false,false,false,true,false⟩/\kindAt 15=⟨true,false,false,false,true,false⟩/\kindAt 16=⟨true,false,true,false,false,true⟩/\kindAt 17=⟨true,false,true,false,false,true⟩/\
 kindAt 19=⟨true,false,true,false,false,true⟩/\kindAt 20=⟨true,false,true,false,false,true⟩/\kindAt 21=⟨true,false,true,true,false,true⟩/\kindAt 22=⟨true,false,false,false,false,false⟩/\kindAt 23=⟨true,false,true,false,false,true⟩/\
 kindAt 24=⟨true,false,true,false,false,true⟩/\kindAt 27=⟨true,false,false,false,false,true⟩:=
 ⟨by kernel_rfl,by kernel_rfl,by kernel_rfl,by kernel_rfl,by kernel_rfl,by kernel_rfl,by kernel_rfl,by kernel_rfl,by kernel_rfl,by kernel_rfl,by kernel_rfl,by kernel_rfl,by kernel_rfl,by kernel_rfl,by kernel_rfl,by kernel_rfl,by kernel_rfl⟩
theorem right_of {op a b c k size:Int} {q:Kind} (h0:0<=op/\op<28) (hq:kindAt op.toNat=q) (h:RightP q a b c k size):rightB ⟨op,a,b,c,k⟩ size=true:=by
 unfold rightB
 rw [if_pos h0]
 dsimp only
 rw [hq]
 exact decide_eq_true h
theorem opOk.right {size m:Nat} {o:Op} (h:opOk size m o) (hs:size<=4000) (hm:m<=1024):rightB o.ins (size:Int)=true/\o.ins.Ok/\ ∀x,o.word=some x->x<m:=by
 obtain ⟨k1,k2,k3,k6,k12,k13,k14,k15,k16,k17,k19,k20,k21,k22,k23,k24,k27⟩:=kinds_at
 have nn: ∀{n:Nat},n<8->(0:Int)<=(n:Int)/\(n:Int)<=7:=fun h=>by omega
 have n100: ∀{n:Nat},n<8->(0:Int)<=(n:Int)/\(n:Int)<=100:=fun h=>by omega
 have z:(0:Int)<=0/\(0:Int)<=100:=by decide
 have e8:(0:Int)<=8/\(8:Int)<=8:=by decide
 have e8':(0:Int)<=8/\(8:Int)<=100:=by decide
 cases o with
 |set a k=>exact ⟨right_of (by decide) k1 ⟨nn h.1,rfl,rfl,.inl rfl⟩,insOk ⟨by decide,n100 h.1,z,z,h.2⟩,fun x q=>by cases q⟩
 |move a b=>exact ⟨right_of (by decide) k2 ⟨nn h.1,nn h.2,rfl,.inr rfl⟩,insOk ⟨by decide,n100 h.1,n100 h.2,z,by decide,by decide⟩,fun x q=>by cases q⟩
 |add a b c=>exact ⟨right_of (by decide) k3 ⟨nn h.1,nn h.2.1,nn h.2.2,.inr rfl⟩,insOk ⟨by decide,n100 h.1,n100 h.2.1,n100 h.2.2,by decide,by decide⟩,fun x q=>by cases q⟩
 |and a b c=>exact ⟨right_of (by decide) k6 ⟨nn h.1,nn h.2.1,nn h.2.2,.inr rfl⟩,insOk ⟨by decide,n100 h.1,n100 h.2.1,n100 h.2.2,by decide,by decide⟩,fun x q=>by cases q⟩
 |same a b c=>exact ⟨right_of (by decide) k12 ⟨nn h.1,nn h.2.1,nn h.2.2,.inr rfl⟩,insOk ⟨by decide,n100 h.1,n100 h.2.1,n100 h.2.2,by decide,by decide⟩,fun x q=>by cases q⟩
 |jump k=>
  have h:k<=size:=h
  exact ⟨right_of (by decide) k13 ⟨rfl,rfl,rfl,by show (0:Int)<=size/\(k:Int)<=size;omega⟩,insOk ⟨by decide,z,z,z,by omega,by omega⟩,fun x q=>by cases q⟩
 |zero a k=>
  have h2:k<=size:=h.2
  exact ⟨right_of (by decide) k14 ⟨nn h.1,rfl,rfl,by show (0:Int)<=size/\(k:Int)<=size;omega⟩,insOk ⟨by decide,n100 h.1,z,z,by omega,by omega⟩,fun x q=>by cases q⟩
 |some a k=>
  have h2:k<=size:=h.2
  exact ⟨right_of (by decide) k15 ⟨nn h.1,rfl,rfl,by show (0:Int)<=size/\(k:Int)<=size;omega⟩,insOk ⟨by decide,n100 h.1,z,z,by omega,by omega⟩,fun x q=>by cases q⟩
 |load a x=>
  have h2:x<m:=h.2
  exact ⟨right_of (by decide) k16 ⟨nn h.1,e8,rfl,.inl rfl⟩,insOk ⟨by decide,n100 h.1,e8',z,by omega,by omega⟩,fun y q=>by rw [<-Option.some.inj q];exact h2⟩
 |store a x=>
  have h2:x<m:=h.2
  exact ⟨right_of (by decide) k17 ⟨nn h.1,e8,rfl,.inl rfl⟩,insOk ⟨by decide,n100 h.1,e8',z,by omega,by omega⟩,fun y q=>by rw [<-Option.some.inj q];exact h2⟩
 |swap a x=>
  have h2:x<m:=h.2
  exact ⟨right_of (by decide) k19 ⟨nn h.1,e8,rfl,.inl rfl⟩,insOk ⟨by decide,n100 h.1,e8',z,by omega,by omega⟩,fun y q=>by rw [<-Option.some.inj q];exact h2⟩
 |fetch a x=>
  have h2:x<m:=h.2
  exact ⟨right_of (by decide) k20 ⟨nn h.1,e8,rfl,.inl rfl⟩,insOk ⟨by decide,n100 h.1,e8',z,by omega,by omega⟩,fun y q=>by rw [<-Option.some.inj q];exact h2⟩
 |cas a c x=>
  have h2:x<m:=h.2.2
  exact ⟨right_of (by decide) k21 ⟨nn h.1,e8,nn h.2.1,.inl rfl⟩,insOk ⟨by decide,n100 h.1,e8',n100 h.2.1,by omega,by omega⟩,fun y q=>by rw [<-Option.some.inj q];exact h2⟩
 |out a=>exact ⟨right_of (by decide) k22 ⟨nn h,rfl,rfl,.inr rfl⟩,insOk ⟨by decide,n100 h,z,z,by decide,by decide⟩,fun x q=>by cases q⟩
 |wait a x=>
  have h2:x<m:=h.2
  exact ⟨right_of (by decide) k23 ⟨nn h.1,e8,rfl,.inl rfl⟩,insOk ⟨by decide,n100 h.1,e8',z,by omega,by omega⟩,fun y q=>by rw [<-Option.some.inj q];exact h2⟩
 |wake a x=>
  have h2:x<m:=h.2
  exact ⟨right_of (by decide) k24 ⟨nn h.1,e8,rfl,.inl rfl⟩,insOk ⟨by decide,n100 h.1,e8',z,by omega,by omega⟩,fun y q=>by rw [<-Option.some.inj q];exact h2⟩
 |mark k=>
  have h:k<=4294967295:=h
  exact ⟨right_of (by decide) k27 ⟨by decide,rfl,rfl,.inl rfl⟩,insOk ⟨by decide,by decide,z,z,by omega,by omega⟩,fun x q=>by cases q⟩
def codeOf (code:Nat->List Op) (rd:Nat):List Op:=(List.range rd).flatMap code
theorem codeOf_succ (code:Nat->List Op) (rd:Nat):codeOf code (rd+1)=codeOf code rd++code rd:=by
 unfold codeOf
 rw [List.range_succ,List.flatMap_append]
 simp
theorem codeOf_len {code:Nat->List Op} {bs:Nat->Nat} (h0:bs 0=0): ∀{rd:Nat},(∀n,n<rd->bs (n+1)=bs n+(code n).length)->(codeOf code rd).length=bs rd
 |0,_=>h0.symm
 |rd+1,h=>by rw [codeOf_succ,List.length_append,codeOf_len h0 (fun n hn=>h n (by omega)),h rd (by omega)]
theorem codeOf_get {code:Nat->List Op} {bs:Nat->Nat} (h0:bs 0=0): ∀{rd:Nat},(∀n,n<rd->bs (n+1)=bs n+(code n).length)-> ∀n,n<rd-> ∀o op,(code n)[o]?=some op->(codeOf code rd)[bs n+o]?=some op
 |0,_,n,hn,_,_,_=>absurd hn (by omega)
 |rd+1,h,n,hn,o,op,ho=>by
  have hl:=codeOf_len h0 (rd:=rd) (fun n hn=>h n (by omega))
  have ho2:=(List.getElem?_eq_some_iff.1 ho).1
  rw [codeOf_succ]
  rcases Nat.lt_or_ge n rd with c|c
  ·have h1:=bs_mono (rd:=rd) (fun n hn=>h n (by omega)) (n:=n+1) (m:=rd) (by omega) (Nat.le_refl _)
   have h2:=h n hn
   rw [List.getElem?_append_left (by omega)]
   exact codeOf_get h0 (fun n hn=>h n (by omega)) n c o op ho
  ·obtain rfl:n=rd:=by omega
   rw [List.getElem?_append_right (by omega),hl,Nat.add_sub_cancel_left]
   exact ho
theorem coded_of {B:MB} {t rd:Nat} {bs:Nat->Nat} {code:Nat->List Op} (h0:bs 0=0) (hnx: ∀n,n<rd->bs (n+1)=bs n+(code n).length) (hl:(B.codes.getD t cdd).len=((codeOf code rd).map Op.ins).length)
 (hF:(B.codes.getD t cdd).F=fun i=>((codeOf code rd).map Op.ins).getD i default) (hok: ∀n,n<rd-> ∀op∈code n,opOk (bs rd) B.m op) (hs:bs rd<=4000) (hm:B.m<=1024):Coded B t rd bs code:=by
 have hlen:(B.codes.getD t cdd).len=bs rd:=by rw [hl,List.length_map,codeOf_len h0 hnx]
 refine ⟨hlen,hnx,fun n hn o op hop=>?_,fun n hn op hop=>?_⟩
 ·rw [hF]
  have :=codeOf_get h0 hnx n hn o op hop
  show ((codeOf code rd).map Op.ins).getD (bs n+o) default=op.ins
  rw [List.getD_eq_getElem?_getD,List.getElem?_map,this]
  rfl
 ·obtain ⟨h1,_,h3⟩:=(hok n hn op hop).right hs hm
  rw [hlen]
  exact ⟨h1,h3⟩
theorem codeOf_mem {code:Nat->List Op} {rd:Nat} {op:Op} (h:op∈codeOf code rd): ∃n,n<rd/\op∈code n:=by
 obtain ⟨n,h1,h2⟩:=List.mem_flatMap.1 h
 exact ⟨n,List.mem_range.1 h1,h2⟩
theorem codeOf_good {code:Nat->List Op} {bs:Nat->Nat} (h0:bs 0=0) {rd m:Nat} (hnx: ∀n,n<rd->bs (n+1)=bs n+(code n).length) (hok: ∀n,n<rd-> ∀op∈code n,opOk (bs rd) m op) (hs:bs rd<=4000) (hm:m<=1024):
 (∀x∈(codeOf code rd).map Op.ins,x.Ok)/\(∀x∈(codeOf code rd).map Op.ins,rightB x (((codeOf code rd).map Op.ins).length:Int)=true)/\((codeOf code rd).map Op.ins).length=bs rd:=by
 have hl:((codeOf code rd).map Op.ins).length=bs rd:=by rw [List.length_map,codeOf_len h0 hnx]
 have one: ∀x∈(codeOf code rd).map Op.ins,rightB x (bs rd:Int)=true/\x.Ok:=fun x hx=>by
  obtain ⟨op,h1,rfl⟩:=List.mem_map.1 hx
  obtain ⟨n,hn,h2⟩:=codeOf_mem h1
  obtain ⟨q1,q2,_⟩:=(hok n hn op h2).right hs hm
  exact ⟨q1,q2⟩
 refine ⟨fun x hx=>(one x hx).2,fun x hx=>?_,hl⟩
 rw [hl];exact (one x hx).1
def CdRow (W:World) (base:Nat) (v:Value) (L:List (List Ins)):Prop:=
 ∃vals:List Value,vals.length=L.length/\W.ownsRow base 50 1 v L.length vals/\ ∀i,i<L.length->W.ownsRow base 75 5 (vals.getD i undef) (L.getD i []).length ((L.getD i []).flatMap Ins.cells)
theorem CdRow.nil (W:World) (base:Nat):CdRow W base (.slice none 0 0) []:=⟨[],rfl,⟨rfl,.inl ⟨rfl,rfl⟩⟩,fun i hi=>absurd hi (by simp)⟩
section
variable {W W':World} {base:Nat} {v v':Value} {L:List (List Ins)}
theorem CdRow.below (h:CdRow W base v L) (hb:Below W.heap.size W W'):CdRow W' base v L:=by
 obtain ⟨vals,h1,h2,h3⟩:=h
 exact ⟨vals,h1,own_below h2 (Nat.le_refl _) hb,fun i hi=>own_below (h3 i hi) (Nat.le_refl _) hb⟩
theorem own_weak {W:World} {b b' s n:Nat} {e:TypeId} {v:Value} {xs:List Value} (h:W.ownsRow b e s v n xs) (hb:b'<=b):W.ownsRow b' e s v n xs:=by
 refine ⟨h.1,?_⟩
 rcases h.2 with hn|⟨g,cap,cur,rfl,hbg,rest⟩
 ·exact .inl hn
 ·exact .inr ⟨g,cap,cur,rfl,Nat.le_trans hb hbg,rest⟩
theorem CdRow.snoc {vals:List Value} {c:Value} {l:List Ins} (h1:vals.length=L.length) (h2:W.ownsRow base 50 1 v L.length vals) (h3: ∀i,i<L.length->W.ownsRow base 75 5 (vals.getD i undef) (L.getD i []).length ((L.getD i []).flatMap Ins.cells))
 {b2:Nat} (hc:W.ownsRow b2 75 5 c l.length (l.flatMap Ins.cells)) (hb2:base<=b2) (hg:W.grownBy W' v.ownBlock) (hr:W'.ownsRow base 50 1 v' (L.length+1) (vals++[c])):CdRow W' base v' (L++[l]):=by
 have hne:75≠50:=by decide
 refine ⟨vals++[c],by simp [h1],by rw [List.length_append];exact hr,fun i hi=>?_⟩
 rcases getD_snoc L l [] i hi with ⟨hlt,e⟩|⟨rfl,e⟩
 ·have e2:(vals++[c]).getD i undef=vals.getD i undef:=by
   simp only [List.getD_eq_getElem?_getD];rw [List.getElem?_append_left (by omega)]
  rw [e,e2]
  exact own_apart (h3 i hlt) h2 hne hg
 ·have e2:(vals++[c]).getD L.length undef=c:=by
   simp only [List.getD_eq_getElem?_getD];rw [List.getElem?_append_right (by omega),h1];simp
  rw [e,e2]
  exact own_weak (own_apart hc h2 hne hg) hb2
def lPg (A:Option Addr) (n cap:Nat) (cds:Nat->Cd) (mA:Option Addr) (m mcap:Nat) (room:Int):Pg:=⟨A,n,cap,cds,mA,m,mcap,fun _=>0,room⟩
theorem CdRow.prog (h:CdRow W base v L) (hok: ∀l∈L,∀x∈l,x.Ok) (hright: ∀l∈L,∀x∈l,rightB x (l.length:Int)=true) (hlen: ∀l∈L,l.length<=4000) (hn:1<=L.length/\L.length<=8) {room:Int} (hroom:1<=room/\room<=16) {mA:Option Addr} {m mcap:Nat} (hm:m<=1024) (hmc:m<=mcap/\mcap<=maxLen) (hmem:Sl W mA m (fun _=> .int .u32 0)):
 ∃A cap cds,v= .slice A L.length cap/\(lPg A L.length cap cds mA m mcap room).Ok/\Chk (lPg A L.length cap cds mA m mcap room) 0 0 0/\(lPg A L.length cap cds mA m mcap room).At W/\ ∀t,t<L.length->(cds t).len=(L.getD t []).length/\(cds t).F=fun i=>(L.getD t []).getD i default:=by
 obtain ⟨vals,h1,h2,h3⟩:=h
 have hv: ∀t,t<L.length-> ∃A cap,vals.getD t undef= .slice A (L.getD t []).length cap/\(L.getD t []).length<=cap/\cap<=maxLen/\SlE W A (L.getD t []).length 5 (fun i=>((L.getD t []).getD i default).cells):=fun t ht=>by
  obtain ⟨A,cap,e,hc,hs⟩:=own_sle Ins.cells (fun _=>rfl) default (L.getD t []) (h3 t ht)
  obtain ⟨_,cap',e2,_,hm2⟩:=own_cap (h3 t ht)
  rw [e]at e2
  injection e2 with _ _ e3
  exact ⟨A,cap,e,hc,by rw [e3];exact hm2,hs⟩
 let cds:Nat->Cd:=fun t=>if ht:t<L.length then ⟨(hv t ht).choose,(L.getD t []).length,(hv t ht).choose_spec.choose,fun i=>(L.getD t []).getD i default⟩else cdd
 have hcd: ∀t (ht:t<L.length),(cds t).val=vals.getD t undef/\(cds t).len=(L.getD t []).length/\(cds t).F=(fun i=>(L.getD t []).getD i default)/\(cds t).len<=(cds t).cap/\(cds t).cap<=maxLen/\(cds t).At W:=fun t ht=>by
  have e:cds t=⟨(hv t ht).choose,(L.getD t []).length,(hv t ht).choose_spec.choose,fun i=>(L.getD t []).getD i default⟩:=dif_pos ht
  obtain ⟨q1,q2,q3,q4⟩:=(hv t ht).choose_spec.choose_spec
  rw [e]
  exact ⟨q1.symm,rfl,rfl,q2,q3,q4⟩
 have hmem': ∀t,t<L.length->L.getD t []∈L:=fun t ht=>by rw [List.getD_eq_getElem?_getD,List.getElem?_eq_getElem ht];exact List.getElem_mem ht
 have hget: ∀(l:List Ins) i,i<l.length->l.getD i default∈l:=fun l i hi=>by rw [List.getD_eq_getElem?_getD,List.getElem?_eq_getElem hi];exact List.getElem_mem hi
 obtain ⟨A,cap,rfl,hc,hcm⟩:=own_cap h2
 obtain ⟨A',cap',e',_,hsl⟩:=own_sl (size:=1) h2
 injection e' with e1 _ _
 subst e1
 refine ⟨A,cap,cds,rfl,⟨hc,hcm,hmc.1,hmc.2,fun t ht=>?_,fun _ _=>(by decide:(0:Int)<=0/\(0:Int)<=4294967295),by have :=hroom.1;show _<=room;omega,by have :=hroom.2;show room<=_;omega⟩,.fine hn.1 hn.2 hroom.1 hroom.2 hm (fun t ht=>?_),⟨fun hp=>?_,fun t ht=>(hcd t ht).2.2.2.2.2,hmem⟩,fun t ht=>⟨(hcd t ht).2.1,(hcd t ht).2.2.1⟩⟩
 ·obtain ⟨_,e2,e3,q1,q2,_⟩:=hcd t ht
  refine ⟨q1,q2,fun i hi=>?_⟩
  show ((cds t).F i).Ok
  rw [e3]
  have hi':i<(cds t).len:=hi
  exact hok _ (hmem' t ht) _ (hget _ _ (by rw [<-e2];exact hi'))
 ·obtain ⟨_,e2,e3,_⟩:=hcd t ht
  refine ⟨by show (cds t).len<=4000;rw [e2];exact hlen _ (hmem' t ht),fun i hi=>?_⟩
  show rightB ((cds t).F i) ((cds t).len:Int)=true
  have hi':i<(cds t).len:=hi
  rw [e3,e2]
  exact hright _ (hmem' t ht) _ (hget _ _ (by rw [<-e2];exact hi'))
 ·obtain ⟨b,off,e,hlt,hcell⟩:=hsl (by rw [Nat.mul_one];exact hp)
  refine ⟨b,off,e,hlt,fun i hi=>?_⟩
  have hi:i<L.length:=hi
  rw [hcell i (by rw [Nat.mul_one];exact hi)]
  show some (vals.getD i undef)=some (cds i).val
  rw [(hcd i hi).1]
end
set_option maxHeartbeats 2000000 in
theorem trun2_any (B:MB) (hB:MBok B) (s:Mst) (hr16:B.room<=16) (hs:TOk B s) (A:Option Addr) (n cap:Nat) (F:Nat->Int×Int) (hc:EvC 999999000 (2*n) s) (own:Nat->Prop) (W:World) (hI:MInv tsoL B s own W) (hT:Tab W)
 (hsl:SlE W A n 2 (fun i=>pkc (F i))) (hA:0<n-> ∀b o,A=some ⟨b,o,none⟩-> ¬own b) (hn:n<=1000000000):
 Calls Tryz.prog 17 #[.pointer (some ⟨B.mb,0,none⟩),.slice A n cap] W fun e W'=>(∃u,e= .returned u)/\Moves (MInv tsoL B) (tRun B s ((List.range n).map F)) own W W':=by
 have hlo:=hI.lo
 have HB:=Lib.hid (And.intro hB (And.intro hr16 (And.intro hs (And.intro hc (And.intro hT hlo)))))
 have HS:=Lib.hid (And.intro hsl hA)
 have HI:=Lib.hid hI.stay
 clear hB hr16 hs hc hI hT hsl hA hlo
 go_enter Tryz.func17,Tryz.ntmps17
 go_wp2_with fail
 go_loopw [5,8] (fun q i wr=> ∃k:Nat,k<=n/\i= .int .i64 (k:Int)/\Moves (MInv tsoL B) (tRun B s ((List.range k).map F)) own W wr) (fun _ i _=>n-(intOf i).toNat)
 case atStart=>exact ⟨0,Nat.zero_le _,rfl,HI.out⟩
 case round=>
  obtain ⟨k,hk,rfl,hM⟩:=hrel
  by_cases hkn:k<n
  ·have hk0:(0:Int)<=(k:Int):=by omega
   have hk1:(k:Int)<(n:Int):=by omega
   have hM0:=hM
   obtain ⟨own1,hI1,ho1,hk1'⟩:=hM
   obtain ⟨b,off,rfl,hlt,hcc⟩:=hk1'.sle HS.out.1 HS.out.2 (by omega)
   obtain ⟨x,hx⟩: ∃x,F k=x:=⟨_,rfl⟩
   have k0:=hcc k hkn 0 (.int .i64 (F k).1) rfl
   have k1:=hcc k hkn 1 (.int .i64 (F k).2) rfl
   rw [hx]at k0 k1
   rw [Nat.add_zero]at k0
   have HX:=Lib.hid hx
   have hal:=(Below.refl wr.heap.size wr).alloc (Nat.le_refl _) (.cells #[.int .i64 x.1,.int .i64 x.2] 78)
   have hM1:=hM0.belowM hal
   have hT1:Tab wr:=hk1'.tab HB.out.2.2.2.2.2 HB.out.2.2.2.2.1
   have HM1:=Lib.hid (And.intro hM1 (hT1.step hal))
   have HK:=Lib.hid (And.intro ho1 hk1')
   clear hM0 hI1 ho1 hk1' hcc hx hal hM1 hT1
   go_wp2_with fail
   have hcall:Calls Tryz.prog 36 #[.pointer (some ⟨B.mb,0,none⟩),.agg #[.int .i64 x.1,.int .i64 x.2]] (wr.alloc (.cells #[.int .i64 x.1,.int .i64 x.2] 78)) fun e W'=>(∃u,e= .returned u)/\Moves (MInv tsoL B) (tRun B s ((List.range (k+1)).map F)) own W W':=by
    obtain ⟨own2,hI2,ho2,hk2⟩:=HM1.out.1
    have hcan:mCan B 3 (tRun B s ((List.range k).map F)):=can_of (tRun_ok HB.out.1 _ s HB.out.2.2.1) HB.out.1 (tRun_evc ((List.range k).map F) (HB.out.2.2.2.1.mono (by rw [List.length_map,List.length_range];omega)))
    refine (tpick_any B HB.out.1 HB.out.2.1 _ (tRun_ok HB.out.1 _ s HB.out.2.2.1) hcan own2 _ hI2 HM1.out.2 x).mono fun e W' ⟨he,hm⟩=>⟨he,?_⟩
    rw [List.range_succ,List.map_append,List.map_cons,List.map_nil,HX.out,tRun_snoc]
    exact Moves.after ho2 hk2 hm
   refine hcall.mono ?_
   rintro e W2 ⟨⟨u,rfl⟩,hM2⟩
   clear hcall k0 k1
   go_wp2
   go_roundw
   case rel=>exact ⟨k+1,by omega,by go_num,hM2⟩
   case measure=>simp [intOf];omega
  ·obtain rfl:n=k:=by omega
   have hk1: ¬(n:Int)<(n:Int):=by omega
   go_wp2
   go_end0
   exact ⟨⟨_,rfl⟩,hM⟩
end Go.Proofs.YtmhfpjnkjlhbpaaGreatDoor
