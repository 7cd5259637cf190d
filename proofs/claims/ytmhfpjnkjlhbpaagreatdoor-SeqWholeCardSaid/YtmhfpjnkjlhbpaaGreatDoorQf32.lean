/- seq (plain): the codes of writers and readers, how their pieces follow one another; what the machine comes to. A code that a law puts together, piece by piece. -/
import Derived.Test.YtmhfpjnkjlhbpaaGreatDoorQf25
import Derived.Test.YtmhfpjnkjlhbpaaGreatDoorQf31
namespace Go.Proofs.YtmhfpjnkjlhbpaaGreatDoor
open Go.ChangeShapes Go.WideShapes Go.ChangeAt Go.RowKit Go.Deep
set_option linter.unusedVariables false
set_option maxRecDepth 100000
set_option linter.unusedSimpArgs false
theorem step_mod {M rd n:Nat} (hM:0<M) (hn:n<rd*M):n/M<rd/\((n % M+1<M/\n+1<rd*M/\(n+1)% M=n % M+1/\(n+1)/M=n/M)∨(n % M+1=M/\(n+1)% M=0/\(n+1)/M=n/M+1/\((n+1=rd*M/\n/M+1=rd)∨(n+1<rd*M/\n/M+1<rd)))):=by
 have e:=Nat.div_add_mod n M
 have hc:=Nat.mod_lt n hM
 have hq:n/M<rd:=Nat.div_lt_of_lt_mul (by rw [Nat.mul_comm];exact hn)
 obtain ⟨q,hqe⟩: ∃q,n/M=q:=⟨_,rfl⟩
 obtain ⟨c,hce⟩: ∃c,n % M=c:=⟨_,rfl⟩
 rw [hqe,hce]at e
 rw [hce]at hc
 rw [hqe]at hq
 have h1:M*(q+1)<=M*rd:=Nat.mul_le_mul_left M hq
 have h2:M*(q+1)=M*q+M:=Nat.mul_succ M q
 have h3:rd*M=M*rd:=Nat.mul_comm _ _
 rw [hqe,hce]
 refine ⟨hq,?_⟩
 rcases Nat.lt_or_ge (c+1) M with h|h
 ·have e1:n+1=M*q+(c+1):=by omega
  refine .inl ⟨h,by omega,?_,?_⟩
  ·rw [e1,Nat.mul_add_mod,Nat.mod_eq_of_lt h]
  ·rw [e1,Nat.mul_add_div hM,Nat.div_eq_of_lt h,Nat.add_zero]
 ·have e1:n+1=M*(q+1):=by omega
  refine .inr ⟨by omega,by rw [e1,Nat.mul_mod_right],by rw [e1,Nat.mul_div_cancel_left _ hM],?_⟩
  rcases Nat.lt_or_ge (q+1) rd with k|k
  ·have :=Nat.mul_le_mul_left M (show q+1+1<=rd from k)
   have h4:M*(q+1+1)=M*(q+1)+M:=Nat.mul_succ M (q+1)
   exact .inr ⟨by omega,k⟩
  ·have e2:q+1=rd:=by omega
   exact .inl ⟨by rw [h3,<-e2];exact e1,e2⟩
def bsQ (kd:Nat->Sg):Nat->Nat
 |0=>0
 |n+1=>bsQ kd n+sgLen (kd n)
theorem kdW {N rd:Nat} (h1:1<=N) (h3:N<=3) (hr:1<=rd):Kd N rd (sgW N) (fun n=>n/(N+2)) (fun n=>n-(N+1)) (rd*(N+2)) (bsQ (sgW N)) true:=by
 have hM:0<N+2:=by omega
 refine ⟨fun n hn hk=>?_,fun n i hn hk=>?_,fun n hn hk=>?_,fun n hn hk=>?_,fun n i hn hk=>?_,fun n hn hk=>?_,fun n i hn hk=>?_,fun _=>rfl,fun n hn=>(step_mod hM hn).1,fun _=>⟨?_,Nat.zero_div _⟩,fun h=>?_,rfl⟩
 ·obtain ⟨_,q⟩:=step_mod hM hn
  unfold sgW at hk
  split at hk
  ·rename_i c
   rcases q with ⟨q1,q2,q3,q4⟩|⟨q1,_⟩
   ·refine ⟨q2,?_,q4⟩
    unfold sgW
    rw [q3,c,if_neg (by omega),if_pos (by omega)]
   ·omega
  ·split at hk<;>cases hk
 ·obtain ⟨_,q⟩:=step_mod hM hn
  unfold sgW at hk
  split at hk
  ·cases hk
  ·rename_i c
   split at hk
   ·rename_i c2
    injection hk with hk
    rcases q with ⟨q1,q2,q3,q4⟩|⟨q1,_⟩
    ·refine ⟨by omega,q2,q4,?_⟩
     unfold sgW
     rw [q3,if_neg (by omega)]
     by_cases d:i+1<N
     ·rw [if_pos (by omega),if_pos d];congr 1;omega
     ·rw [if_neg (by omega),if_neg d]
    ·omega
   ·cases hk
 ·obtain ⟨_,q⟩:=step_mod hM hn
  unfold sgW at hk
  split at hk
  ·cases hk
  ·split at hk
   ·cases hk
   ·rename_i c c2
    refine ⟨rfl,?_⟩
    rcases q with ⟨q1,q2,q3,q4⟩|⟨q1,q2,q3,q4⟩
    ·have :=Nat.mod_lt n hM;omega
    ·rcases q4 with ⟨q5,q6⟩|⟨q5,q6⟩
     ·exact .inl ⟨q5,q6⟩
     ·refine .inr ⟨q5,?_,q3⟩
      unfold sgW
      rw [q2,if_pos rfl]
 ·unfold sgW at hk;split at hk;cases hk;split at hk<;>cases hk
 ·unfold sgW at hk;split at hk;cases hk;split at hk<;>cases hk
 ·unfold sgW at hk;split at hk;cases hk;split at hk<;>cases hk
 ·unfold sgW at hk;split at hk;cases hk;split at hk<;>cases hk
 ·unfold sgW;rw [Nat.zero_mod,if_pos rfl];rfl
 ·have :=Nat.mul_le_mul hr (Nat.le_refl (N+2));omega
theorem kdR {N rd:Nat} (h1:1<=N) (h3:N<=3) (hr:1<=rd):Kd N rd (sgR N) (fun n=>n/(2*N+2)) (fun n=>n-(N+1)) (rd*(2*N+2)) (bsQ (sgR N)) false:=by
 have hM:0<2*N+2:=by omega
 refine ⟨fun n hn hk=>?_,fun n i hn hk=>?_,fun n hn hk=>?_,fun n hn hk=>?_,fun n i hn hk=>?_,fun n hn hk=>?_,fun n i hn hk=>?_,fun _=>rfl,fun n hn=>(step_mod hM hn).1,fun _=>⟨?_,Nat.zero_div _⟩,fun h=>?_,rfl⟩
 ·unfold sgR at hk;split at hk;cases hk;split at hk;cases hk;split at hk<;>cases hk
 ·unfold sgR at hk;split at hk;cases hk;split at hk;cases hk;split at hk<;>cases hk
 ·unfold sgR at hk;split at hk;cases hk;split at hk;cases hk;split at hk<;>cases hk
 ·obtain ⟨_,q⟩:=step_mod hM hn
  unfold sgR at hk
  split at hk
  ·rename_i c
   rcases q with ⟨q1,q2,q3,q4⟩|⟨q1,_⟩
   ·refine ⟨q2,?_,q4⟩
    unfold sgR
    rw [q3,c,if_neg (by omega),if_pos (by omega)]
   ·omega
  ·split at hk
   ·cases hk
   ·split at hk<;>cases hk
 ·obtain ⟨_,q⟩:=step_mod hM hn
  unfold sgR at hk
  split at hk
  ·cases hk
  ·rename_i c
   split at hk
   ·rename_i c2
    injection hk with hk
    rcases q with ⟨q1,q2,q3,q4⟩|⟨q1,_⟩
    ·refine ⟨by omega,q2,q4,?_⟩
     unfold sgR
     rw [q3,if_neg (by omega)]
     by_cases d:i+1<N
     ·rw [if_pos (by omega),if_pos d];congr 1;omega
     ·rw [if_neg (by omega),if_pos (by omega),if_neg d]
    ·omega
   ·split at hk<;>cases hk
 ·obtain ⟨hq,q⟩:=step_mod hM hn
  unfold sgR at hk
  split at hk
  ·cases hk
  ·split at hk
   ·cases hk
   ·rename_i c c2
    split at hk
    ·rename_i c3
     rcases q with ⟨q1,q2,q3,q4⟩|⟨q1,q2,q3,q4⟩
     ·have e:=Nat.div_add_mod n (2*N+2)
      have e1:n-(N+1)=(2*N+2)*(n/(2*N+2)):=by rw [c3]at e;omega
      refine ⟨q2,?_,q4,by omega,?_,?_⟩
      ·unfold sgR
       rw [q3,if_neg (by omega),if_neg (by omega),if_neg (by omega),c3]
       congr 1;omega
      ·unfold sgR
       rw [e1,Nat.mul_mod_right,if_pos rfl]
      ·show (n-(N+1))/(2*N+2)=_
       rw [e1,Nat.mul_div_cancel_left _ hM]
     ·omega
    ·cases hk
 ·obtain ⟨hq,q⟩:=step_mod hM hn
  have hlt:=Nat.mod_lt n hM
  unfold sgR at hk
  split at hk
  ·cases hk
  ·split at hk
   ·cases hk
   ·rename_i c c2
    split at hk
    ·cases hk
    ·rename_i c3
     injection hk with hk
     refine ⟨by omega,?_⟩
     rcases q with ⟨q1,q2,q3,q4⟩|⟨q1,q2,q3,q4⟩
     ·refine .inl ⟨by omega,q2,q4,?_⟩
      unfold sgR
      rw [q3,if_neg (by omega),if_neg (by omega),if_neg (by omega)]
      congr 1;omega
     ·refine .inr ⟨by omega,rfl,?_⟩
      rcases q4 with ⟨q5,q6⟩|⟨q5,q6⟩
      ·exact .inl ⟨q5,q6⟩
      ·refine .inr ⟨q5,?_,q3⟩
       unfold sgR
       rw [q2,if_pos rfl]
 ·unfold sgR;rw [Nat.zero_mod,if_pos rfl];rfl
 ·have :=Nat.mul_le_mul hr (Nat.le_refl (2*N+2));omega
def sqC (N W R rd:Nat):SqC:=⟨W+R,N,rd,fun t=>if t<W then sgW N else sgR N,fun t n=>if t<W then n/(N+2)else n/(2*N+2),fun _ n=>n-(N+1),fun t=>if t<W then rd*(N+2)else rd*(2*N+2),fun t=>bsQ (if t<W then sgW N else sgR N),fun t=>decide (t<W)⟩
theorem sqC_ok {N W R rd:Nat} (h1:1<=N) (h3:N<=3) (hr:1<=rd) (hr3:rd<=3) (hW:W<=2) (hR:R<=2):(sqC N W R rd).Ok:=by
 refine ⟨by show W+R<=8;omega,h1,h3,hr3,fun t _=>?_⟩
 unfold sqC
 dsimp only
 by_cases c:t<W
 ·simp only [if_pos c,decide_eq_true c];exact kdW h1 h3 hr
 ·simp only [if_neg c,decide_eq_false c];exact kdR h1 h3 hr
theorem sgL_ok {N t q g size:Nat} (ht:t<=8) (h1:1<=N) (h3:N<=3) (k:Sg) (hk:match k with| .wp i=>i<N| .rl i=>i<N| .ro i=>i<N|_=>True) (hq:q+sgLen k<=size) (hg:g<=size): ∀op∈sgL t q g k,opOk size (18+N) op:=by
 intro op hop
 cases k
 all_goals (simp only [sgL,List.mem_cons,List.not_mem_nil,or_false]at hop)
 all_goals (simp only [sgLen]at hq)
 all_goals (dsimp only at hk)
 ·rcases hop with rfl|rfl|rfl|rfl|rfl|rfl|rfl|rfl|rfl|rfl|rfl|rfl|rfl|rfl|rfl|rfl|rfl<;>(dsimp only [opOk];omega)
 ·rcases hop with rfl|rfl|rfl|rfl|rfl|rfl|rfl|rfl|rfl|rfl<;>(dsimp only [opOk];omega)
 ·rcases hop with rfl|rfl|rfl|rfl|rfl|rfl|rfl|rfl|rfl|rfl|rfl|rfl|rfl<;>(dsimp only [opOk];omega)
 ·rcases hop with rfl|rfl|rfl|rfl|rfl<;>(dsimp only [opOk];omega)
 ·rcases hop with rfl;dsimp only [opOk];omega
 ·rcases hop with rfl|rfl|rfl|rfl|rfl<;>(dsimp only [opOk];omega)
 ·rcases hop with rfl;dsimp only [opOk];omega
theorem bsQ_le (kd:Nat->Sg) (n:Nat):bsQ kd n<=17*n:=by
 induction n with
 |zero=>exact Nat.le_refl _
 |succ n ih=>
  have :sgLen (kd n)<=17:=by
   cases kd n
   all_goals (simp only [sgLen];omega)
  show bsQ kd n+sgLen (kd n)<=_
  omega
theorem bsQ_mono (kd:Nat->Sg) {n m:Nat} (h:n<=m):bsQ kd n<=bsQ kd m:=bs_mono (rd:=m) (ln:=fun n=>sgLen (kd n)) (fun _ _=>rfl) h (Nat.le_refl _)
def sqPc (N t:Nat) (isW:Bool) (n:Nat):List Op:=sgL t (bsQ (if isW=true then sgW N else sgR N) n) (bsQ (if isW=true then sgW N else sgR N) (n-(N+1))+1) ((if isW=true then sgW N else sgR N) n)
def sqSn (N rd:Nat) (isW:Bool):Nat:=if isW=true then rd*(N+2)else rd*(2*N+2)
def sqT (N rd t:Nat) (isW:Bool):List Ins:=(codeOf (sqPc N t isW) (sqSn N rd isW)).map Op.ins
theorem sqPc_ok {N rd t n:Nat} {isW:Bool} (ht:t<=8) (h1:1<=N) (h3:N<=3) (hr:1<=rd) (hn:n<sqSn N rd isW): ∀op∈sqPc N t isW n,opOk (bsQ (if isW=true then sgW N else sgR N) (sqSn N rd isW)) (18+N) op:=by
 have q1:=bsQ_mono (if isW=true then sgW N else sgR N) (show n+1<=sqSn N rd isW from hn)
 have q2:=bsQ_mono (if isW=true then sgW N else sgR N) (show n-(N+1)<=n by omega)
 have q3:bsQ (if isW=true then sgW N else sgR N) (n+1)=bsQ (if isW=true then sgW N else sgR N) n+sgLen ((if isW=true then sgW N else sgR N) n):=rfl
 have q4:=sgLen_pos ((if isW=true then sgW N else sgR N) n)
 refine sgL_ok ht h1 h3 _ ?_ (by omega) (by omega)
 cases isW with
 |true=>
  have K:=kdW h1 h3 hr
  have hn':n<rd*(N+2):=hn
  simp only [if_pos]
  split
  ·rename_i i e;exact (K.wp n i hn' e).1
  ·rename_i i e;exact (K.rl n i hn' e).1
  ·rename_i i e;exact (K.ro n i hn' e).1
  ·trivial
 |false=>
  have K:=kdR h1 h3 hr
  have hn':n<rd*(2*N+2):=hn
  simp only [if_neg (show¬(false=true) by decide)]
  split
  ·rename_i i e;exact (K.wp n i hn' e).1
  ·rename_i i e;exact (K.rl n i hn' e).1
  ·rename_i i e;exact (K.ro n i hn' e).1
  ·trivial
theorem sqSn_le {N rd:Nat} (h3:N<=3) (hr3:rd<=3) (isW:Bool):sqSn N rd isW<=24:=by
 unfold sqSn
 split
 ·have :=Nat.mul_le_mul hr3 (show N+2<=5 by omega);omega
 ·have :=Nat.mul_le_mul hr3 (show 2*N+2<=8 by omega);omega
theorem sqPc_len (N t:Nat) (isW:Bool) (n:Nat):bsQ (if isW=true then sgW N else sgR N) (n+1)=bsQ (if isW=true then sgW N else sgR N) n+(sqPc N t isW n).length:=by
 unfold sqPc;rw [sgL_len];rfl
theorem sqT_good {N rd t:Nat} (isW:Bool) (ht:t<=8) (h1:1<=N) (h3:N<=3) (hr:1<=rd) (hr3:rd<=3):(∀x∈sqT N rd t isW,x.Ok)/\(∀x∈sqT N rd t isW,rightB x ((sqT N rd t isW).length:Int)=true)/\(sqT N rd t isW).length=bsQ (if isW=true then sgW N else sgR N) (sqSn N rd isW):=
 codeOf_good (bs:=bsQ (if isW=true then sgW N else sgR N)) (m:=18+N) rfl (fun n _=>sqPc_len N t isW n) (fun n hn op hop=>sqPc_ok ht h1 h3 hr hn op hop) (by have :=bsQ_le (if isW=true then sgW N else sgR N) (sqSn N rd isW);have :=sqSn_le (N:=N) h3 hr3 isW;omega) (by omega)
theorem sumT_wr (W R a:Nat) (f:Nat->Nat) (h: ∀t,t<W+R->f t=if t<W then a else 0):sumT (W+R) f=W*a:=by
 induction R with
 |zero=>
  rw [Nat.add_zero]at h⊢
  have e:sumT W f=sumT W (fun _=>a):=sumT_congr (fun t ht=>by rw [h t ht,if_pos ht])
  rw [e]
  clear e h
  induction W with
  |zero=>simp [sumT]
  |succ W ih=>rw [sumT_succ,ih,Nat.succ_mul]
 |succ R ih=>
  rw [<-Nat.add_assoc,sumT_succ,ih (fun t ht=>h t (by omega)),h (W+R) (by omega),if_neg (by omega),Nat.add_zero]
theorem seq_ends {p:Pg} {B:MB} (hp:p.Ok) (hN:NewM p B) (hroom:B.room=p.room) (hr:1<=p.room/\p.room<=16) {N W R rd:Nat} (h1:1<=N) (h3:N<=3) (hrd:1<=rd) (hrd3:rd<=3) (hW:W<=2) (hR:R<=2)
 (hm:p.m=18+N) (hZ: ∀i,p.Z i=0) (hn:p.n=W+R) (hcd: ∀t,t<p.n->(p.cd t).len=(sqT N rd t (decide (t<W))).length/\(p.cd t).F=fun i=>(sqT N rd t (decide (t<W))).getD i default)
 (l:List (Int×Int)) (hl:l.length<=100000):let S:=tRun B (t0 p) l
 EvK S.evs/\S.evs.length<=999999000/\(∃g,SqI (sqC N W R rd) (vw S) g)/\
 ((∀t,t<p.n->(thM S t).st=2/\bufM S t=[])->S.mem.getD 18 0=((W*rd:Nat):Int)/\S.mem.getD 16 0=2*((W*rd:Nat):Int)/\S.mem.getD 17 0=0):=by
 intro S
 have hB:=newM_ok hN (by omega) (by omega)
 have h0:=t0_ok hp hN
 have hw:Wf B (t0 p):=⟨h0,by show ((List.range p.m).map p.Z).length=B.m;rw [List.length_map,List.length_range,hN.m],by rw [hroom];exact hr.1⟩
 have hnc:B.codes.length=p.n:=hN.n
 have hC:(sqC N W R rd).In B:=by
  refine ⟨by rw [hnc,hn];rfl,fun t ht=>?_⟩
  have ht':t<p.n:=by rw [hn];exact ht
  have h1':=hN.cd t ht'
  have h2:=hcd t ht'
  have e1:(sqC N W R rd).sn t=sqSn N rd (decide (t<W)):=by unfold sqC sqSn;dsimp only;by_cases c:t<W<;>simp [c]
  have e2:(sqC N W R rd).bs t=bsQ (if decide (t<W)=true then sgW N else sgR N):=by unfold sqC;dsimp only;by_cases c:t<W<;>simp [c]
  have e3:(fun n=>sgL t ((sqC N W R rd).bs t n) ((sqC N W R rd).bs t ((sqC N W R rd).gn t n)+1) ((sqC N W R rd).kd t n))=sqPc N t (decide (t<W)):=by
   funext n
   rw [e2]
   unfold sqC sqPc;dsimp only;by_cases c:t<W<;>simp [c]
  rw [e1,e3,e2]
  refine coded_of rfl (fun n _=>sqPc_len N t _ n) (by rw [h1'.1,h2.1];rfl) (by rw [h1'.2.1,h2.2];rfl) (fun n hn' op hop=>?_) ?_ (by rw [hN.m,hm];omega)
  ·rw [hN.m,hm]
   exact sqPc_ok (by omega) h1 h3 hrd hn' op hop
  ·have :=bsQ_le (if decide (t<W)=true then sgW N else sgR N) (sqSn N rd (decide (t<W)));have :=sqSn_le (N:=N) h3 hrd3 (decide (t<W));omega
 have hth: ∀t,(vw (t0 p)).th t=tha:=fun t=>by
  show (List.replicate p.n tha).getD t tha=tha
  rw [List.getD_eq_getElem?_getD,List.getElem?_replicate];split<;>rfl
 have hbf: ∀t,(vw (t0 p)).bf t=[]:=fun t=>by
  show (List.replicate p.n ([]:List Ent)).getD t []=[]
  rw [List.getD_eq_getElem?_getD,List.getElem?_replicate];split<;>rfl
 have hmem: ∀a,(vw (t0 p)).mem a=0:=fun a=>by
  show ((List.range p.m).map p.Z).getD a 0=0
  rw [List.getD_eq_getElem?_getD,List.getElem?_map]
  cases (List.range p.m)[a]? with
  |none=>rfl
  |some i=>exact hZ i
 obtain ⟨g,H⟩:=sq_run hB hC l hw ⟨_,sq_start (sqC_ok h1 h3 hrd hrd3 hW hR) hth hbf hmem rfl⟩
 have hc:=tRun_evc (B:=B) (K:=999999000) l (n:=0) (s:=t0 p) (by
  unfold EvC
  show 0+tot (List.replicate p.n [])+_<=_
  rw [tot_nil];omega)
 refine ⟨tRun_evk hB l h0 (fun x hx=>by cases hx),?_,⟨g,H⟩,fun hd=>?_⟩
 ·unfold EvC at hc
  show (tRun B (t0 p) l).evs.length<=_
  omega
 ·have hfin: ∀t,t<W+R->g.h≠some t/\g.c t=if t<W then rd else 0:=fun t ht=>by
   obtain ⟨d1,d2⟩:=hd t (by rw [hn];exact ht)
   obtain ⟨n,o,hp2,q|q⟩:=H.loc t ht
   ·have e:(thM S t).st=0∨(thM S t).st=1:=q.2.1
    omega
   ·have q4:=q.2.2.2
    have hbt:(vw S).bf t=[]:=d2
    by_cases c:t<W
    ·have ew:(sqC N W R rd).isW t=true:=decide_eq_true c
     rw [ew,if_pos rfl,hbt]at q4
     rw [if_pos c]
     refine ⟨?_,q4.c⟩
     rcases q4.b with ⟨q5,_⟩|⟨_,q5,_⟩
     ·exact of_decide_eq_false q5
     ·cases q5
    ·have ew:(sqC N W R rd).isW t=false:=decide_eq_false c
     rw [ew,if_neg (by decide)]at q4
     rw [if_neg c]
     exact ⟨of_decide_eq_false q4.1.hd,q4.1.c⟩
  have hh:g.h=none:=by
   cases h:g.h with
   |none=>rfl
   |some u=>exact absurd h (hfin u (H.hlt u h)).1
  have ho:g.odd=false:=by
   cases h:g.odd with
   |false=>rfl
   |true=>exact absurd hh (H.od h)
  have hV:g.V=W*rd:=H.V.trans (sumT_wr W R rd g.c (fun t ht=>(hfin t ht).2))
  have hfl:=H.ev ho
  refine ⟨?_,?_,?_⟩
  ·have :=H.data 0 h1
   rw [hfl,if_neg (by omega),hV]at this
   exact this.trans (Int.add_zero _)
  ·have :=H.m16
   rw [ho,hV]at this
   exact this.trans (Int.add_zero _)
  ·have :=H.m17
   rw [hh]at this
   exact this
structure CW (W0 W:World) (A:Option Addr) (N c:Nat) (L:List Ins):Prop where
 n:N=L.length
 own:W.ownsRow W0.heap.size 75 5 (.slice A N c) N (L.flatMap Ins.cells)
 below:Below W0.heap.size W0 W
section
variable {W0 W W':World} {A:Option Addr} {N c:Nat} {L:List Ins}
theorem CW.step (h:CW W0 W A N c L) (hb:Below W.heap.size W W'):CW W0 W' A N c L:=⟨h.n,own_below h.own (Nat.le_refl _) hb,step_below h.below hb⟩
theorem CW.app {ops:Array Oper} {rest:List Oper} {o:Oper} {a:Act} {Q:Exit->Act->World->Prop} (h:CW W0 W A N c L) (hgd:o.guard=none) (s x:Operand)
 (ho:o.op= .call {callee:= .builtin .append,args:= #[s,x],argTypes:= #[50,50]}) (l2:List Ins) (m M cx:Nat) (hm:l2.length=m) (hM:M=N+m) (hs:a.eval s= .slice A N c) {Ax:Option Addr} (hx:a.eval x= .slice Ax m cx)
 (hr:Sl W Ax (m*5) (fun k=>(l2.flatMap Ins.cells).getD k undef)) (hb:M<=1000000)
 (K: ∀A' c' w',CW W0 w' A' M c' (L++l2)->wpList Tryz.prog ops Q rest (a.put o.dst (.slice A' M c')) w'):wpList Tryz.prog ops Q (o::rest) a W:=by
 obtain ⟨hn,hown,hbel⟩:=h
 subst hm hn
 refine wpList_append_ins hgd s x ho W0.heap.size (.slice A L.length c) L l2 hs hown Ax cx hx hr (by omega) hbel.size ?_
 intro A' c' w' h1 h2 h3
 have e:(L++l2).length=M:=by rw [List.length_append];exact hM.symm
 rw [e]at h1⊢
 exact K A' c' w' ⟨e.symm,h1,hbel.trans (h3.mono (Nat.le_refl _))⟩
end
structure CodeIn (W:World) (v:Value) (C:List Ins) (m:Nat):Prop where
 is_: ∃og cap,v= .slice (some ⟨og,0,none⟩) m cap/\og<W.heap.size/\m<=cap/\cap<=maxLen/\SlE W (some ⟨og,0,none⟩) m 5 (fun i=>(C.getD i default).cells)
 len:C.length=m
theorem CodeIn.step {W W':World} {v:Value} {C:List Ins} {m:Nat} (h:CodeIn W v C m) (hb:Below W.heap.size W W'):CodeIn W' v C m:=by
 obtain ⟨⟨og,cap,e,hog,hcap,hcm,hs⟩,hl⟩:=h
 exact ⟨⟨og,cap,e,Nat.lt_of_lt_of_le hog hb.size,hcap,hcm,SlE.step hs hb⟩,hl⟩
theorem CodeIn.moved {W:World} {v:Value} {C:List Ins} {m:Nat} (h:CodeIn W v C m) (hok: ∀x∈C,x.Ok) (hm:m<=100000) (z:Int) (hz0:0<=z) (hz1:z<=4294967295) (hT:Tab W):
 Calls Tryz.prog 35 #[v,.int .i64 z] W fun e W'=> ∃cs:Array Value,e= .returned (.slice (some ⟨W.heap.size,0,none⟩) m m)/\Blk W' W.heap.size 75 cs/\(∀i,i<m->InsAt cs i (movedI z (C.getD i default)))/\Below W.heap.size W W':=by
 obtain ⟨⟨og,cap,rfl,hog,hcap,hcm,hs⟩,hl⟩:=h
 have hget: ∀i,i<m->C.getD i default∈C:=fun i hi=>by
  have hi':i<C.length:=by omega
  rw [List.getD_eq_getElem?_getD,List.getElem?_eq_getElem hi'];exact List.getElem_mem hi'
 refine (moved_any ⟨some ⟨og,0,none⟩,m,cap,fun i=>C.getD i default⟩ z ⟨hcap,hcm,fun i hi=>hok _ (hget i hi)⟩ hm hz0 hz1 W hT hs).mono ?_
 rintro e W' ⟨cs,h1,h2,_,h3,h4⟩
 exact ⟨cs,h1,h2,h3,h4⟩
theorem grown_below {W0 W W':World} {r:Option Nat} (h:W0.grownBy W r) (hb:Below W.heap.size W W'):W0.grownBy W' r:=
 ⟨hb.os.trans h.os,hb.tape.trans h.tape,hb.output.trans h.output,Nat.le_trans h.size hb.size,fun i hi hn=>(hb.block i (Nat.lt_of_lt_of_le hi h.size)).trans (h.block i hi hn)⟩
theorem grown_row {W0 W W':World} {r q:Option Nat} (h:W0.grownBy W r) (hg:W.grownBy W' q) (hq: ∀g,q=some g->W0.heap.size<=g∨r=some g):W0.grownBy W' r:=
 ⟨hg.os.trans h.os,hg.tape.trans h.tape,hg.output.trans h.output,Nat.le_trans h.size hg.size,fun i hi hn=>(hg.block i (Nat.lt_of_lt_of_le hi h.size) (fun e=>by
  rcases hq i e.symm with q|q
  ·omega
  ·exact hn q.symm)).trans (h.block i hi hn)⟩
theorem CdRow.far {W W':World} {base:Nat} {v:Value} {L:List (List Ins)} {g:Nat} {t:TypeId} {cs:Array Value} (h:CdRow W base v L) (hb:Blk W g t cs) (h1:t≠50) (h2:t≠75) (hg:W.grownBy W' (some g)):CdRow W' base v L:=by
 obtain ⟨vals,q1,q2,q3⟩:=h
 exact ⟨vals,q1,row_grown q2 hg (row_ne hb q2 h1),fun i hi=>row_grown (q3 i hi) hg (row_ne hb (q3 i hi) h2)⟩
theorem CdRow.cap {W:World} {base:Nat} {v:Value} {L:List (List Ins)} (h:CdRow W base v L): ∃A c,v= .slice A L.length c:=by
 obtain ⟨vals,q1,q2,q3⟩:=h
 obtain ⟨A,c,e,_,_⟩:=own_cap q2
 exact ⟨A,c,e⟩
theorem CdRow.app {W0 W:World} {base:Nat} {A AA:Option Addr} {n N c cv:Nat} {L:List (List Ins)} {l:List Ins} {ops:Array Oper} {rest:List Oper} {o:Oper} {a:Act} {Q:Exit->Act->World->Prop} (h:CdRow W base (.slice A n cv) L) (hn:n=L.length) (hc:CW W0 W AA N c l) (hb0:base<=W0.heap.size) (hgd:o.guard=none) (s x:Operand)
 (ho:o.op= .call {callee:= .builtin .append,args:= #[s,x],argTypes:= #[26,26]}) (hs:a.eval s= .slice A n cv) (hx:a.eval x= .slice (some ⟨W.heap.size,0,none⟩) 1 1) (hL:n<=100)
 (K: ∀A' c' w',CdRow w' base (.slice A' (n+1) c') (L++[l])->(∀pb t cs,Blk W pb t cs->t≠50->Blk w' pb t cs)->(∀(W5:World) (r:Option Nat),W5.heap.size=base->W5.grownBy W r->W5.grownBy w' r)->wpList Tryz.prog ops Q rest (a.put o.dst (.slice A' (n+1) c')) w'):wpList Tryz.prog ops Q (o::rest) a (W.alloc (.cells #[.slice AA N c] 50)):=by
 have hal:=(Below.refl W.heap.size W).alloc (Nat.le_refl _) (.cells #[.slice AA N c] 50)
 obtain ⟨vals,q1,q2,q3⟩:=h.below hal
 have hcs:=hc.step hal
 subst hn
 obtain ⟨i0,hi,hy0,hy1,hy2⟩:=info_parts slc_info5
 have hcn:=hcs.n
 have hbW:base<=W.heap.size:=Nat.le_trans hb0 hc.below.size
 refine wpList_append_sl (W.alloc (.cells #[.slice AA N c] 50)) hgd s x 26 ho base 50 i0 _ 1 24 Tryz.underlying26 hi hy0 hy1 hy2 rfl (by omega) (.slice A L.length cv) L.length vals hs q2 (some ⟨W.heap.size,0,none⟩) 1 1 (fun _=> .slice AA N c) hx (fun _=>⟨_,0,rfl,by simp,fun i hi=>?_⟩) (fun _ _=>rfl) (by unfold maxLen;omega) (by omega) (by simp;omega) ?_
 ·obtain rfl:i=0:=by omega
  exact ((Blk.new W 50 #[.slice AA N c]).cell 0).trans rfl
 intro v' w' h1 h2 _
 have e1:(List.range (1*1)).map (fun _=>Value.slice AA N c)=[Value.slice AA N c]:=rfl
 rw [e1]at h1
 obtain ⟨A',c',rfl,_,_⟩:=own_cap h1
 have hown:(W.alloc (.cells #[.slice AA N c] 50)).ownsRow W0.heap.size 75 5 (.slice AA N c) l.length (l.flatMap Ins.cells):=hcn▸hcs.own
 refine K A' c' w' (CdRow.snoc q1 q2 q3 hown hb0 h2 h1) (fun pb t cs hb ht=>?_) (fun W5 r hz hg=>?_)
 ·exact (hb.alloc _).grown h2 (row_ne (hb.alloc _) q2 ht)
 ·exact grown_row (grown_below hg hal) h2 (fun g e=> .inl (by rw [hz];exact (own_in q2 g e).1))
theorem map_range {C:List Ins} {m:Nat} (h:C.length=m) (f:Ins->Ins):C.map f=(List.range m).map fun i=>f (C.getD i default):=by
 subst h
 refine List.ext_getElem? fun i=>?_
 rw [List.getElem?_map,List.getElem?_map]
 rcases Nat.lt_or_ge i C.length with c|c
 ·rw [List.getElem?_range c,List.getElem?_eq_getElem c]
  simp [List.getD_eq_getElem?_getD,List.getElem?_eq_getElem c]
 ·rw [List.getElem?_eq_none c,List.getElem?_eq_none (l:=List.range C.length) (by simpa using c)];rfl
end Go.Proofs.YtmhfpjnkjlhbpaaGreatDoor
