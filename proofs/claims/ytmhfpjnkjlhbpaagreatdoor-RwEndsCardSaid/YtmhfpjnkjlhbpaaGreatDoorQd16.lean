/- core.Step over an abstract port: the whole. Regions that draw their order and hold a call that breaks what the operations ahead of it lean on, with more operations behind it: m is that call. The machines in plain Lean: what a pick does. A machine's moves with boxes beside it: new blocks that the machine does not own. What steps keep (plain): registers are words; what each function of a port keeps, a step keeps. -/
import Derived.Test.YtmhfpjnkjlhbpaaGreatDoorQd11
import Derived.Test.YtmhfpjnkjlhbpaaGreatDoorQd12
import Derived.Test.YtmhfpjnkjlhbpaaGreatDoorQd13
import Derived.Test.YtmhfpjnkjlhbpaaGreatDoorQd14
import Derived.Test.YtmhfpjnkjlhbpaaGreatDoorQd15
import Derived.Test.YtmhfpjnkjlhbpaaGreatDoorQd02
import Derived.Test.YtmhfpjnkjlhbpaaGreatDoorQd08
import Derived.Laws.Closers25b
namespace Go.Proofs.YtmhfpjnkjlhbpaaGreatDoor
open Go.ChangeShapes Go.WideShapes Go.ChangeAt Go.RowKit Go.Deep
set_option linter.unusedVariables false
set_option maxRecDepth 100000
set_option linter.unusedSimpArgs false
def insR {σ:Type} (O:Ops σ) (s:σ) (t:Th) (i:Ins):Th×σ:=
 if DrainP i.op/\O.empty s=false then (t,O.flush s)
 else if i.op=17/\O.room s=false then (t,O.flush s)
 else if i.op=0 then ({t with st:=2},O.note s ⟨12,0,t.pc,0,0,0,0,false⟩)
 else if jmpB i.op=true then ({t with pc:=if goesB i.op (t.regs i.a.toNat)=true then i.k else t.pc+1},s)
 else if askB i.op=true then ({(asksR O s t i.op i.a.toNat i.c.toNat (addrF t i).toNat).1 with pc:=t.pc+1},(asksR O s t i.op i.a.toNat i.c.toNat (addrF t i).toNat).2)
 else ({(plainR O s t i.op.toNat i.a.toNat i.b.toNat i.c.toNat i.k 0).1 with pc:=t.pc+1},(plainR O s t i.op.toNat i.a.toNat i.b.toNat i.c.toNat i.k 0).2)
def stepR {σ:Type} (O:Ops σ) (s:σ) (t:Th) (c:Cd):Th×σ:=
 if t.st≠0 then (t,s)
 else if t.pc<0∨(c.len:Int)<=t.pc then ({t with st:=2},O.note s ⟨12,0,t.pc,0,0,0,0,false⟩)
 else if rightB (c.F t.pc.toNat) c.len=false then ({t with st:=3},O.note s ⟨13,0,t.pc,0,0,0,0,false⟩)
 else if askB (c.F t.pc.toNat).op=true/\(O.size:Int)<=addrF t (c.F t.pc.toNat)then ({t with st:=3},O.note s ⟨13,0,t.pc,0,0,0,0,false⟩)
 else insR O s t (c.F t.pc.toNat)
theorem step_any {σ:Type} {O:Ops σ} {V:Pv} {Inv:σ->(Nat->Prop)->World->Prop} {can:Nat->σ->Prop} (hP:PortOk O V Inv can) (n:Nat) (s:σ) (own:Nat->Prop) (t:Th) (c:Cd) (W:World)
 (hI:Inv s own W) (hT:Tab W) (hca:c.At W) (hco:c.Ok) (hsz:(O.size:Int)<=9223372036854775807) (hregs: ∀r,0<=t.regs r/\t.regs r<=4294967295) (hc:can (n+3) s):
 Calls Tryz.prog 126 #[t.val,c.val,V.val O.size] W fun e W'=>e= .returned (stepR O s t c).1.val/\Moves Inv (stepR O s t c).2 own W W':=by
 have hc1:can (n+1) s:=hP.less _ _ (hP.less _ _ hc)
 unfold stepR
 by_cases hst:t.st=0
 case neg=>rw [if_pos hst];exact step_stopped hP n s own t c W hI hT hca hco hst
 rw [if_neg (not_not_intro hst)]
 by_cases hpc:t.pc<0∨(c.len:Int)<=t.pc
 case pos=>rw [if_pos hpc];exact step_out hP n s own t c W hI hT hca hco hst hpc hc1
 rw [if_neg hpc]
 obtain ⟨p,hp⟩: ∃p:Nat,t.pc=(p:Int):=⟨t.pc.toNat,by omega⟩
 have hpl:p<c.len:=by omega
 rw [show t.pc.toNat=p by omega]
 by_cases hr:rightB (c.F p) c.len=false
 case pos=>rw [if_pos hr];exact step_wrong hP n s own t c W hI hT hca hco hst p hp hpl hr hc1
 rw [if_neg hr]
 have hr:rightB (c.F p) c.len=true:=by simpa using hr
 by_cases hk:askB (c.F p).op=true
 ·by_cases hbig:(O.size:Int)<=addrF t (c.F p)
  ·rw [if_pos ⟨hk,hbig⟩];exact step_far hP n s own t c W hI hT hca hco hst p hp hpl hr hk hsz hbig hc1
  rw [if_neg (fun h=>hbig h.2)]
  have hlt:addrF t (c.F p)<(O.size:Int):=by omega
  unfold insR
  have hk':=of_decide_eq_true hk
  have h0:(c.F p).op≠0:=by omega
  have hj:jmpB (c.F p).op=false:=decide_eq_false (by omega)
  by_cases hdr:DrainP (c.F p).op
  ·have h17:(c.F p).op≠17:=by unfold DrainP at hdr;omega
   cases hem:O.empty s
   ·rw [if_pos ⟨hdr,rfl⟩];exact step_drains_ask hP n s own t c W hI hT hca hco hst p hp hpl hr hk hsz hlt hdr hem hc1
   ·rw [if_neg (fun h=>by cases h.2),if_neg (fun h=>h17 h.1),if_neg h0,if_neg (by simp [hj]),if_pos hk]
    exact step_ask_drained hP n s own t c W hI hT hca hco hst p hp hpl hr hk hsz hlt hdr hem h0 hj hregs hc
  ·rw [if_neg (fun h=>hdr h.1)]
   by_cases h17:(c.F p).op=17
   ·cases hem:O.room s
    ·rw [if_pos ⟨h17,rfl⟩];exact step_full hP n s own t c W hI hT hca hco hst p hp hpl hr hk hsz hlt h17 hem hc1
    ·rw [if_neg (fun h=>by cases h.2),if_neg h0,if_neg (by simp [hj]),if_pos hk]
     exact step_ask_store hP n s own t c W hI hT hca hco hst p hp hpl hr hk hsz hlt h17 hem h0 hj hregs hc
   ·rw [if_neg (fun h=>h17 h.1),if_neg h0,if_neg (by simp [hj]),if_pos hk]
    exact step_ask hP n s own t c W hI hT hca hco hst p hp hpl hr hk hsz hlt hdr h17 h0 hj hregs hc
 ·rw [if_neg (fun h=>hk h.1)]
  have hk:askB (c.F p).op=false:=by simpa using hk
  unfold insR
  have hk':=of_decide_eq_false hk
  by_cases hdr:DrainP (c.F p).op
  ·have h17:(c.F p).op≠17:=by unfold DrainP at hdr;omega
   have h0:(c.F p).op≠0:=by unfold DrainP at hdr;omega
   have hj:jmpB (c.F p).op=false:=decide_eq_false (by unfold DrainP at hdr;omega)
   cases hem:O.empty s
   ·rw [if_pos ⟨hdr,rfl⟩];exact step_drains_plain hP n s own t c W hI hT hca hco hst p hp hpl hr hk hdr hem hc1
   ·rw [if_neg (fun h=>by cases h.2),if_neg (fun h=>h17 h.1),if_neg h0,if_neg (by simp [hj]),if_neg (by simp [hk])]
    exact step_plain_drained hP n s own t c W hI hT hca hco hst p hp hpl hr hk hdr hem h0 hj hregs hc
  ·have h17:(c.F p).op≠17:=by omega
   rw [if_neg (fun h=>hdr h.1),if_neg (fun h=>h17 h.1)]
   by_cases h0:(c.F p).op=0
   ·rw [if_pos h0];exact step_halt hP n s own t c W hI hT hca hco hst p hp hpl hr hk hdr h17 h0 hc
   rw [if_neg h0]
   by_cases hj:jmpB (c.F p).op=true
   ·rw [if_pos hj]
    by_cases hg:goesB (c.F p).op (t.regs (c.F p).a.toNat)=true
    ·rw [if_pos hg];exact step_jump_yes hP n s own t c W hI hT hca hco hst p hp hpl hr hk hdr h17 h0 hj hg hc
    ·rw [if_neg hg];exact step_jump_no hP n s own t c W hI hT hca hco hst p hp hpl hr hk hdr h17 h0 hj (by simpa using hg) hc
   ·rw [if_neg hj,if_neg (by simp [hk])]
    exact step_plain hP n s own t c W hI hT hca hco hst p hp hpl hr hk hdr h17 h0 (by simpa using hj) hregs hc
end Go.Proofs.YtmhfpjnkjlhbpaaGreatDoor
namespace Go.Proofs.YtmhfpjnkjlhbpaaGreatDoor
open Go.ChangeShapes Go.WideShapes Go.ChangeAt Go.RowKit Go.Deep
set_option linter.unusedVariables false
set_option maxRecDepth 100000
section
variable {P:Program} {md:Region.Mode} {ops:Array Oper} {Q:Exit->Act->World->Prop} {S:World->Prop} {m:Nat}
def waitsN (md:Region.Mode) (ops:Array Oper):Nat->Nat->Nat->Bool
 |0,_,_=>false
 |f+1,m,i=>match ops[m]? with
  |none=>false
  |some o=>o.after.any fun e=>Region.binds md e&&(e.on==i||waitsN md ops f e.on i)
theorem waitsN_listed {L:Array Bool} (hc:Closed md ops L): ∀(f m i:Nat),waitsN md ops f m i=true->L.getD m false=true->L.getD i false=true
 |0,_,_,h,_=>by cases h
 |f+1,m,i,h,hm=>by
  unfold waitsN at h
  cases ho:ops[m]? with
  |none=>rw [ho]at h;cases h
  |some o=>
   rw [ho]at h
   obtain ⟨e,he,hb⟩:=Array.any_eq_true'.1 (show o.after.any (fun e=>Region.binds md e&&(e.on==i||waitsN md ops f e.on i))=true from h)
   simp only [Bool.and_eq_true,Bool.or_eq_true,beq_iff_eq]at hb
   obtain ⟨hb1,hb2⟩:=hb
   have h1:=hc m o ho hm e he hb1
   rcases hb2 with hb2|hb2
   ·rwa [hb2]at h1
   ·exact waitsN_listed hc f e.on i hb2 h1
theorem wpAnyG_firstT {T:World->Prop} {i:Nat} {oi:Oper} {v:Value} (hi:ops[i]?=some oi) (hsel: ∀(j:Nat) (o:Oper) cs b,ops[j]?=some o->o.op≠ .select cs b)
 (hQ: ∀c a w,Q (.panic c) (a.put oi.dst v) w->Q (.panic c) a w) (hne:i≠m) (hl: ∀L,Closed md ops L->L.getD m false=true->L.getD i false=true) (hT: ∀w,S w->T w):
 ∀(f:Nat) (L:Array Bool) (a:Act) (w:World),
  (∀j oj,ops[j]?=some oj->j≠i->L.getD j true=false->(∀e∈oj.after,Region.binds md e=true->e.on≠i)->oi.apart ops oj=true)->
  Closed md ops L->i∈Region.ready md ops L->YieldsIf P ops T oi v a->(L.getD m false=false->S w)->
  wpAnyG P md ops Q S m f (L.setIfInBounds i true) (a.put oi.dst v) w->wpAnyG P md ops Q S m (f+1) L a w
 |0,L,a,w,_,hcl,hr,hy,hS,H=>by
  have hun:=unlisted_both (mem_ready.1 hr).1
  have hTw:T w:=hT w (hS (by
   cases hq:L.getD m false
   ·rfl
   ·rw [hl L hcl hq]at hun;cases hun))
  refine ⟨fun h=>(by rw [h]at hr;cases hr),fun j hj=>?_⟩
  by_cases hji:j=i
  ·rw [hji];exact hy.wpOp hi hTw ⟨fun _ h=>hS h,H⟩
  ·have :=ready_mono hj hji
   rw [H.1]at this
   cases this
 |f+1,L,a,w,hfree,hcl,hr,hy,hS,H=>by
  have hun:=unlisted_both (mem_ready.1 hr).1
  have hTw:T w:=hT w (hS (by
   cases hq:L.getD m false
   ·rfl
   ·rw [hl L hcl hq]at hun;cases hun))
  refine ⟨fun h=>(by rw [h]at hr;cases hr),fun j hj=>?_⟩
  by_cases hji:j=i
  ·rw [hji];exact hy.wpOp hi hTw ⟨fun _ h=>hS h,H⟩
  ·obtain ⟨hjun,oj,hoj,hall⟩:=mem_ready.1 hj
   have hnot: ∀e∈oj.after,Region.binds md e=true->e.on≠i:=fun e he hb heq=>by
    have :=hall e he hb
    rw [heq,hun]at this
    cases this
   have h2:=wpOp_putIf hoj (hfree j oj hoj hji hjun hnot) (fun cs b=>hsel i oi cs b hi) (fun cs b=>hsel j oj cs b hoj) hQ hy (H.2 j (ready_mono hj hji))
   refine wpOp_mono (fun a' w' h3=>?_) h2
   obtain ⟨h31,h32,h33⟩:=h3
   have hSw:j≠m->L.getD m false=false->S w':=fun h1 h4=>h32 h1 (by rw [getD_set_ne false hne];exact h4)
   refine ⟨hSw,wpAnyG_firstT hi hsel hQ hne hl hT f (L.setIfInBounds j true) a' w' (fun k ok hk hki hu hno=>hfree k ok hk hki ?_ hno) (hcl.set hj) (ready_mono hr (Ne.symm hji)) h31 (fun hm=>?_) ?_⟩
   ·by_cases hjk:j=k
    ·rw [<-hjk];exact hjun
    ·rwa [getD_set_ne true hjk]at hu
   ·by_cases hjm:j=m
    ·subst hjm
     rw [unlisted_true hjun]at hm
     cases hm
    ·rw [getD_set_ne false hjm]at hm
     exact hSw hjm hm
   ·rw [Array.setIfInBounds_comm _ _ hji]
    exact h33
theorem takeT {i:Nat} {oi:Oper} {v:Value} {f:Nat} {L:Array Bool} {a:Act} {w:World} (hi:ops[i]?=some oi)
 (hs:Region.noSelect ops=true) (hf:Region.free md ops L i=true) (hr:(Region.ready md ops L).contains i=true) (hl:(waitsN md ops 12 m i&&closedB md ops L&&decide (i≠m))=true)
 (hQ: ∀c a w,Q (.panic c) (a.put oi.dst v) w->Q (.panic c) a w) (hy:YieldsIf P ops S oi v a) (hS:S w)
 (h:wpAnyG P md ops Q S m f (L.setIfInBounds i true) (a.put oi.dst v) w):wpAnyG P md ops Q S m (f+1) L a w:=by
 simp only [Bool.and_eq_true,decide_eq_true_eq]at hl
 exact wpAnyG_firstT hi (Region.noSelect_spec hs) hQ hl.2 (fun L hc hm=>waitsN_listed hc 12 m i hl.1.1 hm) (fun _ h=>h) f L a w (Region.free_spec hi hf) (closedB_spec hl.1.2) (by simpa using hr) hy (fun _=>hS) h
theorem onlyM {o:Oper} {f:Nat} {L:Array Bool} {a:Act} {w:World} (hr:Region.ready md ops L=[m]) (ho:ops[m]?=some o)
 (h: ∀K':Act->World->Prop,Go.Shut (∀a w,wpAnyG P md ops Q S m f (L.setIfInBounds m true) a w->K' a w)->if Region.wanted o (yielded ops a.tmps)=true then Oper.wp P o a w K' Q else K' (a.put o.dst undef) w):
 wpAnyG P md ops Q S m (f+1) L a w:=
 ⟨fun h0=>(by rw [hr]at h0;cases h0),fun j hj=>by
  rw [hr]at hj
  obtain rfl:j=m:=by simpa using hj
  exact wpOp_step ho (fun K' hK=>h K' (fun a w hW=>hK a w ⟨fun e=>absurd rfl e,hW⟩))⟩
theorem onlyL {i:Nat} {o:Oper} {f:Nat} {L:Array Bool} {a:Act} {w:World} (hm:L.getD m false=true) (hr:Region.ready md ops L=[i]) (ho:ops[i]?=some o)
 (h: ∀K':Act->World->Prop,Go.Shut (∀a w,wpAnyG P md ops Q S m f (L.setIfInBounds i true) a w->K' a w)->if Region.wanted o (yielded ops a.tmps)=true then Oper.wp P o a w K' Q else K' (a.put o.dst undef) w):
 wpAnyG P md ops Q S m (f+1) L a w:=
 ⟨fun h0=>(by rw [hr]at h0;cases h0),fun j hj=>by
  rw [hr]at hj
  obtain rfl:j=i:=by simpa using hj
  exact wpOp_step ho (fun K' hK=>h K' (fun a w hW=>hK a w ⟨fun _ e=>absurd (hm.symm.trans e) (by decide),hW⟩))⟩
theorem AllG.consM {f:Nat} {L:Array Bool} {a:Act} {w:World} {o:Oper} {rs:List Nat} (ho:ops[m]?=some o)
 (h: ∀K':Act->World->Prop,Go.Shut (∀a w,wpAnyG P md ops Q S m f (L.setIfInBounds m true) a w->K' a w)->if Region.wanted o (yielded ops a.tmps)=true then Oper.wp P o a w K' Q else K' (a.put o.dst undef) w)
 (hs:AllG P md ops Q S m f L a w rs):AllG P md ops Q S m f L a w (m::rs):=fun j hj=>by
 rcases List.mem_cons.1 hj with rfl|hj
 ·exact wpOp_step ho (fun K' hK=>h K' (fun a w hW=>hK a w ⟨fun e=>absurd rfl e,hW⟩))
 ·exact hs j hj
theorem lastL {i:Nat} {o:Oper} {f:Nat} {L:Array Bool} {a:Act} {w:World} (hm:L.getD m false=true) (hr:Region.ready md ops L=[i]) (ho:ops[i]?=some o) (hd:Region.ready md ops (L.setIfInBounds i true)=[])
 (h: ∀K':Act->World->Prop,Go.Shut (∀a w,Q .normal a w->K' a w)->if Region.wanted o (yielded ops a.tmps)=true then Oper.wp P o a w K' Q else K' (a.put o.dst undef) w):
 wpAnyG P md ops Q S m (f+1) L a w:=
 ⟨fun h0=>(by rw [hr]at h0;cases h0),fun j hj=>by
  rw [hr]at hj
  obtain rfl:j=i:=by simpa using hj
  refine wpOp_step ho (fun K' hK=>h K' (fun a w hq=>hK a w ⟨fun _ e=>absurd (hm.symm.trans e) (by decide),?_⟩))
  cases f with
  |zero=>exact ⟨hd,hq⟩
  |succ f=>exact ⟨fun _=>hq,by rw [hd];simp⟩⟩
theorem step_store_mid {op:Oper} {a:Act} {w:World} {K:Act->World->Prop} {Q:Exit->Act->World->Prop} {E:Prop} (hgd:op.guard=none) (ty:TypeId) (x y:Operand) (ho:op.op= .store ty x y)
 (g o:Nat) (cells:Array Value) (hx:a.eval x= .pointer (some ⟨g,o,none⟩)) (hy:a.eval y= .agg cells) (ht:w.there g o cells.size) (hi:(P.info? ty).map (·.size)=some cells.size) (h1:cells.all (·.oneCell')=true)
 (h:K (a.put op.dst undef) (w.setCells g o cells.toList)):if Region.wanted op (yielded ops a.tmps)=true then Oper.wp P op a w K Q else E:=by
 have hw:Region.wanted op (yielded ops a.tmps)=true:=by simp [Region.wanted,hgd]
 rw [if_pos hw]
 exact wp_store_mid ty x y ho g o cells hx hy ht hi h1 h
end
end Go.Proofs.YtmhfpjnkjlhbpaaGreatDoor
namespace Go.Proofs.YtmhfpjnkjlhbpaaGreatDoor
open Go.ChangeShapes Go.WideShapes Go.ChangeAt Go.RowKit Go.Deep
set_option linter.unusedVariables false
set_option maxRecDepth 100000
set_option linter.unusedSimpArgs false
def tStep (B:MB) (s:Mst) (t:Nat):Mst:=let r:=stepR (tOps B t) s (s.ths.getD t tha) (B.codes.getD t cdd);{r.2 with ths:=r.2.ths.set t r.1}
def tPick (B:MB) (s:Mst) (x:Int×Int):Mst:=
 if x.2<0∨(s.ths.length:Int)<=x.2 then s else if x.1=0 then tStep B s x.2.toNat else if x.1=1 then tflush x.2.toNat s else if x.1=2 then rouseM x.2.toNat s else s
structure Bx where
 g:Nat
 t:TypeId
 cs:Array Value
def MovesX (L:Lay) (B:MB) (s:Mst) (own:Nat->Prop) (W Wc:World) (X:List Bx):Prop:=
 ∃own1,MInv L B s own1 Wc/\(∀i,own1 i->own i∨W.heap.size<=i)/\KeepOut own W Wc/\ ∀x∈X,Blk Wc x.g x.t x.cs/\ ¬own1 x.g/\W.heap.size<=x.g
section
variable {L:Lay} {B:MB} {s s':Mst} {own:Nat->Prop} {W Wc Wd:World} {X:List Bx} {x:Bx}
theorem MInv.lt (h:MInv L B s own W): ∀i,own i->i<W.heap.size:=fun i hi=>by obtain ⟨V,bcs,h⟩:=h;exact (h.lo i hi).2
theorem MInv.lo (h:MInv L B s own W): ∀i,own i->2<=i:=fun i hi=>by obtain ⟨V,bcs,h⟩:=h;exact (h.lo i hi).1
theorem MovesX.start (h:MInv L B s own W):MovesX L B s own W W []:=⟨own,h,fun i hi=> .inl hi,KeepOut.refl _ _,fun x hx=>by cases hx⟩
theorem MovesX.moves (h:MovesX L B s own W Wc X):Moves (MInv L B) s own W Wc:=by
 obtain ⟨own1,h1,h2,h3,_⟩:=h
 exact ⟨own1,h1,h2,h3⟩
theorem MovesX.blk (h:MovesX L B s own W Wc (x::X)):Blk Wc x.g x.t x.cs:=by
 obtain ⟨own1,h1,h2,h3,h4⟩:=h
 exact (h4 x (by simp)).1
theorem MovesX.tail (h:MovesX L B s own W Wc (x::X)):MovesX L B s own W Wc X:=by
 obtain ⟨own1,h1,h2,h3,h4⟩:=h
 exact ⟨own1,h1,h2,h3,fun y hy=>h4 y (by simp [hy])⟩
theorem MovesX.below (h:MovesX L B s own W Wc X) (k:Below Wc.heap.size Wc Wd):MovesX L B s own W Wd X:=by
 obtain ⟨own1,h1,h2,h3,h4⟩:=h
 exact ⟨own1,h1.below k,h2,h3.trans (KeepOut.of_below k) (fun i hi=> .inl hi: ∀i,own i->own i∨W.heap.size<=i),fun y hy=>⟨(h4 y hy).1.below k (h4 y hy).1.lt,(h4 y hy).2⟩⟩
theorem MovesX.drewN (h:MovesX L B s own W Wc X) (q:Nat):MovesX L B s own W (Wc.drewN q) X:=h.below ⟨rfl,rfl,rfl,Nat.le_refl _,fun _ _=>rfl⟩
theorem MovesX.drew (h:MovesX L B s own W Wc X):MovesX L B s own W Wc.drew X:=h.drewN 1
theorem MovesX.alloc (h:MovesX L B s own W Wc X) (t:TypeId) (cs:Array Value):MovesX L B s own W (Wc.alloc (.cells cs t)) (⟨Wc.heap.size,t,cs⟩::X):=by
 have hal:=(Below.refl Wc.heap.size Wc).alloc (Nat.le_refl _) (.cells cs t)
 obtain ⟨own1,h1,h2,h3,h4⟩:=h.below hal
 obtain ⟨own0,g1,g2,g3,g4⟩:=h
 refine ⟨own0,g1.below hal,g2,h3,fun y hy=>?_⟩
 rcases List.mem_cons.1 hy with rfl|hy
 ·exact ⟨Blk.new Wc t cs,fun e=>by have :=g1.lt _ e;exact Nat.lt_irrefl _ this,g3.size⟩
 ·exact ⟨(g4 y hy).1.below hal (g4 y hy).1.lt,(g4 y hy).2⟩
theorem MovesX.call (h:MovesX L B s own W Wc X) {f:FuncId} {args:Array Value} {R:Ending->Prop} (k: ∀own1,MInv L B s own1 Wc->Calls Tryz.prog f args Wc fun e W'=>R e/\Moves (MInv L B) s' own1 Wc W'):
 Calls Tryz.prog f args Wc fun e W'=>R e/\MovesX L B s' own W W' X:=by
 obtain ⟨own1,h1,h2,h3,h4⟩:=h
 refine (k own1 h1).mono fun e W' ⟨he,hm⟩=>⟨he,?_⟩
 obtain ⟨own2,k1,k2,k3⟩:=hm
 refine ⟨own2,k1,fun j hj=>?_,h3.trans k3 h2,fun y hy=>⟨k3.blk (h4 y hy).1 (h4 y hy).2.1,fun e=>?_,(h4 y hy).2.2⟩⟩
 ·rcases k2 j hj with h|h
  ·exact h2 j h
  ·exact .inr (Nat.le_trans h3.size h)
 ·rcases k2 _ e with q|q
  ·exact (h4 y hy).2.1 q
  ·have :=(h4 y hy).1.lt;omega
theorem MovesX.bind (h:MovesX L B s own W Wc X) (k: ∀own1,MInv L B s own1 Wc->Moves (MInv L B) s' own1 Wc Wd):MovesX L B s' own W Wd X:=by
 obtain ⟨own1,h1,h2,h3,h4⟩:=h
 obtain ⟨own2,k1,k2,k3⟩:=k own1 h1
 refine ⟨own2,k1,fun j hj=>?_,h3.trans k3 h2,fun y hy=>⟨k3.blk (h4 y hy).1 (h4 y hy).2.1,fun e=>?_,(h4 y hy).2.2⟩⟩
 ·rcases k2 j hj with h|h
  ·exact h2 j h
  ·exact .inr (Nat.le_trans h3.size h)
 ·rcases k2 _ e with q|q
  ·exact (h4 y hy).2.1 q
  ·have :=(h4 y hy).1.lt;omega
theorem MovesX.put (h:MovesX L B s own W Wc (x::X)) {cs:Array Value} (hd: ∀y∈X,y.g≠x.g) (hb:Blk Wd x.g x.t cs) (hg:Wc.grownBy Wd (some x.g)):MovesX L B s own W Wd (⟨x.g,x.t,cs⟩::X):=by
 obtain ⟨own1,h1,h2,h3,h4⟩:=h
 obtain ⟨b0,n0,l0⟩:=h4 x (by simp)
 refine ⟨own1,MInv.keep _ _ _ _ _ _ h1 ⟨fun i hi=>hg.block i (h1.lt i hi) (fun e=>n0 (by rw [<-Option.some.inj e];exact hi)),hg.size⟩,h2,h3.grown hg l0,fun y hy=>?_⟩
 rcases List.mem_cons.1 hy with rfl|hy
 ·exact ⟨hb,n0,l0⟩
 ·obtain ⟨b1,n1,l1⟩:=h4 y (by simp [hy])
  exact ⟨b1.grown hg (fun e=>hd y hy (Option.some.inj e)),n1,l1⟩
theorem MovesX.tab (h:MovesX L B s own W Wc X) (hlo: ∀i,own i->2<=i) (hT:Tab W):Tab Wc:=by
 obtain ⟨_,_,_,h3,_⟩:=h
 have hc: ∀(g j:Nat),g<2->Wc.cell? ⟨g,j,none⟩=W.cell? ⟨g,j,none⟩:=fun g j hg=>by
  have :=h3.block g (Nat.lt_of_lt_of_le hg hT.1) (fun e=>by have :=hlo g e;omega)
  simp only [World.cell?,this]
 exact ⟨Nat.le_trans hT.1 h3.size,fun j hj=>(hc _ j (by decide)).trans (hT.2.1 j hj),fun j hj=>(hc _ j (by decide)).trans (hT.2.2 j hj)⟩
theorem MovesX.size (h:MovesX L B s own W Wc X):W.heap.size<=Wc.heap.size:=by
 obtain ⟨_,_,_,h3,_⟩:=h
 exact h3.size
theorem MovesX.parts (h:MovesX L B s own W Wc X): ∃own1 V bcs,MParts L B s own1 Wc V bcs:=by
 obtain ⟨own1,⟨V,bcs,h1⟩,_⟩:=h
 exact ⟨own1,V,bcs,h1⟩
end
def RV (z:Int):Prop:=0<=z/\z<=4294967295
def RegsOk (t:Th):Prop:= ∀r,RV (t.regs r)
theorem RV.mod (z:Int):RV (z % 4294967296):=⟨by omega,by omega⟩
theorem RV.zero:RV 0:=⟨by omega,by omega⟩
theorem RV.one:RV 1:=⟨by omega,by omega⟩
theorem RV.div {z:Int} (h:RV z) (n:Nat):RV (z/2^n):=by
 have hp:(0:Int)<2^n:=Int.pow_pos (by decide)
 refine ⟨Int.ediv_nonneg h.1 (Int.le_of_lt hp),?_⟩
 have h1:z/2^n<=z:=by
  have :=Int.ediv_le_self (a:=z) (2^n) h.1
  exact this
 have :=h.2
 omega
theorem RV.alu (op:Nat) {a b:Int} (ha:RV a):RV (aluF op a b):=by
 unfold aluF
 split
 ·exact RV.mod _
 split
 ·exact RV.mod _
 split
 ·exact RV.mod _
 split
 ·exact bits_within .and .u32 a b
 split
 ·exact bits_within .or .u32 a b
 split
 ·exact bits_within .xor .u32 a b
 split
 ·exact RV.mod _
 split
 ·exact ha.div _
 split
 ·split
  ·exact RV.one
  ·exact RV.zero
 split
 ·split
  ·exact RV.one
  ·exact RV.zero
 ·exact RV.zero
theorem RegsOk.upd {t:Th} (h:RegsOk t) (r:Nat) {v:Int} (hv:RV v): ∀k,RV (updR t.regs r v k):=fun k=>by
 unfold updR
 split
 ·exact hv
 ·exact h k
structure OpsKeep {σ:Type} (O:Ops σ) (G:σ->Prop):Prop where
 load: ∀s a,G s->RV (O.load s a).1/\G (O.load s a).2
 store: ∀s a v,G s->RV v->G (O.store s a v)
 flush: ∀s,G s->G (O.flush s)
 swap: ∀s a v,G s->RV v->G (O.swap s a v)
 sleep: ∀s a,G s->G (O.sleep s a)
 wake: ∀s a v,G s->RV (O.wake s a v).1/\G (O.wake s a v).2
 remote: ∀s,G s->G (O.remote s)
 note: ∀s x,G s->G (O.note s x)
section
variable {σ:Type} {O:Ops σ} {G:σ->Prop}
theorem keep_lock (h:OpsKeep O G) {s:σ} (hs:G s) (pc:Int) (m:Nat) (old v:Int) (ok:Bool) (hv:RV v):G (lockS O s pc m old v ok):=by
 unfold lockS
 refine h.note _ _ ?_
 split
 ·exact h.swap _ _ _ hs hv
 ·exact hs
theorem keep_asks (h:OpsKeep O G) {s:σ} (hs:G s) {t:Th} (ht:RegsOk t) (op:Int) (a c m:Nat):RegsOk (asksR O s t op a c m).1/\G (asksR O s t op a c m).2:=by
 have hl:=h.load s m hs
 unfold asksR
 split
 ·exact ⟨ht.upd a hl.1,h.note _ _ hl.2⟩
 split
 ·exact ⟨ht,h.note _ _ (h.store _ _ _ hs (ht a))⟩
 split
 ·exact ⟨ht.upd a hl.1,keep_lock h hl.2 _ _ _ _ _ (ht a)⟩
 split
 ·exact ⟨ht.upd a hl.1,keep_lock h hl.2 _ _ _ _ _ (RV.mod _)⟩
 split
 ·exact ⟨ht.upd a hl.1,keep_lock h hl.2 _ _ _ _ _ (ht c)⟩
 split
 ·unfold waitR
  split
  ·exact ⟨ht.upd a RV.zero,h.sleep _ _ (h.note _ _ hl.2)⟩
  ·exact ⟨ht.upd a RV.one,h.note _ _ hl.2⟩
 ·have hw:=h.wake s m (t.regs a) hs
  exact ⟨ht.upd a hw.1,h.note _ _ hw.2⟩
theorem keep_plain (h:OpsKeep O G) {s:σ} (hs:G s) {t:Th} (ht:RegsOk t) (op a b c:Nat) (k addr:Int) (hk:RV k):RegsOk (plainR O s t op a b c k addr).1/\G (plainR O s t op a b c k addr).2:=by
 unfold plainR
 split
 ·exact ⟨ht.upd a hk,hs⟩
 split
 ·exact ⟨ht.upd a (ht b),hs⟩
 split
 ·exact ⟨ht,h.note _ _ hs⟩
 split
 ·exact ⟨ht,h.note _ _ hs⟩
 split
 ·exact ⟨ht,h.note _ _ hs⟩
 split
 ·exact ⟨ht,h.note _ _ (h.remote _ hs)⟩
 split
 ·exact ⟨ht.upd a (RV.alu op (ht b)),hs⟩
 ·exact ⟨ht,hs⟩
theorem keep_ins (h:OpsKeep O G) {s:σ} (hs:G s) {t:Th} (ht:RegsOk t) (i:Ins) (hi:RV i.k):RegsOk (insR O s t i).1/\G (insR O s t i).2:=by
 unfold insR
 split
 ·exact ⟨ht,h.flush _ hs⟩
 split
 ·exact ⟨ht,h.flush _ hs⟩
 split
 ·exact ⟨ht,h.note _ _ hs⟩
 split
 ·exact ⟨ht,hs⟩
 split
 ·exact keep_asks h hs ht _ _ _ _
 ·exact keep_plain h hs ht _ _ _ _ _ _ hi
theorem keep_step (h:OpsKeep O G) {s:σ} (hs:G s) {t:Th} (ht:RegsOk t) {c:Cd} (hc:c.Ok):RegsOk (stepR O s t c).1/\G (stepR O s t c).2:=by
 unfold stepR
 split
 ·exact ⟨ht,hs⟩
 split
 ·exact ⟨ht,h.note _ _ hs⟩
 rename_i h1 h2
 split
 ·exact ⟨ht,h.note _ _ hs⟩
 split
 ·exact ⟨ht,h.note _ _ hs⟩
 have hk:=hc.ins t.pc.toNat (by omega)
 exact keep_ins h hs ht _ ⟨hk.k0,hk.k1⟩
end
theorem can_step {σ:Type} {O:Ops σ} {V:Pv} {Inv:σ->(Nat->Prop)->World->Prop} {can:Nat->σ->Prop} (hP:PortOk O V Inv can) {n:Nat} {s:σ} (hc:can (n+3) s) (t:Th) (c:Cd):can n (stepR O s t c).2:=by
 have h2:=hP.less _ _ hc
 have h1:=hP.less _ _ h2
 have h0:=hP.less _ _ h1
 have hlock: ∀{s:σ} (pc:Int) (m:Nat) (old v:Int) (ok:Bool),can (n+2) s->can n (lockS O s pc m old v ok):=fun pc m old v ok h=>by
  unfold lockS
  refine hP.cnote _ _ _ ?_
  split
  ·exact hP.cswap _ _ _ _ h
  ·exact hP.less _ _ h
 have hl:=fun m=>hP.cload _ _ m hc
 unfold stepR
 repeat' split
 all_goals first
  |exact h0
  |exact hP.cnote _ _ _ h1
  |skip
 unfold insR
 split
 ·exact hP.cflush _ _ h1
 split
 ·exact hP.cflush _ _ h1
 split
 ·exact hP.cnote _ _ _ h1
 split
 ·exact h0
 split
 ·show can n (asksR O s t _ _ _ _).2
  unfold asksR
  split
  ·exact hP.cnote _ _ _ (hP.less _ _ (hl _))
  split
  ·exact hP.cnote _ _ _ (hP.cstore _ _ _ _ h2)
  split
  ·exact hlock _ _ _ _ _ (hl _)
  split
  ·exact hlock _ _ _ _ _ (hl _)
  split
  ·exact hlock _ _ _ _ _ (hl _)
  split
  ·unfold waitR
   split
   ·exact hP.csleep _ _ _ (hP.cnote _ _ _ (hl _))
   ·exact hP.cnote _ _ _ (hP.less _ _ (hl _))
  ·exact hP.cnote _ _ _ (hP.cwake _ _ _ _ h2)
 ·show can n (plainR O s t _ _ _ _ _ _).2
  unfold plainR
  repeat' split
  all_goals first
   |exact h0
   |exact hP.cnote _ _ _ h1
   |exact hP.cnote _ _ _ (hP.cremote _ _ h2)
end Go.Proofs.YtmhfpjnkjlhbpaaGreatDoor
