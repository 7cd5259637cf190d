/- The contract of pick.Read: the picks of bytes, in new memory. A region that draws its order, inside a round: over the plain law, where its operations are calm. -/
import Derived.Test.YtmhfpjnkjlhbpaaGreatDoorQj31
import Derived.Test.YtmhfpjnkjlhbpaaGreatDoorQj01
import Derived.Test.YtmhfpjnkjlhbpaaGreatDoorQj02
import Derived.OrdersIn
import Derived.OwnWalkIn
import Derived.Deep.QuietTactic
import Derived.BigQuiet
namespace Go.Proofs.YtmhfpjnkjlhbpaaGreatDoor
open Go.RowKit
set_option linter.unusedVariables false
set_option maxRecDepth 100000
theorem pick_info:(Tryz.prog.info? 78).map (fun i=>(i.zero,i.size,i.bytes))=some (some (.agg #[.int .i64 0,.int .i64 0]),2,16):=by kernel_rfl
theorem run_make_rowN {P:Program} (t e:TypeId) (i:TypeInfo) (z:Value) (ht:P.underlying t=some (.slice e)) (hi:P.info? e=some i) (hz:i.zero=some z)
 (kl kc:IntKind) (n c:Nat) (hnc:n<=c) (hbytes:i.bytes*c<=281474976710656) (h63:c<=9223372036854775807) (w:World):
 (Instr.makeSlice t (.int kl (n:Int)) (.int kc (c:Int))).run P w= .ok (.slice (some ⟨w.heap.size,0,none⟩) n c) (w.alloc (.cells (madeCells z.cells (c*i.size)) e)):=by
 have hb:(i.bytes:Int)*(c:Int)<=281474976710656:=by
  have h:((i.bytes*c:Nat):Int)<=281474976710656:=by omega
  rwa [Int.natCast_mul]at h
 have hr:=run_make (P:=P) w t e i z ht hi hz kl kc n c (by omega) (by omega) hb (by omega)
 simp only [Int.toNat_natCast]at hr
 exact hr
theorem run_make_picks (n:Nat) (hn:n<=1000000): ∀w:World,(Instr.makeSlice 37 (.int .i64 (n:Int)) (.int .i64 (n:Int))).run Tryz.prog w=
 .ok (.slice (some ⟨w.heap.size,0,none⟩) n n) (w.alloc (.cells (madeCells #[.int .i64 0,.int .i64 0] (n*2)) 78)):=fun w=>by
 obtain ⟨i,hi,hz,hs,hb⟩:=info_parts pick_info
 have :=run_make_rowN (P:=Tryz.prog) 37 78 i _ Tryz.underlying37 hi hz .i64 .i64 n n (Nat.le_refl _) (by rw [hb];omega) (by omega) w
 rw [hs]at this
 exact this
set_option maxHeartbeats 400000 in
theorem pickRead_any (A:Option Addr) (len cap:Nat) (Z:Nat->Int) (w:World) (hl:len<=100000) (hsl:Sl w A len (fun i=> .int .u8 (Z i))) (hz: ∀i,i<len->0<=Z i/\Z i<=255):
 Calls Tryz.prog 18 #[.slice A len cap] w fun e w'=> ∃cs:Array Value,e= .returned (.slice (some ⟨w.heap.size,0,none⟩) len len)/\Blk w' w.heap.size 78 cs/\cs.size=len*2/\
  (∀i,i<len->cs[i*2]?=some (.int .i64 (Z i/8 % 3))/\cs[i*2+1]?=some (.int .i64 (Z i % 8)))/\Below w.heap.size w w':=by
 have hmk:=run_make_picks len (by omega)
 go_enter Tryz.func18,Tryz.ntmps18
 go_wp2
 clear hmk
 go_loopw [11] (fun v wr=> ∃k:Nat,k<=len/\v= .int .i64 k/\ ∃cs:Array Value,Blk wr w.heap.size 78 cs/\cs.size=len*2/\(∀i,i<k->cs[i*2]?=some (.int .i64 (Z i/8 % 3))/\cs[i*2+1]?=some (.int .i64 (Z i % 8)))/\Below w.heap.size w wr)
  (fun v _=>len-(intOf v).toNat)
 case atStart=>
  exact ⟨0,Nat.zero_le _,rfl,_,Blk.new _ _ _,by simp [size_madeCells],fun i hi=>absurd hi (by omega),(Below.refl _ _).alloc (Nat.le_refl _) _⟩
 case round=>
  obtain ⟨k,hk,rfl,cs,hblk,hcs,hdone,hB⟩:=hrel
  by_cases hlt:k<len
  ·obtain ⟨b,off,rfl,hbW,hcW⟩:=(hsl.below (Nat.le_refl _) hB) (by omega)
   have hc0:=hcW k hlt
   have hz0:=hz k hlt
   have hblk1: ∀{w1:World},Below wr.heap.size wr w1->Blk w1 w.heap.size 78 cs:=fun hb=>hblk.below hb hblk.lt
   have hlg:=hblk.lt
   have hx0: ∃v0,cs[k*2]?=some v0:=⟨_,Array.getElem?_eq_getElem (by omega)⟩
   have hx1: ∃v1,cs[k*2+1]?=some v1:=⟨_,Array.getElem?_eq_getElem (by omega)⟩
   obtain ⟨v0,hv0⟩:=hx0
   obtain ⟨v1,hv1⟩:=hx1
   have HS:=Lib.hid hcs
   clear hcs hcW hsl
   go_wp2_with (first|(go_at_call 46;refine (of_any _ hz0.1 hz0.2 _).mono ?_;rintro e w1 ⟨rfl,hb1⟩;have q:=hblk1 hb1;have q0:=(q.cell (k*2)).trans hv0;have q1:=(q.cell (k*2+1)).trans hv1;have f0:=q.frozen (k*2);have f1:=q.frozen (k*2+1)))
   go_roundw
   case rel=>
    refine ⟨k+1,by omega,by go_num,_,(q.set_ (k*2) _).set_ (k*2+1) _,by simp [HS.out],fun i hi=>?_,?_⟩
    ·by_cases hik:i=k
     ·subst hik
      have :=HS.out
      constructor
      ·rw [Array.getElem?_setIfInBounds_ne (by omega),Array.getElem?_setIfInBounds_self_of_lt (by omega)]
      ·rw [Array.getElem?_setIfInBounds_self_of_lt (by simp;omega)]
     ·have :=hdone i (by omega)
      rw [Array.getElem?_setIfInBounds_ne (by omega),Array.getElem?_setIfInBounds_ne (by omega),Array.getElem?_setIfInBounds_ne (by omega),Array.getElem?_setIfInBounds_ne (by omega)]
      exact this
    ·exact ((step_below hB hb1).setCell (Nat.le_refl _) _).setCell (Nat.le_refl _) _
   case measure=>simp [intOf];omega
  ·obtain rfl:k=len:=by omega
   go_wp2
   go_ret
   exact ⟨cs,rfl,hblk,hcs,hdone,hB⟩
end Go.Proofs.YtmhfpjnkjlhbpaaGreatDoor
namespace Go.Proofs.YtmhfpjnkjlhbpaaGreatDoor
open Go.ChangeShapes Go.WideShapes Go.ChangeAt Go.RowKit Go.Deep
set_option linter.unusedVariables false
set_option maxRecDepth 100000
def calmB (o:Oper):Bool:=
 match o.op with
 | .move _| .assign _| .pick _ _ _| .load _ _| .store _ _ _| .binOp _ _ _ _ _| .unOp _ _ _| .convert _ _ _| .fieldAddr _ _ _| .indexAddr _ _ _| .extract _ _| .nilCheck _=>true
 | .call c=>match c.callee with
   | .builtin .len=>true
   |_=>false
 |_=>false
def Calm:Result Next->Prop
 | .ok (.value _) _=>True
 | .ok .skip _=>True
 | .halt _ _=>True
 |_=>False
theorem calm_v {P:Program} (s:Sem Value) (w:World):Calm ((do pure (Next.value (<-s)):Sem Next).run P w):=by
 simp only [Sem.run_bind,Sem.run_pure]
 cases s.run P w<;>trivial
theorem calm_u {P:Program} (s:Sem Unit) (w:World):Calm ((do s;pure Next.skip:Sem Next).run P w):=by
 simp only [Sem.run_bind,Sem.run_pure]
 cases s.run P w<;>trivial
theorem calm_pick {P:Program} (s:Sem Bool) (x y:Value) (w:World):Calm ((do pure (Next.value (if<-s then x else y)):Sem Next).run P w):=by
 simp only [Sem.run_bind,Sem.run_pure]
 cases s.run P w<;>trivial
theorem calm_then {α:Type} (r:Result α) {k:α->World->Result Next} (h: ∀x w',Calm (k x w')):Calm (r.andThen k):=by
 cases r<;>first|exact h _ _|trivial
theorem calm_nil (P:Program) (ρ:Operand->Value) (o:Oper) (x:Operand) (h:o.op= .nilCheck x) (w:World):Calm ((execOp ρ o).run P w):=by
 unfold execOp
 rw [h]
 dsimp only
 repeat' split
 all_goals first
  |trivial
  |(simp only [Sem.run_bind]
    refine calm_then _ fun y w'=>?_
    refine calm_then _ fun y w'=>?_
    split
    ·trivial
    ·trivial)
theorem calm_spec {P:Program} (o:Oper) (h:calmB o=true) (ρ:Operand->Value) (w:World):
 Calm ((execOp ρ o).run P w)/\o.about P w ρ=none/\ ∀c,o.op≠ .defer c:=by
 unfold calmB at h
 refine ⟨?_,?_,fun c e=>by rw [e]at h;cases h⟩
 ·by_cases hn: ∃x,o.op= .nilCheck x
  ·obtain ⟨x,hn⟩:=hn
   exact calm_nil P ρ o x hn w
  unfold execOp
  split at h<;>first|exact absurd h (by decide)|(rename_i e;rw [e])
  all_goals first
   |exact calm_v _ w
   |exact calm_u _ w
   |exact calm_pick _ _ _ w
   |exact absurd ⟨_,by assumption⟩ hn
   |trivial
   |(rename_i c;split at h<;>rename_i e2
     ·simp only [resolve,e2,Sem.run_bind,Sem.run_pure,Result.andThen_ok,invoke,builtin]
      cases (Builtin.len_ c.argTypes o.type (c.args.map ρ)).run P w<;>trivial
     ·cases h)
 ·unfold Oper.about
  split at h<;>first|exact absurd h (by decide)|(rename_i e;rw [e])
  all_goals first
   |rfl
   |(rename_i c;split at h<;>rename_i e2
     ·simp only [resolve,e2,Sem.run_pure];rfl
     ·cases h)
theorem opsIn_of {F:Fence} {n:Nat} {P:Program} {ops:Array Oper} {Q:Exit->Act->World->Prop} (hc: ∀(i:Nat) (o:Oper),ops[i]?=some o->calmB o=true):
 ∀(l:List Nat) (a:Act) (w:World),wpOps P ops (fun e a w=>e= .normal/\Q .normal a w) l a w->wpOpsIn F n P ops Q l a w
 |[],a,w,h=>h.2
 |i::rest,a,w,h=>by
  unfold wpOps at h
  unfold wpOpsIn
  cases ho:ops[i]? with
  |none=>
   rw [ho]at h
   exact opsIn_of hc rest a w h
  |some o=>
   rw [ho]at h
   dsimp only at h⊢
   obtain ⟨c1,c2,c3⟩:=calm_spec (P:=P) o (hc i o ho) a.eval w
   by_cases hw:Region.wanted o (yielded ops a.tmps)=true
   ·rw [if_pos hw]at h⊢
    refine ⟨fun f e=>(by rw [c2]at e;cases e),?_⟩
    rw [Oper.semAt_plain F _ _ c3]
    rcases h with h|⟨_,a',w',e,_⟩
    ·unfold Oper.wp at h
     generalize (execOp a.eval o).run P w=r at h c1⊢
     cases r with
     |ok nx w'=>
      cases nx with
      |value v=>exact opsIn_of hc rest _ _ h
      |skip=>exact opsIn_of hc rest _ _ h
      |_=>exact c1.elim
     |halt x w'=>
      cases x with
      |panic v=>exact absurd h.1 (by intro e;cases e)
      |_=>exact h.elim
    ·cases e
   ·rw [if_neg hw]at h⊢
    exact ⟨fun f e=>(by rw [c2]at e;cases e),opsIn_of hc rest _ _ h⟩
def calmOps (ops:Array Oper):Bool:=ops.all calmB
theorem startGIn {F:Fence} {n:Nat} {P:Program} {id:Nat} {ops:Array Oper} {Q:Exit->Act->World->Prop} {a:Act} {w:World} (S:World->Prop) (m:Nat) (hm:P.follows .mixedOrders=true) (hc:calmOps ops=true)
 (h:wpAnyG P .any ops (fun e a w=>e= .normal/\Q .normal a w) S m ops.size (Array.replicate ops.size false) a w.drew):(Code.region id ops true).wpIn F n P Q a w:=
 wpIn_region_draw fun t=>by
  simp only [Region.schedule,hm,Bool.true_or,if_true]
  refine opsIn_of (fun i o ho=>?_) _ _ _ (wpAny_sound ops.size t _ a _ (wpAny_of_G _ _ _ _ h))
  exact Array.all_eq_true_iff_forall_mem.1 hc o (Array.mem_of_getElem? ho)
theorem quietIn {F:Fence} {n:Nat} {P:Program} {id:Nat} {l:List Oper} {Q:Exit->Act->World->Prop} {a:Act} {w:World} (hm:P.follows .mixedOrders=true) (hc:calmOps l.toArray=true) (hB:Region.lexB .any l.toArray=true)
 (h:wpQuiet P l.toArray (fun w'=> ∃n,w'=w.drewN n) (fun a'=> ∀w',(∃n,w'=w.drewN n)->Q .normal a' w') l a):(Code.region id l.toArray true).wpIn F n P Q a w:=
 wpIn_region_draw fun t=>by
  simp only [Region.lexB,Bool.and_eq_true]at hB
  simp only [Region.schedule,hm,Bool.true_or,if_true]
  refine opsIn_of (fun i o ho=>Array.all_eq_true_iff_forall_mem.1 hc o (Array.mem_of_getElem? ho)) _ _ _ (wpAny_sound l.toArray.size t _ a _ ?_)
  refine wpAny_of_quiet (C:=fun w'=> ∃n,w'=w.drewN n) (Q:=fun a'=> ∀w',(∃n,w'=w.drewN n)->Q .normal a' w') (fun _ w' hw' h=>⟨rfl,h w' hw'⟩) _ _ _ _ ⟨1,rfl⟩ ?_
  have :=wpAnyQ_lex (C:=fun w'=> ∃n,w'=w.drewN n) (md:= .any) hB.1 l 0 (Array.replicate l.toArray.size false) a (by simp) (by simpa using hB.2) h
  simpa using this
section
variable {P:Program} {md:Region.Mode} {ops:Array Oper} {Q:Exit->Act->World->Prop} {S:World->Prop} {m:Nat}
theorem wpAnyG_firstS {i:Nat} {oi:Oper} {v:Value} (hi:ops[i]?=some oi) (hsel: ∀(j:Nat) (o:Oper) cs b,ops[j]?=some o->o.op≠ .select cs b)
 (hQ: ∀c a w,Q (.panic c) (a.put oi.dst v) w->Q (.panic c) a w):
 ∀(f:Nat) (L:Array Bool) (a:Act) (w:World),L.size<=m->
  (∀j oj,ops[j]?=some oj->j≠i->L.getD j true=false->(∀e∈oj.after,Region.binds md e=true->e.on≠i)->oi.apart ops oj=true)->
  i∈Region.ready md ops L->YieldsIf P ops S oi v a->S w->
  wpAnyG P md ops Q S m f (L.setIfInBounds i true) (a.put oi.dst v) w->wpAnyG P md ops Q S m (f+1) L a w
 |0,L,a,w,hm,_,hr,hy,hS,H=>by
  refine ⟨fun h=>(by rw [h]at hr;cases hr),fun j hj=>?_⟩
  by_cases hji:j=i
  ·rw [hji];exact hy.wpOp hi hS ⟨fun _ h=>hS,H⟩
  ·have :=ready_mono hj hji
   rw [H.1]at this
   cases this
 |f+1,L,a,w,hm,hfree,hr,hy,hS,H=>by
  have hun:=unlisted_both (mem_ready.1 hr).1
  refine ⟨fun h=>(by rw [h]at hr;cases hr),fun j hj=>?_⟩
  by_cases hji:j=i
  ·rw [hji];exact hy.wpOp hi hS ⟨fun _ h=>hS,H⟩
  ·obtain ⟨hjun,oj,hoj,hall⟩:=mem_ready.1 hj
   have hnot: ∀e∈oj.after,Region.binds md e=true->e.on≠i:=fun e he hb heq=>by
    have :=hall e he hb
    rw [heq,hun]at this
    cases this
   have hjm:j≠m:=fun e=>by
    subst e
    rw [Array.getD_eq_getD_getElem?,Array.getElem?_eq_none hm]at hjun
    cases hjun
   have hLm: ∀L':Array Bool,L'.size<=m->L'.getD m false=false:=fun L' h=>by
    rw [Array.getD_eq_getD_getElem?,Array.getElem?_eq_none h];rfl
   have h2:=wpOp_putIf hoj (hfree j oj hoj hji hjun hnot) (fun cs b=>hsel i oi cs b hi) (fun cs b=>hsel j oj cs b hoj) hQ hy (H.2 j (ready_mono hj hji))
   refine wpOp_mono (fun a' w' h3=>?_) h2
   obtain ⟨h31,h32,h33⟩:=h3
   have hSw:S w':=h32 hjm (hLm _ (by simpa using hm))
   refine ⟨fun _ _=>hSw,wpAnyG_firstS hi hsel hQ f (L.setIfInBounds j true) a' w' (by simpa using hm) (fun k ok hk hki hu hno=>hfree k ok hk hki ?_ hno) (ready_mono hr (Ne.symm hji)) h31 hSw ?_⟩
   ·by_cases hjk:j=k
    ·rw [<-hjk];exact hjun
    ·rwa [getD_set_ne true hjk]at hu
   ·rw [Array.setIfInBounds_comm _ _ hji]
    exact h33
theorem takeS {i:Nat} {oi:Oper} {v:Value} {f:Nat} {L:Array Bool} {a:Act} {w:World} (hi:ops[i]?=some oi)
 (hs:Region.noSelect ops=true) (hf:Region.free md ops L i=true) (hr:(Region.ready md ops L).contains i=true) (hl:decide (L.size<=m)=true)
 (hQ: ∀c a w,Q (.panic c) (a.put oi.dst v) w->Q (.panic c) a w) (hy:YieldsIf P ops S oi v a) (hS:S w)
 (h:wpAnyG P md ops Q S m f (L.setIfInBounds i true) (a.put oi.dst v) w):wpAnyG P md ops Q S m (f+1) L a w:=
 wpAnyG_firstS hi (Region.noSelect_spec hs) hQ f L a w (of_decide_eq_true hl) (Region.free_spec hi hf) (by simpa using hr) hy hS h
end
section
variable {P:Program}
theorem cells_one (v:Value) (h:v.oneCell'=true):v.cells= #[v]:=by
 cases v<;>first|rfl|(cases h)
theorem run_storeVar1 (w:World) (b o:Nat) (ty:TypeId) (v:Value) (ht:w.there b o 1) (hi:(P.info? ty).map (·.size)=some 1) (h1:v.oneCell'=true):
 (storeVar ty ⟨b,o,none⟩ v).run P w= .ok () (w.setCell ⟨b,o,none⟩ v):=by
 have :=run_storeCells_cells (P:=P) b o [v] 0 w (fun j hj=>by simpa using (ht j (by simpa using hj)).1) (fun j hj=>by simpa using (ht j (by simpa using hj)).2)
  (fun x hx=>by rw [List.mem_singleton.1 hx];exact h1)
 cases hq:P.info? ty with
 |none=>simp [hq]at hi
 |some i=>
  have hs:1=i.size:=by simp [hq]at hi;omega
  simp only [Nat.add_zero]at this
  simp [storeVar,sizeOf,typeInfo,hq,cells_one v h1,<-hs,this,World.setCells]
theorem wp_store1 {op:Oper} {a:Act} {w:World} {K:Act->World->Prop} {Q:Exit->Act->World->Prop} (ty:TypeId) (x y:Operand) (ho:op.op= .store ty x y)
 (b o:Nat) (v:Value) (hx:a.eval x= .pointer (some ⟨b,o,none⟩)) (hy:a.eval y=v)
 (ht:w.there b o 1) (hi:(P.info? ty).map (·.size)=some 1) (h1:v.oneCell'=true)
 (h:K (a.put op.dst undef) (w.setCell ⟨b,o,none⟩ v)):op.wp P a w K Q:=by
 unfold Oper.wp execOp
 simp only [ho,hx,hy,Instr.storeAt,Instr.sureAddr,Sem.run_bind,Sem.run_pure,Result.andThen_ok,run_storeVar1 w b o ty v ht hi h1]
 exact h
theorem there1 {w:World} {b o:Nat} {u:Value} (h:w.cell? ⟨b,o,none⟩=some u) (hf:w.frozen? ⟨b,o,none⟩=false):w.there b o 1:=fun j hj=>by
 obtain rfl:j=0:=by omega
 exact ⟨by rw [Nat.add_zero,h];rfl,by rw [Nat.add_zero];exact hf⟩
end
end Go.Proofs.YtmhfpjnkjlhbpaaGreatDoor
