/- law21.Meet.program: threads that enter a barrier, each of those that have a part in it so often. tso.Machine.Done. -/
import Derived.Test.YtmhfpjnkjlhbpaaGreatDoorQi29
import Derived.Test.YtmhfpjnkjlhbpaaGreatDoorQi30
import Derived.Test.YtmhfpjnkjlhbpaaGreatDoorQi33
import Derived.Test.YtmhfpjnkjlhbpaaGreatDoorQi24
namespace Go.Proofs.YtmhfpjnkjlhbpaaGreatDoor
open Go.ChangeShapes Go.WideShapes Go.ChangeAt Go.RowKit Go.Deep
set_option linter.unusedVariables false
set_option maxRecDepth 100000
set_option linter.unusedSimpArgs false
open List renaming getElem_toArray->zA,getElem_cons_zero->zB,getElem_cons_succ->zC,setIfInBounds_toArray->zD,set_cons_zero->zE,set_cons_succ->zF
def meetO (N:Nat):List Ins:=(BB.gmeet BB.e 16 ((N:Int)-1)).out
theorem meet_out (N:Nat):meetO N=[⟨16,5,8,0,17⟩,⟨1,4,0,0,1⟩,⟨20,4,8,0,16⟩,⟨1,6,0,0,(N:Int)-1⟩,⟨12,6,4,6,0⟩,⟨14,6,0,0,13⟩,⟨1,4,0,0,0⟩,⟨17,4,8,0,16⟩,⟨1,4,0,0,1⟩,⟨20,4,8,0,17⟩,⟨1,4,0,0,4294967295⟩,⟨24,4,8,0,17⟩,⟨13,0,0,0,19⟩,⟨16,4,8,0,17⟩,⟨12,6,4,5,0⟩,⟨14,6,0,0,19⟩,⟨2,4,5,0,0⟩,⟨23,4,8,0,17⟩,⟨13,0,0,0,13⟩,⟨1,7,0,0,0⟩]:=by kernel_rfl
theorem meet_len (N:Nat):(meetO N).length=20:=by rw [meet_out];rfl
theorem meet_ok (N:Nat) (hN:1<=N/\N<=8): ∀x∈meetO N,x.Ok:=by
 rw [meet_out]
 intro x hx
 simp only [List.mem_cons,List.not_mem_nil,or_false]at hx
 rcases hx with rfl|rfl|rfl|rfl|rfl|rfl|rfl|rfl|rfl|rfl|rfl|rfl|rfl|rfl|rfl|rfl|rfl|rfl|rfl|rfl<;>exact insOk (by omega)
theorem bar_call (N q:Nat) (hq:q<=4000):(barL N q).map Op.ins=[(⟨27,7,0,0,2*9⟩:Ins)]++(meetO N).map (movedI ((q:Int)+1))++[⟨27,7,0,0,2*9+1⟩]:=by
 rw [meet_out]
 simp [barL,Op.ins,movedI,jmpB,aluF_add]
 omega
def barT (N rd:Nat):List Ins:=(codeOf (fun n=>barL N (n*22)) rd).map Op.ins
theorem barT_len (N rd:Nat):(barT N rd).length=rd*22:=by
 unfold barT
 rw [List.length_map,codeOf_len (bs:=fun n=>n*22) (Nat.zero_mul _) (fun n _=>by rw [barL_len];show (n+1)*22=_;omega)]
theorem ask_bar (N:Nat) (G:Nat->List Ins) (ks:Nat->Int): ∀rd,rd<=100->(∀i,i<rd->G i=meetO N/\ks i=9)->askL G ks rd=barT N rd
 |0,_,_=>rfl
 |rd+1,hr,h=>by
  have ih:=ask_bar N G ks rd (by omega) (fun i hi=>h i (by omega))
  rw [askL_succ,ih,(h rd (by omega)).1,(h rd (by omega)).2,barT_len]
  have e:barT N (rd+1)=barT N rd++(barL N (rd*22)).map Op.ins:=by unfold barT;rw [codeOf_succ,List.map_append]
  rw [e,bar_call N (rd*22) (by omega)]
  simp only [List.append_assoc]
def meetC (N rd t:Nat):List Ins:=if t<N then barT N rd else []
def meetR (N rd t:Nat):List Int:=if t<N then List.replicate rd 9 else []
def MeetMade (w:World) (th N rd rm:Nat) (ed:Ending) (w':World):Prop:= ∃(v:Value) (mA:Option Addr) (mc base:Nat),ed= .returned (.tuple #[.agg #[v,.slice mA 18 mc,.int .i64 (rm:Int)],.int .i64 (N:Int),.int .i64 (rd:Int),.bool true])/\18<=mc/\mc<=maxLen/\Below w.heap.size w w'/\
 CdRow w' base v ((List.range th).map fun t=>meetC N rd t)/\Sl w' mA 18 (fun _=> .int .u32 0)
theorem results_row3 {P:Program} {fn:Func} {p q q' q2:Tmp} {ty:TypeId} (h:fn.results= #[.cell p ty,.tmp q,.tmp q',.tmp q2]) (tmps:Array Value) (w:World) (g:Nat) (v:Value)
 (hp:tmps.getD p undef= .pointer (some ⟨g,0,none⟩)) (hr:(loadVar ty ⟨g,0,none⟩).run P w= .ok v w):
 (results fn tmps).run P w= .ok (.tuple #[v,tmps.getD q undef,tmps.getD q' undef,tmps.getD q2 undef]) w:=by
 have hp':tmps[p]?.getD undef= .pointer (some ⟨g,0,none⟩):=by simpa using hp
 simp [results,h,hp',asAddr,hr]
set_option maxHeartbeats 8000000 in
theorem meetMk_any (a b c d:Nat) (h255:a<=255/\b<=255/\c<=255/\d<=255) (w:World) (hT:Tab w) (hO:ONam w):
 Calls Tryz.prog 38 #[.agg #[.int .u8 (a:Int),.int .u8 (b:Int),.int .u8 (c:Int),.int .u8 (d:Int)]] w (MeetMade w (1+a % 4) (1+b % (1+a % 4)) (1+c % 4) (1+d % 4)):=by
 obtain ⟨th,hth⟩: ∃x,1+a % 4=x:=⟨_,rfl⟩
 rw [hth]
 obtain ⟨N,hN⟩: ∃x,1+b % th=x:=⟨_,rfl⟩
 obtain ⟨rd,hrd⟩: ∃x,1+c % 4=x:=⟨_,rfl⟩
 obtain ⟨rm,hrm⟩: ∃x,1+d % 4=x:=⟨_,rfl⟩
 have bN:1<=N/\N<=th:=by have :=Nat.mod_lt b (show 0<th by omega);omega
 have eb:(b:Int)% (th:Int)=((b % th:Nat):Int):=rfl
 have tth:Int.tmod (a:Int) 4=((th:Int)-1):=by
  rw [Int.tmod_eq_emod_of_nonneg (by omega)]
  omega
 have uth:IntKind.i64.wrap (1+((th:Int)-1))=(th:Int):=by rw [show 1+((th:Int)-1)=(th:Int) by omega];exact IntWalk.i64_in _ (by omega)
 have sth:IntKind.i64.wrap ((th:Int)-1)=(th:Int)-1:=IntWalk.i64_in _ (by omega)
 have rth:IntKind.i64.wrap (a:Int)=(a:Int):=IntWalk.i64_in _ (by omega)
 have tN:Int.tmod (b:Int) (th:Int)=((N:Int)-1):=by
  rw [Int.tmod_eq_emod_of_nonneg (by omega)]
  rw [eb];omega
 have uN:IntKind.i64.wrap (1+((N:Int)-1))=(N:Int):=by rw [show 1+((N:Int)-1)=(N:Int) by omega];exact IntWalk.i64_in _ (by omega)
 have sN:IntKind.i64.wrap ((N:Int)-1)=(N:Int)-1:=IntWalk.i64_in _ (by omega)
 have rN:IntKind.i64.wrap (b:Int)=(b:Int):=IntWalk.i64_in _ (by omega)
 have trd:Int.tmod (c:Int) 4=((rd:Int)-1):=by
  rw [Int.tmod_eq_emod_of_nonneg (by omega)]
  omega
 have urd:IntKind.i64.wrap (1+((rd:Int)-1))=(rd:Int):=by rw [show 1+((rd:Int)-1)=(rd:Int) by omega];exact IntWalk.i64_in _ (by omega)
 have srd:IntKind.i64.wrap ((rd:Int)-1)=(rd:Int)-1:=IntWalk.i64_in _ (by omega)
 have rrd:IntKind.i64.wrap (c:Int)=(c:Int):=IntWalk.i64_in _ (by omega)
 have trm:Int.tmod (d:Int) 4=((rm:Int)-1):=by
  rw [Int.tmod_eq_emod_of_nonneg (by omega)]
  omega
 have urm:IntKind.i64.wrap (1+((rm:Int)-1))=(rm:Int):=by rw [show 1+((rm:Int)-1)=(rm:Int) by omega];exact IntWalk.i64_in _ (by omega)
 have srm:IntKind.i64.wrap ((rm:Int)-1)=(rm:Int)-1:=IntWalk.i64_in _ (by omega)
 have rrm:IntKind.i64.wrap (d:Int)=(d:Int):=IntWalk.i64_in _ (by omega)
 rw [hN,hrd,hrm]
 have bth:1<=th/\th<=4:=by omega
 have brd:1<=rd/\rd<=4:=by omega
 have brm:1<=rm/\rm<=4:=by omega
 have hth0: ¬(th:Int)=0:=by omega
 clear hN hrd hrm hth eb
 have hB0:=(Below.refl w.heap.size w).alloc (Nat.le_refl _) (.cells #[.int .u8 (a:Int),.int .u8 (b:Int),.int .u8 (c:Int),.int .u8 (d:Int)] 91)
 have hX0:=Blk.new w 91 #[.int .u8 (a:Int),.int .u8 (b:Int),.int .u8 (c:Int),.int .u8 (d:Int)]
 generalize hW1:w.alloc (.cells #[.int .u8 (a:Int),.int .u8 (b:Int),.int .u8 (c:Int),.int .u8 (d:Int)] 91)=W1 at hB0 hX0
 have hB1:=hB0.alloc (by have :=hB0.size;omega) (.cells #[.slice none 0 0,.slice none 0 0,.int .i64 0] 29)
 have hX1:=hX0.alloc (.cells #[.slice none 0 0,.slice none 0 0,.int .i64 0] 29)
 have hR1:=Blk.new W1 29 #[.slice none 0 0,.slice none 0 0,.int .i64 0]
 generalize hW2:W1.alloc (.cells #[.slice none 0 0,.slice none 0 0,.int .i64 0] 29)=W2 at hB1 hX1 hR1
 have x0:=(hX1.cell 0).trans rfl
 have x1:=(hX1.cell 1).trans rfl
 obtain ⟨cb,hcb⟩: ∃x,w.heap.size=x:=⟨_,rfl⟩
 obtain ⟨rb,hrb⟩: ∃x,W1.heap.size=x:=⟨_,rfl⟩
 have hord0:cb<rb:=by have h1:=hX0.lt;omega
 rw [hcb]at hX0 hX1 hB0 hB1 x0 x1
 rw [hrb]at hR1
 have HC:=Lib.hid hcb
 have HTO:=Lib.hid (And.intro hT hO)
 go_enter Tryz.func38,Tryz.ntmps38
 go_upto_region 2 with fail
 try rw [hW1]
 try rw [hW2]
 try rw [hcb]
 try rw [hrb]
 clear hcb hrb hW1 hW2
 go_upto_region 3 with fail
 have hX2:=hX1.alloc (.cells #[.int .i64 13,.int .i64 (N:Int),.int .i64 0,.int .i64 0] 46)
 have hR2:=hR1.alloc (.cells #[.int .i64 13,.int .i64 (N:Int),.int .i64 0,.int .i64 0] 46)
 have hO2:=Blk.new W2 46 #[.int .i64 13,.int .i64 (N:Int),.int .i64 0,.int .i64 0]
 have hB2:=hB1.alloc (by have :=hX1.lt;omega) (.cells #[.int .i64 13,.int .i64 (N:Int),.int .i64 0,.int .i64 0] 46)
 obtain ⟨qb,hqb⟩: ∃x,W2.heap.size=x:=⟨_,rfl⟩
 have hord:cb<rb/\rb<qb:=by have h2:=hR1.lt;omega
 rw [hqb]at hO2
 try rw [hqb]
 clear hX0 hX1 hR1 hB0 hB1 x0 x1 hT hO hqb hord0
 generalize W2.alloc (.cells #[.int .i64 13,.int .i64 (N:Int),.int .i64 0,.int .i64 0] 46)=W3 at hB2 hX2 hR2 hO2⊢
 have x2:=(hX2.cell 2).trans rfl
 have HB:=Lib.hid (And.intro hX2 (And.intro hR2 (And.intro hO2 hB2)))
 clear hX2 hR2 hO2 hB2
 go_wp2_with fail
 go_loopw [9,10] (fun v9 v10 wr=> ∃(k cv:Nat) (A:Option Addr),k<=th/\v10= .int .i64 (k:Int)/\v9= .slice A k cv/\LOwn wr W3.heap.size (.slice A k cv) ((List.range k).map (meetR N rd))/\Below W3.heap.size W3 wr) (fun v9 v10 _=>th-(intOf v10).toNat)
 case atStart=>exact ⟨0,0,none,Nat.zero_le _,rfl,rfl,LOwn.nil _ _,Below.refl _ _⟩
 case round=>
  obtain ⟨k,cv,A,hk,rfl,rfl,hL,hB⟩:=hrel
  obtain ⟨wo,rfl⟩: ∃wo:World,wo=wr:=⟨_,rfl⟩
  clear x2
  by_cases hlt:k<th
  case pos=>
   have hlt':(k:Int)<(th:Int):=by omega
   have HL:=Lib.hid (And.intro hL hB)
   clear hL hB
   go_wp2_with fail
   go_loopw [11,12] (fun v11 v12 wq=> ∃(j c:Nat) (AA:Option Addr),j<=(if k<N then rd else 0)/\v12= .int .i64 (j:Int)/\v11= .slice AA j c/\wq.ownsRow wo.heap.size 3 1 (.slice AA j c) j ((List.replicate j (9:Int)).map (Value.int .i64))/\Below wo.heap.size wo wq) (fun _ v12 _=>rd-(intOf v12).toNat)
   case atStart=>exact ⟨0,0,none,Nat.zero_le _,rfl,rfl,⟨rfl,.inl ⟨rfl,rfl⟩⟩,Below.refl _ _⟩
   case round=>
    obtain ⟨j,c2,AA,hj,rfl,rfl,hR,hBq⟩:=hrel
    obtain ⟨wq,rfl⟩: ∃wq:World,wq=wr:=⟨_,rfl⟩
    have o1:=((((HB.out.2.2.1.below HL.out.2 HB.out.2.2.1.lt)).below hBq (HB.out.2.2.1.below HL.out.2 HB.out.2.2.1.lt).lt).cell 1).trans rfl
    by_cases hgo:k<N/\j<rd
    case pos=>
     have g1:(j:Int)<(rd:Int):=by omega
     have g2:(k:Int)<(N:Int):=by omega
     have HBq:=Lib.hid hBq
     clear hBq
     rw [if_pos hgo.1]at hj
     go_wp2_with (at_builtin;refine own_app1 hR (by simp) 9 rfl (.tmp 48) (.tmp 49) rfl rfl rfl HBq.out.size (by omega) ?_;intro v' w' hR2 hg2;have hBw:=HBq.out.trans (below_of_grown HBq.out.size hg2 (fun g e=>(own_in hR g e).1));obtain ⟨A',c',rfl,_,_⟩:=own_cap hR2;have HR2:=Lib.hid (And.intro hR2 hBw);clear hR hR2 hg2 hBw o1)
     go_roundw
     case rel=>
      refine ⟨j+1,c',A',by rw [if_pos hgo.1];omega,by go_num,rfl,?_,HR2.out.2⟩
      have e:List.replicate (j+1) (9:Int)=List.replicate j 9++[9]:=List.replicate_succ'
      rw [e];exact HR2.out.1
     case measure=>simp [intOf];omega
    case neg=>
     have hjr:List.replicate j (9:Int)=meetR N rd k:=by
      unfold meetR
      by_cases z:k<N
      ·rw [if_pos z]at hj⊢
       rw [show j=rd by omega]
      ·rw [if_neg z]at hj⊢
       rw [show j=0 by omega];rfl
     rw [hjr]at hR
     have hjl:j=(meetR N rd k).length:=by rw [<-hjr,List.length_replicate]
     have hLq:=HL.out.1.step hBq
     have hb3:W3.heap.size<=wq.heap.size:=Nat.le_trans HL.out.2.size hBq.size
     have hR3:=own_weak hR HL.out.2.size
     have HQ:=Lib.hid (And.intro hBq hjl)
     have hkl:k<=100:=by omega
     clear hR hBq hjr hjl hj
     by_cases g1:j<rd
     case pos=>
      have g1':(j:Int)<(rd:Int):=by omega
      have g2': ¬(k:Int)<(N:Int):=by omega
      clear hgo
      go_wp2_with (at_builtin;refine LOwn.app hLq (by simp) hR3 HQ.out.2 hb3 rfl (.tmp 51) (.tmp 53) rfl rfl rfl hkl ?_;intro A' c' w' hL' hB';have HL':=Lib.hid (And.intro hL' hB');clear hL' hB' hLq hR3 o1)
      go_roundw
      case rel=>exact ⟨k+1,c',A',by omega,by go_num,rfl,by rw [List.range_succ,List.map_append];exact HL'.out.1,(HL.out.2.trans (HQ.out.1.mono HL.out.2.size)).trans HL'.out.2⟩
      case measure=>simp [intOf];omega
     case neg=>
      have g1': ¬(j:Int)<(rd:Int):=by omega
      clear hgo
      go_wp2_with (at_builtin;refine LOwn.app hLq (by simp) hR3 HQ.out.2 hb3 rfl (.tmp 51) (.tmp 53) rfl rfl rfl hkl ?_;intro A' c' w' hL' hB';have HL':=Lib.hid (And.intro hL' hB');clear hL' hB' hLq hR3 o1)
      go_roundw
      case rel=>exact ⟨k+1,c',A',by omega,by go_num,rfl,by rw [List.range_succ,List.map_append];exact HL'.out.1,(HL.out.2.trans (HQ.out.1.mono HL.out.2.size)).trans HL'.out.2⟩
      case measure=>simp [intOf];omega
  case neg=>
   obtain rfl:th=k:=by omega
   have hlt': ¬(th:Int)<(th:Int):=by omega
   obtain ⟨A',c',e',hc1,hc2,hrows⟩:=hL.rows
   rw [List.length_map,List.length_range]at e' hc1
   injection e' with e1 _ e2
   subst e1 e2
   have hBw:=HB.out.2.2.2.trans (hB.mono (by have :=HB.out.2.2.2.size;have :=HB.out.1.lt;omega))
   have hX5:=HB.out.1.below hB HB.out.1.lt
   have hQ5:=HB.out.2.2.1.below hB HB.out.2.2.1.lt
   have hR5:=HB.out.2.1.below hB HB.out.2.1.lt
   have hlenT: ∀t,t<th->((List.range th).map (meetR N rd)).getD t []=meetR N rd t:=fun t ht=>by simp [List.getD_eq_getElem?_getD,List.getElem?_map,List.getElem?_range ht]
   have hrl: ∀t,(meetR N rd t).length<=4:=fun t=>by unfold meetR;split<;>simp<;>omega
   have hr9: ∀t j,j<(meetR N rd t).length->(meetR N rd t).getD j 0=9/\t<N:=fun t j hj=>by
    unfold meetR at hj⊢
    by_cases z:t<N
    ·rw [if_pos z]at hj⊢
     exact ⟨by simp at hj;simp [List.getD_eq_getElem?_getD,List.getElem?_replicate,hj],z⟩
    ·rw [if_neg z]at hj;exact absurd hj (by simp)
   have hBw':Below w.heap.size w wo:=by rw [HC.out];exact hBw
   have cA:=lawAsks_any 13 (N:Int) (N:Int) (rm:Int) ((List.range th).map (meetR N rd)) th cv 2 18 A (fun t _=>if t<N then meetO N else []) (by rw [List.length_map,List.length_range]) (by omega) ⟨hc1,hc2⟩ rfl (by decide)
    (fun t ht=>by rw [hlenT t ht];exact ⟨hrl t,fun j hj=>by rw [(hr9 t j hj).1];decide⟩) (fun t i=>by show (if t<N then meetO N else []).length<=40;split;rw [meet_len];decide;exact Nat.zero_le _)
    (fun t i ht hi x hx=>by rw [hlenT t ht]at hi;rw [if_pos (hr9 t i hi).2]at hx;exact meet_ok N (by omega) x hx)
    (fun t i ht hi W hTW hOW=>by
      rw [hlenT t ht]at hi⊢
      rw [(hr9 t i hi).1,if_pos (hr9 t i hi).2]
      have :=(hr9 t i hi).2
      exact code_barM (N:Int) (th:Int) 16 (t:Int) (by omega) (by omega) (by decide) (by omega) (by omega) W hTW hOW)
    (fun W hOW=>first13 (N:Int) (th:Int) (by omega) (by omega) W) wo (HTO.out.1.step hBw') (HTO.out.2.step hBw') hrows
   have ecodes:((List.range th).map fun t=>askL ((fun t _=>if t<N then meetO N else []) t) (fun i=>(((List.range th).map (meetR N rd)).getD t []).getD i 0) (((List.range th).map (meetR N rd)).getD t []).length)=(List.range th).map fun t=>meetC N rd t:=by
    refine List.map_congr_left (fun t ht=>?_)
    have ht':=List.mem_range.1 ht
    rw [hlenT t ht']
    unfold meetC
    by_cases z:t<N
    ·rw [if_pos z]
     have e:(meetR N rd t).length=rd:=by unfold meetR;rw [if_pos z,List.length_replicate]
     rw [e]
     exact ask_bar N _ _ rd (by omega) (fun i hi=>⟨if_pos z,(hr9 t i (by omega)).1⟩)
    ·rw [if_neg z]
     have e:(meetR N rd t).length=0:=by unfold meetR;rw [if_neg z];rfl
     rw [e];rfl
   rw [ecodes]at cA
   have uN32:IntKind.u32.wrap (N:Int)=(N:Int):=IntWalk.u32_in _ (by omega)
   have x3:=(hX5.cell 3).trans rfl
   have q1:=(hQ5.cell 1).trans rfl
   have HF:=Lib.hid (And.intro hX5 (And.intro hQ5 (And.intro hR5 hBw)))
   clear hL hB hrows hBw hX5 hR5 hlenT hrl hr9 hBw' ecodes hc1 hc2
   go_wp2_with (refine wpList_load_row rfl 46 (.tmp 7) rfl qb rfl 46 #[.int .i64 13,.int .i64 (N:Int),.int .i64 0,.int .i64 0] _ _ hQ5 Tryz.underlying46 rfl obj_info4 ?_)
   with_reducible refine cA.mono ?_
   rintro ed Wb ⟨v,mA,mc,base,rfl,hm1,hm2,hBb,hCk,hSl,hmb⟩
   clear cA x3 q1 hQ5
   obtain ⟨vA,vc,hve⟩:=hCk.cap
   rw [List.length_map,List.length_range]at hve
   subst hve
   obtain ⟨vn,hvn⟩: ∃vn,th=vn:=⟨_,rfl⟩
   have halb:=(Below.refl Wb.heap.size Wb).alloc (Nat.le_refl _) (.cells #[.slice vA th vc,.slice mA 18 mc,.int .i64 (rm:Int)] 29)
   have hPb:=Blk.new Wb 29 #[.slice vA th vc,.slice mA 18 mc,.int .i64 (rm:Int)]
   have hCp:=hCk.below halb
   have hSp:=hSl.step halb
   have hRp:=(HF.out.2.2.1.below hBb HF.out.2.2.1.lt).below halb (HF.out.2.2.1.below hBb HF.out.2.2.1.lt).lt
   have hQp:=(HF.out.2.1.below hBb HF.out.2.1.lt).below halb (HF.out.2.1.below hBb HF.out.2.1.lt).lt
   have hBp:=(HF.out.2.2.2.trans (hBb.mono (by have :=HF.out.2.2.2.size;have :=HF.out.1.lt;omega))).trans (halb.mono (by have :=HF.out.2.2.2.size;have :=hBb.size;have :=HF.out.1.lt;omega))
   obtain ⟨pb,hpb⟩: ∃pb,Wb.heap.size=pb:=⟨_,rfl⟩
   have hpl:rb<pb/\qb<pb:=by have h1:=(HF.out.2.2.1.below hBb HF.out.2.2.1.lt).lt;have h2:=(HF.out.2.1.below hBb HF.out.2.1.lt).lt;omega
   have HY:=Lib.hid (And.intro hm1 (And.intro hm2 (And.intro hCp (And.intro hSp (And.intro hBp (And.intro hord (fun (b off:Nat) (e:mA=some ⟨b,off,none⟩)=>Nat.lt_of_lt_of_le HF.out.2.2.1.lt (hmb b off (by decide) e))))))))
   rw [hpb]at hPb
   clear hCk halb hBb hCp hSp hBp hSl hvn hmb
   go_upto_region 15 with fail
   try rw [hpb]
   clear hpb
   generalize hWc:Wb.alloc (.cells #[.slice vA th vc,.slice mA 18 mc,.int .i64 (rm:Int)] 29)=Wc at hPb hRp hQp HY
   try rw [hWc]
   clear hWc
   refine startG (fun W'=>Wc.drew.grownBy W' (some rb)) 8 (by kernel_rfl) ?_
   have HX:=Lib.hid (And.intro hPb.drew (And.intro hQp.drew (And.intro (show some pb≠some rb from fun e=>by have :=Option.some.inj e;omega) (show some qb≠some rb from fun e=>by have :=Option.some.inj e;omega))))
   have hRd:=hRp.drew
   have hg0:Wc.drew.grownBy Wc.drew (some rb):=⟨rfl,rfl,rfl,Nat.le_refl _,fun _ _ _=>rfl⟩
   have HD:=Lib.hid (below_drewB Wc)
   clear hPb hQp hRp
   generalize Wc.drew=W0 at HX hRd hg0 HD⊢
   refine takeB (i:=0) (v:= .agg #[.slice vA th vc,.slice mA 18 mc,.int .i64 (rm:Int)]) rfl (yields_row (by rfl) 29 (.tmp 13) rfl pb rfl #[.slice vA th vc,.slice mA 18 mc,.int .i64 (rm:Int)] (fun _ hS=>run_row _ _ _ _ _ _ (HX.out.1.grown hS HX.out.2.2.1) Tryz.underlying29 rfl pg_info)) hg0 ?_
   simp only [Act.put,zA,zB,zC,zD,zE,zF]
   refine takeA (i:=1) (v:= .pointer (some ⟨qb,1,none⟩)) rfl hg0 ?_
   simp only [Act.put,zA,zB,zC,zD,zE,zF]
   refine takeB (i:=2) (v:= .int .i64 (N:Int)) rfl (Or.inl ⟨by rfl,fun W hW=>by have q0:=((HX.out.2.1.grown hW HX.out.2.2.2).cell 1).trans rfl;go_simp⟩) hg0 ?_
   simp only [Act.put,zA,zB,zC,zD,zE,zF]
   refine takeA (i:=3) (v:= .int .i64 (rd:Int)) rfl hg0 ?_
   simp only [Act.put,zA,zB,zC,zD,zE,zF]
   refine takeA (i:=4) (v:= .bool true) rfl hg0 ?_
   simp only [Act.put,zA,zB,zC,zD,zE,zF]
   refine onlyG (i:=5) (by kernel_rfl) rfl (fun K hK=>?_)
   refine step_store_row rfl 29 (.tmp 2) (.tmp 69) rfl rb rfl #[.slice vA th vc,.slice mA 18 mc,.int .i64 (rm:Int)] rfl 29 #[.slice none 0 0,.slice none 0 0,.int .i64 0] hRd rfl pg_info (by simp [Value.oneCell']) ?_
   intro w3 hb3 hg3
   refine hK.out _ _ hg3 (fun _=>?_)
   clear hK K
   try simp only [Act.put,zA,zB,zC,zD,zE,zF]
   refine takeA (i:=6) (v:= .int .i64 (N:Int)) rfl hg3 ?_
   simp only [Act.put,zA,zB,zC,zD,zE,zF]
   refine takeA (i:=7) (v:= .int .i64 (rd:Int)) rfl hg3 ?_
   simp only [Act.put,zA,zB,zC,zD,zE,zF]
   refine lastG (by kernel_rfl) rfl (by kernel_rfl) (fun K hK=>?_)
   go_simp
   refine hK.out _ _ ?_
   clear hK K
   try simp only [Act.put,zA,zB,zC,zD,zE,zF]
   have HZ:=Lib.hid (And.intro hb3 (And.intro hg3 hRd))
   clear hb3 hg3 hRd
   go_wp2_with fail
   refine bodyPost_ret (results_row3 rfl _ _ _ _ rfl (run_row _ _ _ _ _ _ HZ.out.1 Tryz.underlying29 rfl pg_info)) rfl ?_
   obtain ⟨hm1,hm2,hCp,hSp,hBp,hord,hmb⟩:=HY.out
   obtain ⟨hb3,hg3,hRd⟩:=HZ.out
   have hC1:=hCp.below HD.out
   have hS1:=hSp.step HD.out
   have hB1:=hBp.trans (HD.out.mono (by have :=hBp.size;have :=HX.out.1.lt;have h3:=hRd.lt;have :=HC.out;omega))
   refine ⟨_,mA,mc,base,rfl,hm1,hm2,by rw [HC.out];exact hB1.trans (below_of_grown (N:=cb) (by have :=hRd.lt;omega) hg3 (fun g e=>by have :=Option.some.inj e;omega)),hC1.far hRd (by decide) (by decide) hg3,?_⟩
   exact hS1.grown hg3 (fun h0 bb off e q=>by have :=hmb bb off e;omega)
def doneT (s:Mst) (t:Nat):Bool:=(s.ths.getD t tha).st !=0&&(s.ths.getD t tha).st !=1&&(s.bufs.getD t []).length==0
def doneM (s:Mst):Bool:=(List.range s.ths.length).all (doneT s)
theorem doneM_no {s:Mst} {t:Nat} (ht:t<s.ths.length) (h:doneT s t=false):doneM s=false:=by
 unfold doneM
 rw [List.all_eq_false]
 exact ⟨t,List.mem_range.2 ht,by rw [h];decide⟩
theorem doneM_yes {s:Mst} (h: ∀t,t<s.ths.length->doneT s t=true):doneM s=true:=List.all_eq_true.2 fun t ht=>h t (List.mem_range.1 ht)
theorem below_of_grownT {w w':World} {row:Option Nat} {N:Nat} (hN:N<=w.heap.size) (h:w.grownBy w' row) (hr: ∀g,row=some g->N<=g):Below N w w':=
 ⟨h.os,h.tape,h.output,h.size,fun k hk=>h.block k (Nat.lt_of_lt_of_le hk hN) (fun e=>by have :=hr k e.symm;omega)⟩
section
variable {P:Program}
theorem wpList_load_midG {ops:Array Oper} {rest:List Oper} {op:Oper} {a:Act} {w:World} {Q:Exit->Act->World->Prop} (hgd:Region.wanted op (yielded ops a.tmps)=true) (ty:TypeId) (x:Operand) (ho:op.op= .load ty x)
 (b o:Nat) (hx:a.eval x= .pointer (some ⟨b,o,none⟩)) (cs:List Value) (d:TypeDesc) (hc:w.rangeAt b o cs)
 (hu:P.underlying ty=some d) (hd:d.isRow=true) (hi:(P.info? ty).map (·.size)=some cs.length)
 (h:wpList P ops Q rest (a.put op.dst (.agg cs.toArray)) w):wpList P ops Q (op::rest) a w:=
 wpList_step fun _ hK=>by
  rw [if_pos hgd]
  exact wp_load_mid ty x ho b o hx cs d hc hu hd hi (hK _ _ h)
end
set_option maxHeartbeats 2000000 in
theorem tdone_any (B:MB) (s:Mst) (own:Nat->Prop) (W:World) (hI:MInv tsoL B s own W) (h0:0<s.ths.length) (h8:s.ths.length<=8) (hbl:s.bufs.length=s.ths.length):
 Calls Tryz.prog 21 #[.pointer (some ⟨B.mb,0,none⟩)] W fun e W'=>e= .returned (.bool (doneM s))/\Below W.heap.size W W':=by
 obtain ⟨V,bcs,h⟩:=hI
 obtain ⟨g1,cap1,e1,hc1,hm1,hx1⟩:=h.thAt h0
 obtain ⟨g2,cap2,cs0,e2,hc2,hm2,hx2⟩:=h.bufAt (t:=0) (by omega)
 clear hx1 hx2
 have c1:W.cell? ⟨B.mb,1,none⟩=some (.slice (some ⟨g1,0,none⟩) s.ths.length cap1):=by rw [<-e1];exact h.cell (j:=1) (by decide) rfl
 have HH:=Lib.hid (And.intro h (And.intro e1 e2))
 obtain ⟨n,hn⟩: ∃n,s.ths.length=n:=⟨_,rfl⟩
 rw [hn]at c1 hc1 h8
 have HN:=Lib.hid (And.intro hn hbl)
 clear h e1 e2 hn hbl h0 hc2 hm2
 go_enter Tryz.func21,Tryz.ntmps21
 go_wp2_with fail
 go_loopw [10] (fun i wr=> ∃k:Nat,k<=n/\i= .int .i64 (k:Int)/\(∀j,j<k->doneT s j=true)/\Below W.heap.size W wr) (fun i _=>n-(intOf i).toNat)
 case atStart=>exact ⟨0,Nat.zero_le _,rfl,fun j hj=>absurd hj (Nat.not_lt_zero _),Below.refl _ _⟩
 case round=>
  obtain ⟨k,hk,rfl,hall,hB⟩:=hrel
  by_cases hkn:k<n
  ·have hk0:(0:Int)<=(k:Int):=by omega
   have hk1:(k:Int)<(n:Int):=by omega
   have h':=HH.out.1.below hB
   obtain ⟨g,cap,e1,hx1,hx2,hra,hx3⟩:=h'.thAt (t:=k) (by rw [HN.out.1];exact hkn)
   obtain ⟨gb,capb,cs,e2,hx4,hx5,hbuf,hrb,hx6⟩:=h'.bufAt (t:=k) (by rw [HN.out.2,HN.out.1];exact hkn)
   clear hx1 hx2 hx3 hx4 hx5 hx6
   rw [HH.out.2.1]at e1
   injection e1 with e1 e1n e1c
   clear e1n
   subst e1c
   injection e1 with e1
   injection e1 with e1 _ _
   subst e1
   have c2:wr.cell? ⟨B.mb,2,none⟩=some (.slice (some ⟨gb,0,none⟩) s.bufs.length capb):=by rw [<-e2];exact h'.cell (j:=2) (by decide) rfl
   rw [HN.out.2,HN.out.1]at c2
   have hlen:(s.bufs.getD k []).length<=16:=hbuf.le
   have hC:=len_any cs (s.bufs.getD k []) B.room hbuf
   obtain ⟨m,hm⟩: ∃m,(s.bufs.getD k []).length=m:=⟨_,rfl⟩
   obtain ⟨th,hth⟩: ∃th,s.ths.getD k tha=th:=⟨_,rfl⟩
   rw [hm]at hlen hC
   rw [hth]at hra
   have hlt2:gb<wr.heap.size:=(h'.lo gb (h'.vb 2 (by decide) gb (by rw [e2];rfl))).2
   have hbm:=h'.blt
   obtain ⟨pc,regs,st⟩:=th
   have hD:doneT s k=(st !=0&&st !=1&&m==0):=by unfold doneT;rw [hth,hm]
   have HA:=Lib.hid (And.intro hall (And.intro hD (And.intro hB (And.intro hrb (And.intro hlt2 (And.intro c2 (And.intro hbm (buf_infoL hbuf))))))))
   clear h' e2 hbuf hall hD hm hth hrb hlt2 c2 hB hbm
   have hz:=Blk.new wr 124 #[.int .i64 0,.int .u32 0,.int .u32 0,.int .u32 0,.int .u32 0,.int .u32 0,.int .u32 0,.int .u32 0,.int .u32 0,.int .i64 0]
   have hal:=(Below.refl wr.heap.size wr).alloc (Nat.le_refl _) (.cells #[.int .i64 0,.int .u32 0,.int .u32 0,.int .u32 0,.int .u32 0,.int .u32 0,.int .u32 0,.int .u32 0,.int .u32 0,.int .i64 0] 124)
   by_cases s0:st=0
   ·subst s0
    go_wp2_with (first|(refine wpList_load_mid rfl 124 (.tmp 13) rfl g1 (k*10) rfl (⟨pc,regs,0⟩:Th).cells _ hra Tryz.underlying124 rfl th_info ?_)|(refine wpList_store_row rfl 124 (.tmp 4) (.tmp 14) rfl _ rfl (thArr ⟨pc,regs,0⟩) rfl 124 _ hz rfl th_info (th_one _) ?_))
    intro W9 hb9 hg9
    have p9:W9.cell? ⟨wr.heap.size,9,none⟩=some (.int .i64 0):=(hb9.cell 9).trans rfl
    have hw9:Below wr.heap.size wr W9:=hal.trans (below_of_grownT hal.size hg9 (fun g e=>by cases e;exact Nat.le_refl _))
    have HB9:=Lib.hid (HA.out.2.2.1.trans (hw9.mono HA.out.2.2.1.size))
    have c2:=keepAt hw9 HA.out.2.2.2.2.2.2.1 HA.out.2.2.2.2.2.1
    have hrb9:=range_below HA.out.2.2.2.1 HA.out.2.2.2.2.1 hw9
    clear hz hal hw9
    go_wp2
    go_ret
    refine ⟨?_,HB9.out⟩
    rw [doneM_no (t:=k) (by rw [HN.out.1];exact hkn) (by rw [HA.out.2.1];rfl)]
    rfl
   ·by_cases s1:st=1
    ·subst s1
     go_wp2_with (first|(refine wpList_load_mid rfl 124 (.tmp 13) rfl g1 (k*10) rfl (⟨pc,regs,1⟩:Th).cells _ hra Tryz.underlying124 rfl th_info ?_)|(refine wpList_store_row rfl 124 (.tmp 4) (.tmp 14) rfl _ rfl (thArr ⟨pc,regs,1⟩) rfl 124 _ hz rfl th_info (th_one _) ?_))
     intro W9 hb9 hg9
     have p9:W9.cell? ⟨wr.heap.size,9,none⟩=some (.int .i64 1):=(hb9.cell 9).trans rfl
     have hw9:Below wr.heap.size wr W9:=hal.trans (below_of_grownT hal.size hg9 (fun g e=>by cases e;exact Nat.le_refl _))
     have HB9:=Lib.hid (HA.out.2.2.1.trans (hw9.mono HA.out.2.2.1.size))
     have c2:=keepAt hw9 HA.out.2.2.2.2.2.2.1 HA.out.2.2.2.2.2.1
     have hrb9:=range_below HA.out.2.2.2.1 HA.out.2.2.2.2.1 hw9
     clear hz hal hw9
     go_wp2
     go_ret
     refine ⟨?_,HB9.out⟩
     rw [doneM_no (t:=k) (by rw [HN.out.1];exact hkn) (by rw [HA.out.2.1];rfl)]
     rfl
    ·have hD:=HA.out.2.1
     rw [show (st !=0)=true by simpa using s0,show (st !=1)=true by simpa using s1]at hD
     have HD:=Lib.hid hD
     clear hD
     have hs0:(st==0)=false:=by simpa using s0
     have hs1:(st==1)=false:=by simpa using s1
     go_wp2_with (first|(refine wpList_load_mid rfl 124 (.tmp 13) rfl g1 (k*10) rfl (⟨pc,regs,st⟩:Th).cells _ hra Tryz.underlying124 rfl th_info ?_)|(refine wpList_store_row rfl 124 (.tmp 4) (.tmp 14) rfl _ rfl (thArr ⟨pc,regs,st⟩) rfl 124 _ hz rfl th_info (th_one _) ?_))
     intro W9 hb9 hg9
     have p9:W9.cell? ⟨wr.heap.size,9,none⟩=some (.int .i64 st):=(hb9.cell 9).trans rfl
     have hw9:Below wr.heap.size wr W9:=hal.trans (below_of_grownT hal.size hg9 (fun g e=>by cases e;exact Nat.le_refl _))
     have HB9:=Lib.hid (HA.out.2.2.1.trans (hw9.mono HA.out.2.2.1.size))
     have c2:=keepAt hw9 HA.out.2.2.2.2.2.2.1 HA.out.2.2.2.2.2.1
     have hrb9:=range_below HA.out.2.2.2.1 HA.out.2.2.2.2.1 hw9
     clear hz hal hw9
     go_wp2_with (refine wpList_load_midG (by simp [Region.wanted,yielded,s0,s1]) 114 (.tmp 29) rfl gb (k*35) rfl cs.toList _ hrb9 Tryz.underlying114 rfl HA.out.2.2.2.2.2.2.2 ?_)
     refine (hC W9).mono ?_
     rintro e W10 ⟨rfl,hB10⟩
     have HE:=Lib.hid (HB9.out.trans (hB10.mono HB9.out.size))
     clear hC hB10
     by_cases m0:m=0
     ·subst m0
      go_wp2
      go_roundw
      case rel=>
       refine ⟨k+1,by omega,by go_num,fun j hj=>?_,HE.out⟩
       by_cases c:j<k
       ·exact HA.out.1 j c
       ·obtain rfl:j=k:=by omega
        exact HD.out
      case measure=>simp [intOf];omega
     ·have m1:(0:Int)<(m:Int):=by omega
      go_wp2
      go_ret
      refine ⟨?_,HE.out⟩
      rw [doneM_no (t:=k) (by rw [HN.out.1];exact hkn) (by rw [HD.out];simpa using m0)]
      rfl
  ·obtain rfl:k=n:=by omega
   have hk1: ¬(k:Int)<(k:Int):=by omega
   have HA:=Lib.hid (And.intro hall hB)
   clear hall hB
   go_wp2
   go_ret
   refine ⟨?_,HA.out.2⟩
   rw [doneM_yes (by rw [HN.out.1];exact HA.out.1)]
   rfl
end Go.Proofs.YtmhfpjnkjlhbpaaGreatDoor
