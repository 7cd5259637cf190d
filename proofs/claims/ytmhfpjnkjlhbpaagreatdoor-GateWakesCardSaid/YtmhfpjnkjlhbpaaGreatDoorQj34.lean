/- gate: a condition; gate.Code of its ticket, its sleep, its broadcast. barrier (plain): meetings come to an end; what the words and the calls are then. condition: the codes that asking makes are the plain ones; where the law begins; calls. condition: for the law's walk: rows laid as they are; what is known of who has begun. obj.First: the first words of a condition. law21: awake. -/
import Derived.Test.YtmhfpjnkjlhbpaaGreatDoorQj29
import Derived.Test.YtmhfpjnkjlhbpaaGreatDoorQj32
import Derived.Test.YtmhfpjnkjlhbpaaGreatDoorQj33
import Derived.Test.YtmhfpjnkjlhbpaaGreatDoorQj27
namespace Go.Proofs.YtmhfpjnkjlhbpaaGreatDoor
open Go.ChangeShapes Go.WideShapes Go.ChangeAt Go.RowKit Go.Deep
set_option linter.unusedVariables false
set_option maxRecDepth 100000
set_option linter.unusedSimpArgs false
def BB.gtick (b:BB) (base own:Int):BB:=((b.ins ⟨16,4,8,0,base⟩).ins ⟨17,4,8,0,own⟩).close
def BB.gslp (b:BB) (base own:Int):BB:=((b.ins ⟨16,4,8,0,own⟩).ins ⟨23,4,8,0,base⟩).close
def BB.gsig (b:BB) (base k:Int):BB:=((b.gmore base).wake k base).close
set_option maxHeartbeats 2000000 in
theorem b_tick {N0 bb:Nat} {n:Nat} (base t:Int) {W:World} (h:BI N0 W bb BB.e) (hr:BB.e.Room (n+4)) (ht:0<=t/\t<=1000) (hb:0<=base/\base<=4294960000):Bls 68 #[.pointer (some ⟨bb,0,none⟩),.int .i64 5,.int .i64 t,.int .u32 base] N0 bb BB.e (BB.gtick BB.e base (base+1+t)) W:=by
 unfold Bls
 go_enter Tryz.func68,Tryz.ntmps68
 go_wp2_with fail
 refine Bls.step (b_ask (n:=n+3) _ _ _ h hr) ?_
 rintro _ W1 ⟨⟨u0,rfl⟩,h1,b1⟩
 have r1:=BI.rins (n:=n+3) h1 hr
 go_wp2_with fail
 refine Bls.step (b_ask (n:=n+2) _ _ _ h1 r1) ?_
 rintro _ W2 ⟨⟨u1,rfl⟩,h2,b2⟩
 have r2:=BI.rins (n:=n+2) h2 r1
 go_wp2_with fail
 refine Bls.step (b_close (n:=n) h2 r2 (by kernel_rfl)) ?_
 rintro _ W3 ⟨⟨u2,rfl⟩,h3,b3⟩
 have r3:=BB.Room.close r2
 go_wp2
 go_end0
 exact ⟨⟨_,rfl⟩,h3,b1.trans (b2.trans (b3))⟩
set_option maxHeartbeats 2000000 in
theorem b_gslp {N0 bb:Nat} {n:Nat} (base t:Int) {W:World} (h:BI N0 W bb BB.e) (hr:BB.e.Room (n+4)) (ht:0<=t/\t<=1000) (hb:0<=base/\base<=4294960000):Bls 68 #[.pointer (some ⟨bb,0,none⟩),.int .i64 6,.int .i64 t,.int .u32 base] N0 bb BB.e (BB.gslp BB.e base (base+1+t)) W:=by
 unfold Bls
 go_enter Tryz.func68,Tryz.ntmps68
 go_wp2_with fail
 refine Bls.step (b_ask (n:=n+3) _ _ _ h hr) ?_
 rintro _ W1 ⟨⟨u0,rfl⟩,h1,b1⟩
 have r1:=BI.rins (n:=n+3) h1 hr
 go_wp2_with fail
 refine Bls.step (b_ask (n:=n+2) _ _ _ h1 r1) ?_
 rintro _ W2 ⟨⟨u1,rfl⟩,h2,b2⟩
 have r2:=BI.rins (n:=n+2) h2 r1
 go_wp2_with fail
 refine Bls.step (b_close (n:=n) h2 r2 (by kernel_rfl)) ?_
 rintro _ W3 ⟨⟨u2,rfl⟩,h3,b3⟩
 have r3:=BB.Room.close r2
 go_wp2
 go_end0
 exact ⟨⟨_,rfl⟩,h3,b1.trans (b2.trans (b3))⟩
set_option maxHeartbeats 2000000 in
theorem b_gbro {N0 bb:Nat} {n:Nat} (base t:Int) {W:World} (h:BI N0 W bb BB.e) (hr:BB.e.Room (n+6)) (ht:0<=t/\t<=1000) (hb:0<=base/\base<=4294960000):Bls 68 #[.pointer (some ⟨bb,0,none⟩),.int .i64 8,.int .i64 t,.int .u32 base] N0 bb BB.e (BB.gsig BB.e base 4294967295) W:=by
 unfold Bls
 go_enter Tryz.func68,Tryz.ntmps68
 go_wp2_with fail
 refine Bls.step (b_gmore (n:=n+4) _ h hr) ?_
 rintro _ W1 ⟨⟨u0,rfl⟩,h1,b1⟩
 have r1:=BB.Room.gmore hr base
 go_wp2_with fail
 refine (every_any _).mono ?_
 rintro e W2 ⟨rfl,rfl⟩
 have h2:=h1
 have b2:=BelF.refl N0 W2
 have r2:=r1
 go_wp2_with fail
 refine Bls.step (b_wake (n:=n+2) _ _ h2 r2) ?_
 rintro _ W3 ⟨⟨u2,rfl⟩,h3,b3⟩
 have r3:=BB.Room.wake r2 4294967295 base
 go_wp2_with fail
 refine Bls.step (b_close (n:=n) h3 r3 (by kernel_rfl)) ?_
 rintro _ W4 ⟨⟨u3,rfl⟩,h4,b4⟩
 have r4:=BB.Room.close r3
 go_wp2
 go_end0
 exact ⟨⟨_,rfl⟩,h4,b1.trans (b2.trans (b3.trans (b4)))⟩
set_option maxHeartbeats 4000000 in
theorem code_tick (threads base t arg:Int) (ht:1<=threads/\threads<=8) (h0:0<=t/\t<threads) (hb:0<=base/\base<=4294960000) (ha:0<=arg/\arg<=4294967295) (W:World) (hT:Tab W) (hO:ONam W):
 Calls Tryz.prog 34 #[.agg #[.int .i64 12,.int .i64 0,.int .i64 0,.int .i64 0],.int .i64 5,.int .i64 threads,.int .i64 t,.int .u32 base,.int .u32 arg] W fun e W'=>(∃v,e= .returned (.tuple #[v,.bool true])/\OutI W v (BB.gtick BB.e base (base+1+t)).out W')/\Below W.heap.size W W':=by
 have hq:=Blk.new W 46 #[.int .i64 12,.int .i64 0,.int .i64 0,.int .i64 0]
 have hB:=(Below.refl W.heap.size W).alloc (Nat.le_refl _) (.cells #[.int .i64 12,.int .i64 0,.int .i64 0,.int .i64 0] 46)
 have q0:=(hq.cell 0).trans rfl
 have q1:=(hq.cell 1).trans rfl
 have q2:=(hq.cell 2).trans rfl
 have q3:=(hq.cell 3).trans rfl
 have htt:t<=1000:=by omega
 have cMy:=may_nam 12 (.inl rfl) 5 threads t ht h0 (by decide) (W.alloc (.cells #[.int .i64 12,.int .i64 0,.int .i64 0,.int .i64 0] 46)) (hO.step hB)
 go_enter Tryz.func34,Tryz.ntmps34
 go_wp2_with fail
 refine cMy.mono ?_
 rintro e V0 ⟨rfl,hB0⟩
 clear cMy
 have hq0:=hq.below hB0 hq.lt
 have hb0:=step_below hB hB0
 clear q0 q1 q2 q3 hB hB0 hq
 have hI:=BI.fresh (N0:=W.heap.size) (W:=V0) hb0.size
 have hal:=(Below.refl V0.heap.size V0).alloc (Nat.le_refl _) (.cells #[.slice none 0 0,.map none,.slice none 0 0,.bool false] 130)
 have hb1:=step_below hb0 hal
 have hqs:=hq0.below hal hq0.lt
 have q0:=(hqs.cell 0).trans rfl
 have q1:=(hqs.cell 1).trans rfl
 have q2:=(hqs.cell 2).trans rfl
 have q3:=(hqs.cell 3).trans rfl
 clear hal hqs hq0
 have HZ:=Lib.hid (And.intro hb0 (And.intro hb1 hT))
 clear hb0 hT
 obtain ⟨bb,hbb⟩: ∃bb,V0.heap.size=bb:=⟨_,rfl⟩
 rw [hbb]at hI
 have hr:=BB.e_room 900 (by decide)
 go_wp2_with fail
 try rw [hbb]
 refine Bls.step (b_tick (n:=896) _ _ hI hr (by omega) hb) ?_
 rintro _ W1 ⟨⟨u0,rfl⟩,h1,b1⟩
 have hbz:=hb1.trans b1.b
 have hTz:=HZ.out.2.2.step hbz
 go_wp2_with fail
 refine (bcode_any W.heap.size bb _ W1 h1 hTz (by kernel_rfl) (Nat.le_of_ble_eq_true (by kernel_rfl)) (Nat.le_of_ble_eq_true (by kernel_rfl)) (Nat.le_of_ble_eq_true (by kernel_rfl))).mono ?_
 rintro e V9 ⟨⟨v,rfl,hO9⟩,hB9⟩
 go_wp2
 go_ret2
 exact ⟨⟨_,rfl,hO9.below hbz.size⟩,step_below hbz hB9⟩
set_option maxHeartbeats 4000000 in
theorem code_gslp (threads base t arg:Int) (ht:1<=threads/\threads<=8) (h0:0<=t/\t<threads) (hb:0<=base/\base<=4294960000) (ha:0<=arg/\arg<=4294967295) (W:World) (hT:Tab W) (hO:ONam W):
 Calls Tryz.prog 34 #[.agg #[.int .i64 12,.int .i64 0,.int .i64 0,.int .i64 0],.int .i64 6,.int .i64 threads,.int .i64 t,.int .u32 base,.int .u32 arg] W fun e W'=>(∃v,e= .returned (.tuple #[v,.bool true])/\OutI W v (BB.gslp BB.e base (base+1+t)).out W')/\Below W.heap.size W W':=by
 have hq:=Blk.new W 46 #[.int .i64 12,.int .i64 0,.int .i64 0,.int .i64 0]
 have hB:=(Below.refl W.heap.size W).alloc (Nat.le_refl _) (.cells #[.int .i64 12,.int .i64 0,.int .i64 0,.int .i64 0] 46)
 have q0:=(hq.cell 0).trans rfl
 have q1:=(hq.cell 1).trans rfl
 have q2:=(hq.cell 2).trans rfl
 have q3:=(hq.cell 3).trans rfl
 have htt:t<=1000:=by omega
 have cMy:=may_nam 12 (.inl rfl) 6 threads t ht h0 (by decide) (W.alloc (.cells #[.int .i64 12,.int .i64 0,.int .i64 0,.int .i64 0] 46)) (hO.step hB)
 go_enter Tryz.func34,Tryz.ntmps34
 go_wp2_with fail
 refine cMy.mono ?_
 rintro e V0 ⟨rfl,hB0⟩
 clear cMy
 have hq0:=hq.below hB0 hq.lt
 have hb0:=step_below hB hB0
 clear q0 q1 q2 q3 hB hB0 hq
 have hI:=BI.fresh (N0:=W.heap.size) (W:=V0) hb0.size
 have hal:=(Below.refl V0.heap.size V0).alloc (Nat.le_refl _) (.cells #[.slice none 0 0,.map none,.slice none 0 0,.bool false] 130)
 have hb1:=step_below hb0 hal
 have hqs:=hq0.below hal hq0.lt
 have q0:=(hqs.cell 0).trans rfl
 have q1:=(hqs.cell 1).trans rfl
 have q2:=(hqs.cell 2).trans rfl
 have q3:=(hqs.cell 3).trans rfl
 clear hal hqs hq0
 have HZ:=Lib.hid (And.intro hb0 (And.intro hb1 hT))
 clear hb0 hT
 obtain ⟨bb,hbb⟩: ∃bb,V0.heap.size=bb:=⟨_,rfl⟩
 rw [hbb]at hI
 have hr:=BB.e_room 900 (by decide)
 go_wp2_with fail
 try rw [hbb]
 refine Bls.step (b_gslp (n:=896) _ _ hI hr (by omega) hb) ?_
 rintro _ W1 ⟨⟨u0,rfl⟩,h1,b1⟩
 have hbz:=hb1.trans b1.b
 have hTz:=HZ.out.2.2.step hbz
 go_wp2_with fail
 refine (bcode_any W.heap.size bb _ W1 h1 hTz (by kernel_rfl) (Nat.le_of_ble_eq_true (by kernel_rfl)) (Nat.le_of_ble_eq_true (by kernel_rfl)) (Nat.le_of_ble_eq_true (by kernel_rfl))).mono ?_
 rintro e V9 ⟨⟨v,rfl,hO9⟩,hB9⟩
 go_wp2
 go_ret2
 exact ⟨⟨_,rfl,hO9.below hbz.size⟩,step_below hbz hB9⟩
set_option maxHeartbeats 4000000 in
theorem code_gbro (threads base t arg:Int) (ht:1<=threads/\threads<=8) (h0:0<=t/\t<threads) (hb:0<=base/\base<=4294960000) (ha:0<=arg/\arg<=4294967295) (W:World) (hT:Tab W) (hO:ONam W):
 Calls Tryz.prog 34 #[.agg #[.int .i64 12,.int .i64 0,.int .i64 0,.int .i64 0],.int .i64 8,.int .i64 threads,.int .i64 t,.int .u32 base,.int .u32 arg] W fun e W'=>(∃v,e= .returned (.tuple #[v,.bool true])/\OutI W v (BB.gsig BB.e base 4294967295).out W')/\Below W.heap.size W W':=by
 have hq:=Blk.new W 46 #[.int .i64 12,.int .i64 0,.int .i64 0,.int .i64 0]
 have hB:=(Below.refl W.heap.size W).alloc (Nat.le_refl _) (.cells #[.int .i64 12,.int .i64 0,.int .i64 0,.int .i64 0] 46)
 have q0:=(hq.cell 0).trans rfl
 have q1:=(hq.cell 1).trans rfl
 have q2:=(hq.cell 2).trans rfl
 have q3:=(hq.cell 3).trans rfl
 have htt:t<=1000:=by omega
 have cMy:=may_nam 12 (.inl rfl) 8 threads t ht h0 (by decide) (W.alloc (.cells #[.int .i64 12,.int .i64 0,.int .i64 0,.int .i64 0] 46)) (hO.step hB)
 go_enter Tryz.func34,Tryz.ntmps34
 go_wp2_with fail
 refine cMy.mono ?_
 rintro e V0 ⟨rfl,hB0⟩
 clear cMy
 have hq0:=hq.below hB0 hq.lt
 have hb0:=step_below hB hB0
 clear q0 q1 q2 q3 hB hB0 hq
 have hI:=BI.fresh (N0:=W.heap.size) (W:=V0) hb0.size
 have hal:=(Below.refl V0.heap.size V0).alloc (Nat.le_refl _) (.cells #[.slice none 0 0,.map none,.slice none 0 0,.bool false] 130)
 have hb1:=step_below hb0 hal
 have hqs:=hq0.below hal hq0.lt
 have q0:=(hqs.cell 0).trans rfl
 have q1:=(hqs.cell 1).trans rfl
 have q2:=(hqs.cell 2).trans rfl
 have q3:=(hqs.cell 3).trans rfl
 clear hal hqs hq0
 have HZ:=Lib.hid (And.intro hb0 (And.intro hb1 hT))
 clear hb0 hT
 obtain ⟨bb,hbb⟩: ∃bb,V0.heap.size=bb:=⟨_,rfl⟩
 rw [hbb]at hI
 have hr:=BB.e_room 900 (by decide)
 go_wp2_with fail
 try rw [hbb]
 refine Bls.step (b_gbro (n:=894) _ _ hI hr (by omega) hb) ?_
 rintro _ W1 ⟨⟨u0,rfl⟩,h1,b1⟩
 have hbz:=hb1.trans b1.b
 have hTz:=HZ.out.2.2.step hbz
 go_wp2_with fail
 refine (bcode_any W.heap.size bb _ W1 h1 hTz (by kernel_rfl) (Nat.le_of_ble_eq_true (by kernel_rfl)) (Nat.le_of_ble_eq_true (by kernel_rfl)) (Nat.le_of_ble_eq_true (by kernel_rfl))).mono ?_
 rintro e V9 ⟨⟨v,rfl,hO9⟩,hB9⟩
 go_wp2
 go_ret2
 exact ⟨⟨_,rfl,hO9.below hbz.size⟩,step_below hbz hB9⟩
def conO (n t i:Nat):List Ins:=if t<n then (if i=0 then (BB.gtick BB.e 16 (16+1+(t:Int))).out else (BB.gslp BB.e 16 (16+1+(t:Int))).out)else (BB.gsig BB.e 16 4294967295).out
def conR (n t:Nat):List Int:=if t<n then [5,6]else [8]
def conT (n t:Nat):List Ins:=(if t<n then condL t else bcL).map Op.ins
theorem conO_tick (t:Nat):(BB.gtick BB.e 16 (16+1+(t:Int))).out=[⟨16,4,8,0,16⟩,⟨17,4,8,0,16+1+(t:Int)⟩,⟨1,7,0,0,0⟩]:=by kernel_rfl
theorem conO_slp (t:Nat):(BB.gslp BB.e 16 (16+1+(t:Int))).out=[⟨16,4,8,0,16+1+(t:Int)⟩,⟨23,4,8,0,16⟩,⟨1,7,0,0,0⟩]:=by kernel_rfl
theorem conO_bro:(BB.gsig BB.e 16 4294967295).out=[⟨1,4,0,0,1⟩,⟨20,4,8,0,16⟩,⟨1,4,0,0,4294967295⟩,⟨24,4,8,0,16⟩,⟨1,7,0,0,0⟩]:=by kernel_rfl
theorem con_ask (n t:Nat):askL (conO n t) (fun i=>(conR n t).getD i 0) (conR n t).length=conT n t:=by
 unfold conT conR
 by_cases h:t<n
 ·simp only [if_pos h]
  have e0:conO n t 0=[⟨16,4,8,0,16⟩,⟨17,4,8,0,16+1+(t:Int)⟩,⟨1,7,0,0,0⟩]:=by unfold conO;rw [if_pos h,if_pos rfl,conO_tick]
  have e1:conO n t 1=[⟨16,4,8,0,16+1+(t:Int)⟩,⟨23,4,8,0,16⟩,⟨1,7,0,0,0⟩]:=by unfold conO;rw [if_pos h,if_neg (by decide),conO_slp]
  show askL (conO n t) _ 2=_
  rw [askL_succ,askL_succ,e0,e1]
  simp [askL,condL,Op.ins,movedI,jmpB]
 ·simp only [if_neg h]
  have e0:conO n t 0=[⟨1,4,0,0,1⟩,⟨20,4,8,0,16⟩,⟨1,4,0,0,4294967295⟩,⟨24,4,8,0,16⟩,⟨1,7,0,0,0⟩]:=by unfold conO;rw [if_neg h,conO_bro]
  show askL (conO n t) _ 1=_
  rw [askL_succ,e0]
  simp [askL,bcL,Op.ins,movedI,jmpB]
theorem condL_ok (n t:Nat) (h:t<n) (hn:n<=7): ∀op∈condL t,opOk (condL t).length (18+n) op:=by
 intro op hop
 simp only [condL,List.mem_cons,List.not_mem_nil,or_false]at hop
 rcases hop with rfl|rfl|rfl|rfl|rfl|rfl|rfl|rfl|rfl|rfl<;>(dsimp only [opOk];omega)
theorem bcL_ok (n:Nat): ∀op∈bcL,opOk bcL.length (18+n) op:=by
 intro op hop
 simp only [bcL,List.mem_cons,List.not_mem_nil,or_false]at hop
 rcases hop with rfl|rfl|rfl|rfl|rfl|rfl|rfl<;>(dsimp only [opOk];omega)
theorem conL_ok (n t:Nat) (hn:n<=7): ∀op∈(if t<n then condL t else bcL),opOk (if t<n then condL t else bcL).length (18+n) op:=by
 split
 ·exact condL_ok n t (by assumption) hn
 ·exact bcL_ok n
theorem conT_len (n t:Nat):(conT n t).length=(if t<n then condL t else bcL).length:=by unfold conT;rw [List.length_map]
theorem conL_len (n t:Nat):(if t<n then condL t else bcL).length<=10:=by
 split
 ·exact Nat.le_refl _
 ·show 7<=10;omega
theorem conT_good (n t:Nat) (hn:n<=7):(∀x∈conT n t,x.Ok)/\(∀x∈conT n t,rightB x ((conT n t).length:Int)=true)/\(conT n t).length<=4000:=by
 have hl:=conL_len n t
 have one: ∀x∈conT n t,rightB x ((if t<n then condL t else bcL).length:Int)=true/\x.Ok:=fun x hx=>by
  obtain ⟨op,h1,rfl⟩:=List.mem_map.1 hx
  obtain ⟨q1,q2,_⟩:=(conL_ok n t hn op h1).right (by omega) (by omega)
  exact ⟨q1,q2⟩
 exact ⟨fun x hx=>(one x hx).2,fun x hx=>by rw [conT_len];exact (one x hx).1,by rw [conT_len];omega⟩
theorem flat_of {B:MB} {t:Nat} {l:List Op} (hl:(B.codes.getD t cdd).len=(l.map Op.ins).length) (hF:(B.codes.getD t cdd).F=fun i=>(l.map Op.ins).getD i default) (hok: ∀op∈l,opOk l.length B.m op) (hs:l.length<=4000) (hm:B.m<=1024):Flat B t l:=by
 refine ⟨by rw [hl,List.length_map],fun p op hp=>?_,fun op hop=>?_⟩
 ·rw [hF]
  show (l.map Op.ins).getD p default=op.ins
  rw [List.getD_eq_getElem?_getD,List.getElem?_map,hp];rfl
 ·obtain ⟨h1,_,h3⟩:=(hok op hop).right hs hm
  rw [hl,List.length_map]
  exact ⟨h1,h3⟩
theorem conB_of {p:Pg} {B:MB} (hN':NewM p B) {n:Nat} (hn:n<=7) (hpn:p.n=n+1) (hm:p.m=18+n) (hcd: ∀t,t<p.n->(p.cd t).len=(conT n t).length/\(p.cd t).F=fun i=>(conT n t).getD i default):ConB B n:=by
 have hnc:B.codes.length=p.n:=hN'.n
 have hf: ∀t,t<n+1->Flat B t (if t<n then condL t else bcL):=fun t ht=>by
  have h1:=hN'.cd t (by omega)
  have h2:=hcd t (by omega)
  have hl:=conL_len n t
  refine flat_of (by rw [h1.1,h2.1];rfl) (by rw [h1.2.1,h2.2];rfl) (fun op hop=>?_) (by omega) (by rw [hN'.m,hm];omega)
  rw [hN'.m,hm]
  exact conL_ok n t hn op hop
 refine ⟨by omega,fun t ht=>?_,?_⟩
 ·have :=hf t (by omega)
  rw [if_pos ht]at this
  exact this
 ·have :=hf n (by omega)
  rw [if_neg (by omega)]at this
  exact this
theorem con_begin {p:Pg} {B:MB} (hp:p.Ok) (hN':NewM p B) (hroom:B.room=p.room) (hr:1<=p.room/\p.room<=16) {n:Nat} (hn:1<=n/\n<=7) (hpn:p.n=n+1) (hm:p.m=18+n) (hZ: ∀i,p.Z i=0)
 (hcd: ∀t,t<p.n->(p.cd t).len=(conT n t).length/\(p.cd t).F=fun i=>(conT n t).getD i default):ConB B n/\Wf B (t0 p)/\ConI n (vw (t0 p))/\ ∀u,((vw (t0 p)).th u).pc=0:=by
 have h0:=t0_ok hp hN'
 have hw:Wf B (t0 p):=⟨h0,by show ((List.range p.m).map p.Z).length=B.m;rw [List.length_map,List.length_range,hN'.m],by rw [hroom];exact hr.1⟩
 have hth: ∀t,(vw (t0 p)).th t=tha:=fun t=>by
  show (List.replicate p.n tha).getD t tha=tha
  rw [List.getD_eq_getElem?_getD,List.getElem?_replicate];split<;>rfl
 have hbf: ∀t,(vw (t0 p)).bf t=[]:=fun t=>by
  show (List.replicate p.n ([]:List Ent)).getD t []=[]
  rw [List.getD_eq_getElem?_getD,List.getElem?_replicate];split<;>rfl
 have hmem: ∀a,(vw (t0 p)).mem a=0:=fun a=>by
  show ((List.range p.m).map p.Z).getD a 0=0
  rw [List.getD_eq_getElem?_getD,List.getElem?_map]
  cases (List.range p.m)[a]? with
  |none=>rfl
  |some i=>exact hZ i
 have t1:tha.st≠1:=by show (0:Int)≠1;decide
 have ev:(vw (t0 p)).evs=[]:=rfl
 have sl:(vw (t0 p)).slp=[]:=rfl
 refine ⟨conB_of hN' hn.2 hpn hm hcd,hw,⟨hn,fun t ht=>?_,?_,?_,fun t ht=>hmem _,fun x hx=>?_,fun u hu q=>?_,.inl ?_,fun u hu q=>?_,fun x hx=>?_,fun t ht=>?_,fun t ht x hx=>?_,?_⟩,fun u=>by rw [hth];rfl⟩
 ·rw [hth,hbf];exact ⟨0,rfl,by omega,.inl rfl,.inl rfl,fun q=>by omega,fun q=>by omega⟩
 ·rw [hth,hbf];exact ⟨0,rfl,by omega,rfl,.inl rfl,fun q=>by omega,fun q=>by omega⟩
 ·rw [hmem,hth];rfl
 ·rw [sl]at hx;cases hx
 ·rw [hth]at q;exact absurd q t1
 ·rw [hth];rfl
 ·rw [hth]at q;exact absurd q t1
 ·rw [ev]at hx;cases hx
 ·rw [ev,hth];rfl
 ·rw [ev]at hx;cases hx
 ·rw [ev,hth];rfl
theorem con_count {n:Nat} {v:Vw} (hk:EvK v.evs) (H:ConI n v):(allC (evF v.evs) v.evs.length).length=sumT n (fun u=>begS (v.th u))+(if 1<=(v.th n).pc then 1 else 0):=by
 obtain ⟨l,hl⟩: ∃l,v.evs=l:=⟨_,rfl⟩
 have hok:=H.evw
 have hc:=H.evc
 have hcb:=H.evb
 rw [hl]at hk hok hc hcb
 rw [hl]
 have hN:=H.n3
 obtain ⟨p,hp⟩: ∃p:Nat->Bool,(fun i=>begBB (evF l) i&&(decide (0<=(evF l i).who)&&decide ((evF l i).who<8)))=p:=⟨_,rfl⟩
 have hC:allC (evF l) l.length=((List.range l.length).filter p).map fun i=>(oneS (evF l) l.length i).1:=by rw [<-hp];rfl
 have hlen:(allC (evF l) l.length).length=cF p l.length:=by rw [hC,List.length_map];rfl
 have at_: ∀e,e<l.length-> ∃x,l[e]?=some x/\l.getD e ev0=x/\(evF l e).kind=x.kind/\(evF l e).who=x.who/\(evF l e).value=x.value/\(evF l e).k=x.k:=fun e h=>by
  obtain ⟨x,h1,h2⟩:=evF_at hk h
  exact ⟨x,h1,by rw [List.getD_eq_getElem?_getD,h1];rfl,h2⟩
 have mem_: ∀{e x},l[e]?=some x->x∈l:=fun h=>by
  obtain ⟨h1,h2⟩:=List.getElem?_eq_some_iff.1 h
  rw [<-h2];exact List.getElem_mem h1
 have pIs: ∀e,e<l.length->(p e=true↔(l.getD e ev0).kind=7/\(l.getD e ev0).k % 2=0):=fun e h=>by
  obtain ⟨x,h1,h2,h3,h4,h5,h6⟩:=at_ e h
  rw [h2,<-hp]
  simp only [begBB,Bool.and_eq_true,beq_iff_eq,decide_eq_true_eq,h3,h4,h6]
  constructor
  ·rintro ⟨q,_⟩;exact q
  ·rintro ⟨q1,q2⟩
   have :=hok x (mem_ h1) q1
   exact ⟨⟨q1,q2⟩,by omega,by omega⟩
 obtain ⟨b,hb⟩: ∃b:Nat->Nat->Bool,(fun u e=>isEvn u (l.getD e ev0))=b:=⟨_,rfl⟩
 have bIs: ∀u e,b u e=true↔((l.getD e ev0).kind=7/\(l.getD e ev0).k % 2=0)/\(l.getD e ev0).who=(u:Int):=fun u e=>by
  rw [<-hb]
  simp only [isEvn,Bool.and_eq_true,beq_iff_eq,and_assoc]
 have hsum:cF (fun e=>p e&&true) l.length=sumT (n+1) fun u=>cF (fun e=>b u e&&true) l.length:=cF_sum (N:=n+1) (b:=b) (Q:=fun _=>true) (fun e he=>by
  by_cases hpe:p e=true
  ·rw [if_pos hpe]
   have hq:=(pIs e he).1 hpe
   obtain ⟨z,z1,z2,_⟩:=at_ e he
   rw [z2]at hq
   have hz:=hok z (mem_ z1) hq.1
   have e5:(sumT (n+1) fun u=>if b u e=true then 1 else 0)+(if false=true then 1 else 0)=sumT (n+1) (fun _=>0)+1:=by
    have :=sumT_upd (W:=n+1) (t:=z.who.toNat) (f:=fun _=>0) (g:=fun u=>if b u e=true then 1 else 0) (by omega) (fun u hu hne=>if_neg (fun q=>by
     have :=((bIs u e).1 q).2
     rw [z2]at this
     omega))
    have e6:(if b z.who.toNat e=true then 1 else 0)=1:=if_pos ((bIs _ _).2 ⟨by rw [z2];exact hq,by rw [z2];omega⟩)
    rw [e6]at this
    rw [if_neg (by decide)]
    exact this
   rw [sumT_const,Nat.mul_zero,if_neg (by decide)]at e5
   omega
  ·rw [if_neg hpe]
   have e5:(sumT (n+1) fun u=>if b u e=true then 1 else 0)=sumT (n+1) fun _=>0:=sumT_congr (fun u _=>if_neg (fun q=>hpe ((pIs e he).2 ((bIs u e).1 q).1)))
   rw [e5,sumT_const,Nat.mul_zero])
 have e1:cF (fun e=>p e&&true) l.length=cF p l.length:=cF_congr (fun e _=>Bool.and_true _)
 have e0: ∀u,cF (fun e=>b u e&&true) l.length=cntE (isEvn u) l:=fun u=>by
  have e3:cF (fun e=>b u e&&true) l.length=cF (b u) l.length:=cF_congr (fun e _=>Bool.and_true _)
  have e4:=cntE_take (isEvn u) l l.length (Nat.le_refl _)
  rw [List.take_length]at e4
  rw [e3,<-hb]
  exact e4.symm
 rw [hlen,<-e1,hsum,sumT_succ,e0,hcb]
 congr 1
 exact sumT_congr (fun u hu=>(e0 u).trans (hc u hu))
theorem con_ended {n:Nat} {v:Vw} (hk:EvK v.evs) (H:ConI n v) {c:Cl} (hc:c∈allC (evF v.evs) v.evs.length) {u:Nat} (hu:u<n) (hw:c.who=(u:Int)) (he:0<=c.ended):5<=(v.th u).pc:=by
 obtain ⟨i,h1,h2,h3,h4,h5,h6,h7,h8,h9⟩:=call_at hc
 rcases h9 with h9|⟨j,j1,j2,j3,j4,j5,j6,_⟩
 ·omega
 ·obtain ⟨x,q1,q2,q3,q4,q5⟩:=evF_at hk j2
  have hm:x∈v.evs:=by
   obtain ⟨h1,h2⟩:=List.getElem?_eq_some_iff.1 q1
   rw [<-h2];exact List.getElem_mem h1
  rw [q2]at j4
  rw [q5]at j6
  exact H.evo u hu x hm j4 (by rw [<-q3,j5,<-h5,hw]) (by omega)
structure ConPh (n u:Nat) (B:MB) (s:Mst):Prop where
 w:Wf B s
 I:ConI n (vw s)
 E:EvK s.evs
 lo: ∀t,t<u->5<=((vw s).th t).pc
 hi: ∀t,u<t->t<=n->((vw s).th t).pc=0
theorem ConPh.pick {n u k:Nat} {B:MB} {s:Mst} (hB:MBok B) (hC:ConB B n) (hu:u<n) (h:ConPh n u B s) (hw:wkC n (vw s) u<=k+1∨5<=((vw s).th u).pc):ConPh n u B (tPick B s (0,(u:Int)))/\(wkC n (vw (tPick B s (0,(u:Int)))) u<=k∨5<=((vw (tPick B s (0,(u:Int)))).th u).pc)/\((vw s).th u).pc<=((vw (tPick B s (0,(u:Int)))).th u).pc:=by
 have P:=con_pick h.w hC h.I (0,(u:Int)) (fun e=>by injection e with _ e;omega)
 refine ⟨⟨h.w.pick hB _,P.I,tPick_evk hB h.w.ok h.E _,fun t ht=>Int.le_trans (h.lo t ht) (P.mono t),fun t ht hn=>by rw [P.oth t (by show (t:Int)≠(u:Int);omega)];exact h.hi t ht hn⟩,?_,P.mono u⟩
 have hm:=P.mono u
 by_cases h5:5<=((vw s).th u).pc
 ·exact .inr (by omega)
 ·refine .inl ?_
  have hst:((vw s).th u).st=0:=by
   obtain ⟨o,p1,p2,p3,p4,_⟩:=h.I.sl u hu
   rcases p4 with z|⟨z,_⟩|⟨z,_⟩
   ·exact z
   ·omega
   ·omega
  have :=P.lt u (by omega) rfl hst
  have :=hw.resolve_right h5
  omega
theorem ConPh.start {n u:Nat} {B:MB} {s:Mst} (h:ConPh n u B s) (hu:u<n) (hz:((vw s).th u).pc=0):wkC n (vw s) u<=12:=by
 obtain ⟨o,p1,p2,p3,p4,_⟩:=h.I.sl u hu
 have ho:o=0:=by omega
 subst ho
 rw [wkC_at hu p1]
 have hb:(vw s).bf u=[]:=p3.resolve_right (by omega)
 rw [hb]
 have :nd ((vw s).th u)<=1:=by unfold nd;split<;>omega
 show (10-0)+1+_+0<=12
 omega
theorem begS_le (th:Th):begS th<=2:=by unfold begS;split<;>split<;>omega
theorem ConPh.calls {n u:Nat} {B:MB} {s:Mst} (h:ConPh n u B s) (hu:u<n):(allC (evF s.evs) s.evs.length).length<=2*u+begS ((vw s).th u)/\begS ((vw s).th u)<=(allC (evF s.evs) s.evs.length).length/\(allC (evF s.evs) s.evs.length).length<=16:=by
 have hc:=con_count (v:=vw s) h.E h.I
 have hn:=h.hi n hu (Nat.le_refl _)
 rw [hn,if_neg (by decide),Nat.add_zero]at hc
 have hs: ∀W,(W<=u->sumT W (fun t=>begS ((vw s).th t))<=2*W)/\(u<W->W<=n->sumT W (fun t=>begS ((vw s).th t))<=2*u+begS ((vw s).th u)/\begS ((vw s).th u)<=sumT W (fun t=>begS ((vw s).th t))):=fun W=>by
  induction W with
  |zero=>exact ⟨fun _=>Nat.le_refl _,fun q=>by omega⟩
  |succ W ih=>
   have hb:=begS_le ((vw s).th W)
   refine ⟨fun q=>by have :=ih.1 (by omega);rw [sumT_succ];omega,fun q q2=>?_⟩
   rw [sumT_succ]
   rcases Nat.lt_or_ge u W with c|c
   ·have h1:=ih.2 c (by omega)
    have e:begS ((vw s).th W)=0:=by unfold begS;rw [h.hi W c (by omega)];rfl
    rw [e];omega
   ·have e:W=u:=by omega
    have h1:=ih.1 (by omega)
    rw [e]at h1⊢
    omega
 have h1:=(hs n).2 hu (Nat.le_refl _)
 have h2:=begS_le ((vw s).th u)
 have h3:=h.I.n3.2
 have hc':(allC (evF s.evs) s.evs.length).length=sumT n (fun t=>begS ((vw s).th t)):=hc
 rw [hc']
 exact ⟨h1.1,h1.2,by omega⟩
theorem begS_pos {th:Th} (h:1<=th.pc):1<=begS th:=by unfold begS;rw [if_pos h];split<;>omega
theorem begS_none {th:Th} (h:th.pc<=0):begS th=0:=by unfold begS;rw [if_neg (by omega),if_neg (by omega)]
theorem con_left {n:Nat} {v:Vw} (H:ConI n v) (hn:n<=3) (h5: ∀t,t<n->5<=(v.th t).pc):sumT (n+1) (wkC n v)<=29:=by
 have h1: ∀W,W<=n->sumT W (wkC n v)<=7*W:=fun W=>by
  induction W with
  |zero=>intro _;exact Nat.le_refl _
  |succ W ih=>
   intro hW
   have :=ih (by omega)
   rw [sumT_succ]
   obtain ⟨o,p1,p2,p3,p4,_⟩:=H.sl W (by omega)
   have h6:=h5 W (by omega)
   have :wkC n v W<=7:=by
    rw [wkC_at (by omega) p1,if_neg (by omega)]
    have hb:(v.bf W).length<=1:=by
     rcases p3 with z|⟨_,_,z⟩
     ·rw [z];exact Nat.zero_le _
     ·rw [z];exact Nat.le_refl _
    have :nd (v.th W)<=1:=by unfold nd;split<;>omega
    omega
   omega
 have h2:wkC n v n<=8:=by
  obtain ⟨o,p1,_⟩:=H.br
  rw [wkC_b p1]
  have :nd (v.th n)<=1:=by unfold nd;split<;>omega
  omega
 have :=h1 n (Nat.le_refl _)
 rw [sumT_succ]
 omega
theorem own_lit2 (W:World) (x y:Int) {base:Nat} (hb:base<=W.heap.size):(W.alloc (.cells #[.int .i64 x,.int .i64 y] 3)).ownsRow base 3 1 (.slice (some ⟨W.heap.size,0,none⟩) 2 2) 2 ([x,y].map (Value.int .i64)):=
 ⟨rfl,.inr ⟨W.heap.size,2,_,rfl,hb,Blk.new W 3 #[.int .i64 x,.int .i64 y],Nat.le_refl _,by unfold maxLen;decide,rfl,rfl⟩⟩
theorem own_lit1 (W:World) (x:Int) {base:Nat} (hb:base<=W.heap.size):(W.alloc (.cells #[.int .i64 x] 3)).ownsRow base 3 1 (.slice (some ⟨W.heap.size,0,none⟩) 1 1) 1 ([x].map (Value.int .i64)):=
 ⟨rfl,.inr ⟨W.heap.size,1,_,rfl,hb,Blk.new W 3 #[.int .i64 x],Nat.le_refl _,by unfold maxLen;decide,rfl,rfl⟩⟩
theorem conR_lo {n t:Nat} (h:t<n):conR n t=[5,6]:=if_pos h
theorem conR_hi (n:Nat):conR n n=[8]:=if_neg (by omega)
theorem ConPh.one {n u:Nat} {B:MB} {s:Mst} (h:ConPh n u B s) (hu:u<n) (h1:1<=((vw s).th u).pc):wkC n (vw s) u<=11:=by
 obtain ⟨o,p1,p2,p3,p4,_⟩:=h.I.sl u hu
 rw [wkC_at hu p1]
 have h2:nd ((vw s).th u)<=1:=by unfold nd;split<;>omega
 rcases p3 with z|⟨z1,z2,z⟩
 ·rw [z]
  show (10-o)+_+_+0<=11
  split<;>omega
 ·rw [z]
  show (10-o)+_+_+1<=11
  split<;>omega
theorem ConPh.few {n u:Nat} {B:MB} {s:Mst} (h:ConPh n u B s) (hu:u<n) (h1:wkC n (vw s) u<=1∨5<=((vw s).th u).pc):5<=((vw s).th u).pc:=by
 rcases h1 with h1|h1
 ·obtain ⟨o,p1,p2,p3,p4,_⟩:=h.I.sl u hu
  rw [wkC_at hu p1]at h1
  omega
 ·exact h1
theorem ConPh.began {n u:Nat} {B:MB} {s:Mst} (h:ConPh n u B s) (hu:u<n) (hc:2*u<(allC (evF s.evs) s.evs.length).length):1<=((vw s).th u).pc:=by
 have h1:=(h.calls hu).1
 rcases Int.lt_or_le ((vw s).th u).pc 1 with c|c
 ·have :=begS_none (th:=(vw s).th u) (by omega)
  omega
 ·exact c
theorem ConPh.has {n u:Nat} {B:MB} {s:Mst} (h:ConPh n u B s) (hu:u<n) (h1:1<=((vw s).th u).pc):1<=(allC (evF s.evs) s.evs.length).length:=Nat.le_trans (begS_pos h1) (h.calls hu).2.1
theorem ConPh.next {n u:Nat} {B:MB} {s:Mst} (h:ConPh n u B s) (h5:5<=((vw s).th u).pc):ConPh n (u+1) B s:=by
 refine ⟨h.w,h.I,h.E,fun t ht=>?_,fun t ht hn=>h.hi t (by omega) hn⟩
 rcases Nat.lt_or_ge t u with c|c
 ·exact h.lo t c
 ·have :t=u:=by omega
  rw [this];exact h5
structure ConQ (n:Nat) (B:MB) (s:Mst):Prop where
 w:Wf B s
 I:ConI n (vw s)
 lo: ∀t,t<n->5<=((vw s).th t).pc
theorem ConQ.pick {n:Nat} {B:MB} {s:Mst} (hB:MBok B) (hC:ConB B n) (h:ConQ n B s) (x:Int×Int):ConQ n B (tPick B s x):=by
 have P:=con_pick h.w hC h.I x (fun _ t ht=>by have :=h.lo t ht;omega)
 exact ⟨h.w.pick hB _,P.I,fun t ht=>Int.le_trans (h.lo t ht) (P.mono t)⟩
theorem ConQ.ends {n w:Nat} {B:MB} {s:Mst} (hB:MBok B) (hC:ConB B n) (h:ConQ n B s) (hn:n<=3) {L:List (Int×Int)} (hW:Windows (n+1) w L) (hok: ∀x∈L,x.1≠2) (hl:40*w<=L.length):doneM (tRun B s L)=true:=by
 obtain ⟨m',h',hR,hm⟩:=(con_lives hB hC).windows 40 L hW hok hl ⟨h.w,h.I,fun t ht=>by have :=h.lo t ht;omega,rfl,rfl⟩
 have hle:=con_left h.I hn h.lo
 have :m'=0:=by omega
 subst this
 have hd:=hR.done
 have hw:=hR.1
 exact doneM_of (fun t ht=>hd t (by rw [hw.ok.ok.nt,hC.len]at ht;exact ht))
set_option maxHeartbeats 2000000 in
theorem first12 (th:Int) (m:Nat) (hm:(m:Int)=1+th) (ht:1<=th/\th<=8) (W:World) (hO:ONam W):Calls Tryz.prog 81 #[.agg #[.int .i64 12,.int .i64 0,.int .i64 0,.int .i64 0],.int .i64 th] W (FirstP W m):=by
 have hq:=Blk.new W 46 #[.int .i64 12,.int .i64 0,.int .i64 0,.int .i64 0]
 have hB:=(Below.refl W.heap.size W).alloc (Nat.le_refl _) (.cells #[.int .i64 12,.int .i64 0,.int .i64 0,.int .i64 0] 46)
 have q0:=(hq.cell 0).trans rfl
 have q1:=(hq.cell 1).trans rfl
 have q2:=(hq.cell 2).trans rfl
 have q3:=(hq.cell 3).trans rfl
 have cR:=right_nam 12 (.inl rfl) th ht (W.alloc (.cells #[.int .i64 12,.int .i64 0,.int .i64 0,.int .i64 0] 46)) (hO.step hB)
 unfold objA at cR
 rw [show (((12:Nat)):Int)=12 from rfl]at cR
 have hm9:m<=9:=by omega
 have hmk: ∀w:World,(Instr.makeSlice 27 (.int .i64 (m:Int)) (.int .i64 (m:Int))).run Tryz.prog w= .ok (.slice (some ⟨w.heap.size,0,none⟩) m m) (w.alloc (.cells (List.replicate m (Value.int .u32 0)).toArray 42)):=fun w=>makeW m (by omega) w
 have uw:1+th=(m:Int):=hm.symm
 obtain ⟨mz,hmz⟩: ∃mz,(List.replicate m (Value.int .u32 0)).toArray=mz:=⟨_,rfl⟩
 rw [hmz]at hmk
 have HMZ:=Lib.hid hmz
 clear hmz hm
 go_enter Tryz.func81,Tryz.ntmps81
 go_wp2_with fail
 with_reducible refine cR.mono ?_
 rintro e V0 ⟨rfl,hB0⟩
 clear cR q0 q1 q2 q3
 have hq0:=hq.below hB0 hq.lt
 have q0:=(hq0.cell 0).trans rfl
 have HB:=Lib.hid (step_below hB hB0)
 clear hq hB hB0 hq0
 go_wp2
 go_ret
 refine ⟨V0.heap.size,rfl,?_,HB.out.size,step_below HB.out ((Below.refl V0.heap.size V0).alloc (Nat.le_refl _) _)⟩
 rw [HMZ.out]
 exact Blk.new V0 42 mz
theorem set_eql (w:World):(binOp .eql 75 (.agg #[.int .i64 1,.int .i64 7,.int .i64 0,.int .i64 0,.int .u32 4]) (.agg #[.int .i64 1,.int .i64 7,.int .i64 0,.int .i64 0,.int .u32 4])).run Tryz.prog w= .ok (.bool true) w:=by kernel_rfl
set_option maxHeartbeats 1000000 in
theorem awake21_any (W:World) (hT:Tab W) (hO:ONam W):Calls Tryz.prog 32 #[] W fun e W'=>e= .returned (.bool true)/\Below W.heap.size W W':=by
 have cC:=code_barS 2 3 16 2 2 (by decide) (by decide) (by decide) (by decide) (by decide) W hT hO
 have hq:=set_eql
 go_enter Tryz.func32,Tryz.ntmps32
 go_wp2_with fail
 refine cC.mono ?_
 rintro e W1 ⟨⟨v,rfl,og,cap,cs,rfl,hb,hs,_,_,_,hins⟩,hB⟩
 have hlen:(BB.e.ins ⟨1,7,0,0,4⟩).out.length=1:=by kernel_rfl
 have h0:=hins 0 (by rw [hlen];decide)
 rw [hlen]
 have hg:(BB.e.ins ⟨1,7,0,0,4⟩).out.getD 0 default=⟨1,7,0,0,4⟩:=by kernel_rfl
 rw [hg]at h0
 have q0:=(hb.cell 0).trans (h0 0 _ rfl)
 have q1:=(hb.cell 1).trans (h0 1 _ rfl)
 have q2:=(hb.cell 2).trans (h0 2 _ rfl)
 have q3:=(hb.cell 3).trans (h0 3 _ rfl)
 have q4:=(hb.cell 4).trans (h0 4 _ rfl)
 clear cC hins h0 hb hs
 go_wp2
 go_ret
 exact ⟨rfl,hB⟩
end Go.Proofs.YtmhfpjnkjlhbpaaGreatDoor
