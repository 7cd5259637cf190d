/- seq.Code at what may be asked (printed by gen/bldf.py). seq: the closure that adds a call to a code, by its contract. seq (plain): the codes of law19's programs, as they are put together. -/
import Derived.Test.YtmhfpjnkjlhbpaaGreatDoorQf33
import Derived.Test.YtmhfpjnkjlhbpaaGreatDoorQf30
import Derived.Test.YtmhfpjnkjlhbpaaGreatDoorQf32
namespace Go.Proofs.YtmhfpjnkjlhbpaaGreatDoor
open Go.ChangeShapes Go.WideShapes Go.ChangeAt Go.RowKit Go.Deep
set_option linter.unusedVariables false
set_option maxRecDepth 100000
set_option linter.unusedSimpArgs false
open List renaming getElem_toArray->zA,getElem_cons_zero->zB,getElem_cons_succ->zC,setIfInBounds_toArray->zD,set_cons_zero->zE,set_cons_succ->zF
theorem BI.fresh {N0:Nat} {W:World} (hN:N0<=W.heap.size):BI N0 (W.alloc (.cells #[.slice none 0 0,.map none,.slice none 0 0,.bool false] 130)) W.heap.size BB.e:=
 ⟨_,_,none,Blk.new _ _ _,hN,⟨rfl,.inl ⟨rfl,rfl⟩⟩,⟨rfl,.inl ⟨rfl,rfl⟩⟩,rfl⟩
theorem BB.e_room (n:Nat) (h:n<=1000):BB.e.Room n:=⟨by show 0+n<=_;omega,by show 0+n<=_;omega,by show 0+n<=_;omega⟩
theorem OutI.below {W0 W1 W':World} {v:Value} {l:List Ins} (h:OutI W1 v l W') (hs:W0.heap.size<=W1.heap.size):OutI W0 v l W':=by
 obtain ⟨og,cap,cs,h1,h2,h3,h4,h5,h6,h7⟩:=h
 exact ⟨og,cap,cs,h1,h2,h3,h4,h5,Nat.le_trans hs h6,h7⟩
theorem may_seq (n call threads t:Int) (hn:1<=n/\n<=3) (ht:1<=threads/\threads<=8) (h0:0<=t/\t<threads) (hc:1<=call/\call<=4) (W:World):Calls Tryz.prog 52 #[.agg #[.int .i64 9,.int .i64 n,.int .i64 0,.int .i64 0],.int .i64 call,.int .i64 threads,.int .i64 t] W fun e W'=>e= .returned (.bool true)/\Below W.heap.size W W':=by
 have e:mayB true [1,2,3,4] call threads t=true:=by
  unfold mayB
  rw [decide_eq_true h0]
  have :call=1∨call=2∨call=3∨call=4:=by omega
  rcases this with rfl|rfl|rfl|rfl<;>rfl
 have :=may_any 9 n 0 0 true [1,2,3,4] (by decide) call threads t W (fun _=>True) (fun _ _ _ _=>trivial) trivial (fun W1 _=>right_seq n threads hn ht W1) (fun W1 _=>calls_seq W1)
 rw [e]at this
 exact this
theorem sreads_places (b:BB) (base:Int): ∀k,(b.sreads base k).places=b.places:=by
 intro k
 induction k with
 |zero=>rfl
 |succ k ih=>rw [BB.sreads_succ];exact ih
set_option maxHeartbeats 4000000 in
theorem code_acq (n:Nat) (threads base t arg:Int) (hn:1<=n/\n<=3) (ht:1<=threads/\threads<=8) (h0:0<=t/\t<threads) (hb:0<=base/\base<=4294960000) (ha:0<=arg) (W:World) (hT:Tab W):
 Calls Tryz.prog 40 #[.agg #[.int .i64 9,.int .i64 (n:Int),.int .i64 0,.int .i64 0],.int .i64 1,.int .i64 threads,.int .i64 t,.int .u32 base,.int .u32 arg] W fun e W'=>(∃v,e= .returned (.tuple #[v,.bool true])/\OutI W v (((BB.e.claim (base+1) t).sbegin base).close).out W')/\Below W.heap.size W W':=by
 have hq:=Blk.new W 46 #[.int .i64 9,.int .i64 (n:Int),.int .i64 0,.int .i64 0]
 have hB:=(Below.refl W.heap.size W).alloc (Nat.le_refl _) (.cells #[.int .i64 9,.int .i64 (n:Int),.int .i64 0,.int .i64 0] 46)
 have q0:=(hq.cell 0).trans rfl
 have q1:=(hq.cell 1).trans rfl
 have q2:=(hq.cell 2).trans rfl
 have q3:=(hq.cell 3).trans rfl
 have h3:(n:Int)<=3:=by omega
 have htt:t<=1000:=by omega
 go_enter Tryz.func40,Tryz.ntmps40
 go_wp2_with fail
 refine (may_seq (n:Int) 1 threads t (by omega) ht h0 (by omega) _).mono ?_
 rintro e V0 ⟨rfl,hB0⟩
 have hq0:=hq.below hB0 hq.lt
 have hb0:=step_below hB hB0
 have q1':=(hq0.cell 1).trans rfl
 clear q0 q1 q2 q3 hB hB0 hq
 have hI:=BI.fresh (N0:=W.heap.size) (W:=V0) hb0.size
 have hal:=(Below.refl V0.heap.size V0).alloc (Nat.le_refl _) (.cells #[.slice none 0 0,.map none,.slice none 0 0,.bool false] 130)
 have hb1:=step_below hb0 hal
 have q1'':=((hq0.below hal hq0.lt).cell 1).trans rfl
 have hqs:=hq0.below hal hq0.lt
 have hlts:hqs=hqs:=rfl
 clear hal hlts
 have HZ:=Lib.hid (And.intro hb0 (And.intro hb1 (And.intro hT hqs)))
 clear hb0 hqs hT
 obtain ⟨bb,hbb⟩: ∃bb,V0.heap.size=bb:=⟨_,rfl⟩
 rw [hbb]at hI
 have hr:=BB.e_room 900 (by decide)
 go_wp2_with fail
 try rw [hbb]
 refine Bls.step (b_claim (n:=893) _ _ hI hr (by omega) rfl) ?_
 rintro _ W1 ⟨⟨u0,rfl⟩,h1,b1⟩
 have r1:=BB.Room.claim (n:=893) hr (base+1) t
 go_wp2_with fail
 refine Bls.step (b_sbegin (n:=887) _ h1 r1 hb rfl) ?_
 rintro _ W2 ⟨⟨u1,rfl⟩,h2,b2⟩
 have r2:=BB.Room.sbegin (n:=887) r1 base
 go_wp2_with fail
 refine Bls.step (b_close (n:=885) h2 r2 rfl) ?_
 rintro _ W3 ⟨⟨u2,rfl⟩,h3,b3⟩
 have r3:=BB.Room.close (n:=885) r2
 have hbz:=hb1.trans (b1.trans (b2.trans (b3))).b
 have hTz:=HZ.out.2.2.1.step hbz
 go_wp2_with fail
 refine (bcode_any W.heap.size bb _ W3 h3 hTz ?_ (by have :=r3.2.1;omega) (by have :=r3.1;omega) (by first|exact Nat.zero_lt_succ _|simp [BB.sread,BB.sread1,BB.sreads,BB.ins,BB.go,BB.at,BB.close])).mono ?_
 ·rfl
 rintro e V9 ⟨⟨v,rfl,hO⟩,hB9⟩
 go_wp2
 go_ret2
 exact ⟨⟨_,rfl,hO.below hbz.size⟩,step_below hbz hB9⟩
set_option maxHeartbeats 4000000 in
theorem code_rel (n:Nat) (threads base t arg:Int) (hn:1<=n/\n<=3) (ht:1<=threads/\threads<=8) (h0:0<=t/\t<threads) (hb:0<=base/\base<=4294960000) (ha:0<=arg) (W:World) (hT:Tab W):
 Calls Tryz.prog 40 #[.agg #[.int .i64 9,.int .i64 (n:Int),.int .i64 0,.int .i64 0],.int .i64 2,.int .i64 threads,.int .i64 t,.int .u32 base,.int .u32 arg] W fun e W'=>(∃v,e= .returned (.tuple #[v,.bool true])/\OutI W v ((((BB.e.prove (base+1) t).smore base).zero (base+1)).close).out W')/\Below W.heap.size W W':=by
 have hq:=Blk.new W 46 #[.int .i64 9,.int .i64 (n:Int),.int .i64 0,.int .i64 0]
 have hB:=(Below.refl W.heap.size W).alloc (Nat.le_refl _) (.cells #[.int .i64 9,.int .i64 (n:Int),.int .i64 0,.int .i64 0] 46)
 have q0:=(hq.cell 0).trans rfl
 have q1:=(hq.cell 1).trans rfl
 have q2:=(hq.cell 2).trans rfl
 have q3:=(hq.cell 3).trans rfl
 have h3:(n:Int)<=3:=by omega
 have htt:t<=1000:=by omega
 go_enter Tryz.func40,Tryz.ntmps40
 go_wp2_with fail
 refine (may_seq (n:Int) 2 threads t (by omega) ht h0 (by omega) _).mono ?_
 rintro e V0 ⟨rfl,hB0⟩
 have hq0:=hq.below hB0 hq.lt
 have hb0:=step_below hB hB0
 have q1':=(hq0.cell 1).trans rfl
 clear q0 q1 q2 q3 hB hB0 hq
 have hI:=BI.fresh (N0:=W.heap.size) (W:=V0) hb0.size
 have hal:=(Below.refl V0.heap.size V0).alloc (Nat.le_refl _) (.cells #[.slice none 0 0,.map none,.slice none 0 0,.bool false] 130)
 have hb1:=step_below hb0 hal
 have q1'':=((hq0.below hal hq0.lt).cell 1).trans rfl
 have hqs:=hq0.below hal hq0.lt
 have hlts:hqs=hqs:=rfl
 clear hal hlts
 have HZ:=Lib.hid (And.intro hb0 (And.intro hb1 (And.intro hT hqs)))
 clear hb0 hqs hT
 obtain ⟨bb,hbb⟩: ∃bb,V0.heap.size=bb:=⟨_,rfl⟩
 rw [hbb]at hI
 have hr:=BB.e_room 900 (by decide)
 go_wp2_with fail
 try rw [hbb]
 refine Bls.step (b_prove (n:=893) _ _ hI hr (by omega) rfl) ?_
 rintro _ W1 ⟨⟨u0,rfl⟩,h1,b1⟩
 have r1:=BB.Room.prove (n:=893) hr (base+1) t
 go_wp2_with fail
 refine Bls.step (b_smore (n:=891) _ h1 r1 hb) ?_
 rintro _ W2 ⟨⟨u1,rfl⟩,h2,b2⟩
 have r2:=BB.Room.smore (n:=891) r1 base
 go_wp2_with fail
 refine Bls.step (b_zero (n:=889) _ h2 r2) ?_
 rintro _ W3 ⟨⟨u2,rfl⟩,h3,b3⟩
 have r3:=BB.Room.zero (n:=889) r2 (base+1)
 go_wp2_with fail
 refine Bls.step (b_close (n:=887) h3 r3 rfl) ?_
 rintro _ W4 ⟨⟨u3,rfl⟩,h4,b4⟩
 have r4:=BB.Room.close (n:=887) r3
 have hbz:=hb1.trans (b1.trans (b2.trans (b3.trans (b4)))).b
 have hTz:=HZ.out.2.2.1.step hbz
 go_wp2_with fail
 refine (bcode_any W.heap.size bb _ W4 h4 hTz ?_ (by have :=r4.2.1;omega) (by have :=r4.1;omega) (by first|exact Nat.zero_lt_succ _|simp [BB.sread,BB.sread1,BB.sreads,BB.ins,BB.go,BB.at,BB.close])).mono ?_
 ·rfl
 rintro e V9 ⟨⟨v,rfl,hO⟩,hB9⟩
 go_wp2
 go_ret2
 exact ⟨⟨_,rfl,hO.below hbz.size⟩,step_below hbz hB9⟩
set_option maxHeartbeats 4000000 in
theorem code_put (n:Nat) (threads base t arg:Int) (hn:1<=n/\n<=3) (ht:1<=threads/\threads<=8) (h0:0<=t/\t<threads) (hb:0<=base/\base<=4294960000) (ha:0<=arg/\arg<n) (W:World) (hT:Tab W):
 Calls Tryz.prog 40 #[.agg #[.int .i64 9,.int .i64 (n:Int),.int .i64 0,.int .i64 0],.int .i64 4,.int .i64 threads,.int .i64 t,.int .u32 base,.int .u32 arg] W fun e W'=>(∃v,e= .returned (.tuple #[v,.bool true])/\OutI W v ((((BB.e.prove (base+1) t).ins ⟨17,0,8,0,base+2+arg⟩)).close).out W')/\Below W.heap.size W W':=by
 have hq:=Blk.new W 46 #[.int .i64 9,.int .i64 (n:Int),.int .i64 0,.int .i64 0]
 have hB:=(Below.refl W.heap.size W).alloc (Nat.le_refl _) (.cells #[.int .i64 9,.int .i64 (n:Int),.int .i64 0,.int .i64 0] 46)
 have q0:=(hq.cell 0).trans rfl
 have q1:=(hq.cell 1).trans rfl
 have q2:=(hq.cell 2).trans rfl
 have q3:=(hq.cell 3).trans rfl
 have h3:(n:Int)<=3:=by omega
 have htt:t<=1000:=by omega
 go_enter Tryz.func40,Tryz.ntmps40
 go_wp2_with fail
 refine (may_seq (n:Int) 4 threads t (by omega) ht h0 (by omega) _).mono ?_
 rintro e V0 ⟨rfl,hB0⟩
 have hq0:=hq.below hB0 hq.lt
 have hb0:=step_below hB hB0
 have q1':=(hq0.cell 1).trans rfl
 clear q0 q1 q2 q3 hB hB0 hq
 have hI:=BI.fresh (N0:=W.heap.size) (W:=V0) hb0.size
 have hal:=(Below.refl V0.heap.size V0).alloc (Nat.le_refl _) (.cells #[.slice none 0 0,.map none,.slice none 0 0,.bool false] 130)
 have hb1:=step_below hb0 hal
 have q1'':=((hq0.below hal hq0.lt).cell 1).trans rfl
 have hqs:=hq0.below hal hq0.lt
 have hlts:hqs=hqs:=rfl
 clear hal hlts
 have HZ:=Lib.hid (And.intro hb0 (And.intro hb1 (And.intro hT hqs)))
 clear hb0 hqs hT
 obtain ⟨bb,hbb⟩: ∃bb,V0.heap.size=bb:=⟨_,rfl⟩
 rw [hbb]at hI
 have hr:=BB.e_room 900 (by decide)
 go_wp2_with fail
 try rw [hbb]
 refine Bls.step (b_prove (n:=893) _ _ hI hr (by omega) rfl) ?_
 rintro _ W1 ⟨⟨u0,rfl⟩,h1,b1⟩
 have r1:=BB.Room.prove (n:=893) hr (base+1) t
 go_wp2_with fail
 refine Bls.step (b_ask (n:=892) _ _ _ h1 r1) ?_
 rintro _ W2 ⟨⟨u1,rfl⟩,h2,b2⟩
 have r2:=BI.rins (n:=892) h2 r1
 go_wp2_with fail
 refine Bls.step (b_close (n:=890) h2 r2 rfl) ?_
 rintro _ W3 ⟨⟨u2,rfl⟩,h3,b3⟩
 have r3:=BB.Room.close (n:=890) r2
 have hbz:=hb1.trans (b1.trans (b2.trans (b3))).b
 have hTz:=HZ.out.2.2.1.step hbz
 go_wp2_with fail
 refine (bcode_any W.heap.size bb _ W3 h3 hTz ?_ (by have :=r3.2.1;omega) (by have :=r3.1;omega) (by first|exact Nat.zero_lt_succ _|simp [BB.sread,BB.sread1,BB.sreads,BB.ins,BB.go,BB.at,BB.close])).mono ?_
 ·rfl
 rintro e V9 ⟨⟨v,rfl,hO⟩,hB9⟩
 go_wp2
 go_ret2
 exact ⟨⟨_,rfl,hO.below hbz.size⟩,step_below hbz hB9⟩
set_option maxHeartbeats 4000000 in
theorem code_read (n:Nat) (threads base t arg:Int) (hn:1<=n/\n<=3) (ht:1<=threads/\threads<=8) (h0:0<=t/\t<threads) (hb:0<=base/\base<=4294960000) (ha:0<=arg) (W:World) (hT:Tab W):
 Calls Tryz.prog 40 #[.agg #[.int .i64 9,.int .i64 (n:Int),.int .i64 0,.int .i64 0],.int .i64 3,.int .i64 threads,.int .i64 t,.int .u32 base,.int .u32 arg] W fun e W'=>(∃v,e= .returned (.tuple #[v,.bool true])/\OutI W v ((BB.e.sread base n).close).out W')/\Below W.heap.size W W':=by
 have hq:=Blk.new W 46 #[.int .i64 9,.int .i64 (n:Int),.int .i64 0,.int .i64 0]
 have hB:=(Below.refl W.heap.size W).alloc (Nat.le_refl _) (.cells #[.int .i64 9,.int .i64 (n:Int),.int .i64 0,.int .i64 0] 46)
 have q0:=(hq.cell 0).trans rfl
 have q1:=(hq.cell 1).trans rfl
 have q2:=(hq.cell 2).trans rfl
 have q3:=(hq.cell 3).trans rfl
 have h3:(n:Int)<=3:=by omega
 have htt:t<=1000:=by omega
 go_enter Tryz.func40,Tryz.ntmps40
 go_wp2_with fail
 refine (may_seq (n:Int) 3 threads t (by omega) ht h0 (by omega) _).mono ?_
 rintro e V0 ⟨rfl,hB0⟩
 have hq0:=hq.below hB0 hq.lt
 have hb0:=step_below hB hB0
 have q1':=(hq0.cell 1).trans rfl
 clear q0 q1 q2 q3 hB hB0 hq
 have hI:=BI.fresh (N0:=W.heap.size) (W:=V0) hb0.size
 have hal:=(Below.refl V0.heap.size V0).alloc (Nat.le_refl _) (.cells #[.slice none 0 0,.map none,.slice none 0 0,.bool false] 130)
 have hb1:=step_below hb0 hal
 have q1'':=((hq0.below hal hq0.lt).cell 1).trans rfl
 have hqs:=hq0.below hal hq0.lt
 have hlts:hqs=hqs:=rfl
 clear hal hlts
 have HZ:=Lib.hid (And.intro hb0 (And.intro hb1 (And.intro hT hqs)))
 clear hb0 hqs hT
 obtain ⟨bb,hbb⟩: ∃bb,V0.heap.size=bb:=⟨_,rfl⟩
 rw [hbb]at hI
 have hr:=BB.e_room 900 (by decide)
 go_wp2_with fail
 try rw [hbb]
 refine Bls.step (b_sread (n:=15) (k:=n) _ hI (hr.mono (by omega)) hb (by omega) rfl) ?_
 rintro _ W1 ⟨⟨u0,rfl⟩,h1,b1⟩
 have r1:=BB.Room.sread (n:=15) (k:=n) (hr.mono (by omega)) base
 go_wp2_with fail
 refine Bls.step (b_close (n:=13) h1 r1 (by unfold BB.sread BB.go BB.ins;show List.lookup n_end ((BB.e.sread1 base).sreads base n).places=none;rw [sreads_places];rfl)) ?_
 rintro _ W2 ⟨⟨u1,rfl⟩,h2,b2⟩
 have r2:=BB.Room.close (n:=13) r1
 have hbz:=hb1.trans (b1.trans (b2)).b
 have hTz:=HZ.out.2.2.1.step hbz
 go_wp2_with fail
 refine (bcode_any W.heap.size bb _ W2 h2 hTz ?_ (by have :=r2.2.1;omega) (by have :=r2.1;omega) (by first|exact Nat.zero_lt_succ _|simp [BB.sread,BB.sread1,BB.sreads,BB.ins,BB.go,BB.at,BB.close])).mono ?_
 ·have :n=1∨n=2∨n=3:=by omega
  rcases this with rfl|rfl|rfl<;>rfl
 rintro e V9 ⟨⟨v,rfl,hO⟩,hB9⟩
 go_wp2
 go_ret2
 exact ⟨⟨_,rfl,hO.below hbz.size⟩,step_below hbz hB9⟩
set_option maxHeartbeats 4000000 in
theorem seqAdd_any (site:Nat) (hs:site<=3) (call arg:Int) (C:List Ins) (m n:Nat) (th t:Int) (hC:C.length=m) (hok: ∀x∈C,x.Ok) (hm:m<=100)
 (hcode: ∀W:World,Tab W->Calls Tryz.prog 40 #[.agg #[.int .i64 9,.int .i64 (n:Int),.int .i64 0,.int .i64 0],.int .i64 call,.int .i64 th,.int .i64 t,.int .u32 16,.int .u32 arg] W fun e W'=>(∃v,e= .returned (.tuple #[v,.bool true])/\OutI W v C W')/\Below W.heap.size W W')
 (W0 W:World) (okb ob tb kb:Nat) (A:Option Addr) (N c:Nat) (L:List Ins) (h:AX W0 W okb (.slice A N c) A N c L) (hN:N<=1000)
 (ho:Blk W0 ob 46 #[.int .i64 9,.int .i64 (n:Int),.int .i64 0,.int .i64 0]) (hth:Blk W0 tb 3 #[.int .i64 th]) (hk:Blk W0 kb 3 #[.int .i64 t]) (d1:ob≠okb) (d2:tb≠okb) (d3:kb≠okb):
 Calls Tryz.prog 41 #[.int .i64 (site:Int),.int .i64 call,.int .u32 arg,.pointer (some ⟨ob,0,none⟩),.pointer (some ⟨tb,0,none⟩),.pointer (some ⟨kb,0,none⟩),.pointer (some ⟨okb,0,none⟩),.pointer (some ⟨W0.heap.size,0,none⟩)] W fun e W'=>
  (∃u,e= .returned u)/\ ∃A' M c',M=N+(m+2)/\AX W0 W' okb (.slice A' M c') A' M c' (L++(⟨27,7,0,0,2*(site:Int)⟩::(C.map (movedI ((N:Int)+1))++[⟨27,7,0,0,2*(site:Int)+1⟩]))):=by
 have hob:=h.old ho d1
 have q0:=(hob.cell 0).trans rfl
 have q1:=(hob.cell 1).trans rfl
 have q2:=(hob.cell 2).trans rfl
 have q3:=(hob.cell 3).trans rfl
 have q4:=((h.old hth d2).cell 0).trans rfl
 have q5:=((h.old hk d3).cell 0).trans rfl
 have hcd:=hcode W h.tab
 have HS:=Lib.hid (And.intro hs (And.intro hN hm))
 clear hcode hob ho hth hk
 go_enter Tryz.func41,Tryz.ntmps41
 go_wp2_with fail
 with_reducible refine hcd.mono ?_
 rintro e W1 ⟨⟨v,rfl,hv⟩,hB⟩
 have h1:=h.step hB
 obtain ⟨og,cap,cs,rfl,hog,_,hcap,hcm,hge,hins⟩:=hv
 have hrow:some og≠(Value.slice A N c).ownBlock:=fun e=>by have :=(own_in h.own og e.symm).2;omega
 have hoo:og≠okb/\og≠W0.heap.size:=by have h1:=h.okl.2;have h2:=h.lt;omega
 clear h hB hcd q0 q1 q2 q3 q4 q5
 have x0:=(h1.okx.cell 0).trans rfl
 have x1:=h1.okx.frozen 0
 have y0:=(h1.setOk.box.cell 0).trans rfl
 have hne: ¬W0.heap.size=okb:=by have :=h1.okl.2;omega
 have hs4:((site:Int)*1)<=3:=by omega
 have hogk:=hog.far (p:=⟨okb,0,none⟩) hoo.1 (.bool true)
 have HG:=Lib.hid (And.intro hrow hoo)
 clear hrow hoo hog
 go_wp2_with (at_builtin;refine h1.setOk.app1 ⟨27,7,0,0,2*(site:Int)⟩ (N+1) W1.heap.size rfl (by simp [World.setCell]) rfl (.tmp 26) (.tmp 31) rfl rfl rfl (by omega) ?_;intro A1 c1 W2 h3 hkp;have hog2:=hkp _ _ _ hogk HG.out.1;have y1:=(h3.box.cell 0).trans rfl;have y2:=h3.box.frozen 0;clear hkp hogk x0 x1 y0 h1)
 have h4:=h3.set (.slice A1 (N+1) c1)
 have hog3:=hog2.far (p:=⟨W0.heap.size,0,none⟩) HG.out.2.2 (.slice A1 (N+1) c1)
 clear h3 y1 y2 hog2
 generalize W2.setCell ⟨W0.heap.size,0,none⟩ (.slice A1 (N+1) c1)=W3 at h4 hog3⊢
 have hlen:C.length<=100:=by omega
 refine startG (fun W'=>Below W3.drew.heap.size W3.drew W') 5 (by kernel_rfl) ?_
 have h5:=h4.drew
 have hog4:=hog3.drew
 clear h4 hog3
 generalize W3.drew=W4 at h5 hog4⊢
 have hH:Below W4.heap.size W4 W4:=Below.refl _ _
 refine takeB (i:=0) (v:= .slice A1 (N+1) c1) rfl (Or.inl ⟨by rfl,fun W hW=>by have q0:=((h5.box.below hW h5.box.lt).cell 0).trans rfl;go_simp⟩) hH ?_
 simp only [Act.put,zA,zB,zC,zD,zE,zF]
 refine takeA (i:=1) (v:= .slice (some ⟨og,0,none⟩) m cap) rfl hH ?_
 simp only [Act.put,zA,zB,zC,zD,zE,zF]
 refine takeT (i:=2) (v:= .slice A1 (N+1) c1) rfl (by kernel_rfl) (by kernel_rfl) (by kernel_rfl) (by kernel_rfl) (fun _ _ _ h=>h) (Or.inl ⟨by rfl,fun W hW=>by have q0:=((h5.box.below hW h5.box.lt).cell 0).trans rfl;go_simp⟩) hH ?_
 simp only [Act.put,zA,zB,zC,zD,zE,zF]
 refine takeA (i:=3) (v:= .int .i64 ((N+1:Nat):Int)) rfl hH ?_
 simp only [Act.put,zA,zB,zC,zD,zE,zF]
 refine onlyG (i:=4) (by kernel_rfl) rfl (fun K hK=>?_)
 have hsle:=sle_ins hog4 hins
 rw [hC]at hsle hcap
 have hCI:CodeIn W4 (.slice (some ⟨og,0,none⟩) m cap) C m:=⟨⟨og,cap,rfl,hog4.lt,hcap,hcm,hsle⟩,hC⟩
 have cM:=hCI.moved hok (by omega) ((N:Int)+1) (by omega) (by omega) h5.tab
 go_simp
 with_reducible refine cM.mono ?_
 rintro e W5 ⟨cs5,rfl,hb5,hin5,hB5⟩
 have h6:=h5.step hB5
 refine hK.out _ _ hB5 (fun _=>?_)
 clear hK K cM hCI hsle hog4 hB5 h5 hH
 obtain ⟨g5,hg5⟩: ∃g5,W4.heap.size=g5:=⟨_,rfl⟩
 rw [hg5]at hb5
 try rw [hg5]
 clear hg5
 try simp only [Act.put,zA,zB,zC,zD,zE,zF]
 refine onlyM (by kernel_rfl) rfl (fun K hK=>?_)
 rw [if_pos (by rfl)]
 refine h6.appO hb5 hin5 (C.map (movedI ((N:Int)+1))) (map_range hC _) (N+1+m) rfl (.tmp 33) (.tmp 37) rfl rfl rfl (by omega) ?_
 intro A7 c7 W7 h7
 clear h6 hb5 hin5
 refine hK.out _ _ ?_
 clear hK K
 try simp only [Act.put,zA,zB,zC,zD,zE,zF]
 refine lastL (i:=6) (by kernel_rfl) (by kernel_rfl) rfl (by kernel_rfl) (fun K hK=>?_)
 have y1:=(h7.box.cell 0).trans rfl
 have y2:=h7.box.frozen 0
 go_simp
 refine hK.out _ _ ?_
 have h8:=h7.set (.slice A7 (N+1+m) c7)
 clear hK K h7 y1 y2
 generalize W7.setCell ⟨W0.heap.size,0,none⟩ (.slice A7 (N+1+m) c7)=W8 at h8⊢
 have z1:=(h8.box.cell 0).trans rfl
 try simp only [Act.put,zA,zB,zC,zD,zE,zF]
 go_wp2_with (at_builtin;refine h8.app1 ⟨27,7,0,0,2*(site:Int)+1⟩ (N+1+m+1) W8.heap.size rfl rfl rfl (.tmp 39) (.tmp 45) rfl rfl rfl (by omega) ?_;intro A9 c9 W9 h9 hkp9;have y1:=(h9.box.cell 0).trans rfl;have y2:=h9.box.frozen 0;clear hkp9 z1 h8)
 have h10:=h9.set (.slice A9 (N+1+m+1) c9)
 clear h9 y1 y2
 go_end0
 refine ⟨⟨_,rfl⟩,A9,N+1+m+1,c9,by omega,?_⟩
 rw [List.append_assoc,List.append_assoc]at h10
 exact h10
def acqO (t:Nat):List Ins:=(((BB.e.claim (16+1) (t:Int)).sbegin 16).close).out
def relO (t:Nat):List Ins:=((((BB.e.prove (16+1) (t:Int)).smore 16).zero (16+1)).close).out
def putO (t i:Nat):List Ins:=((((BB.e.prove (16+1) (t:Int)).ins ⟨17,0,8,0,16+2+(i:Int)⟩)).close).out
def readO (N:Nat):List Ins:=((BB.e.sread 16 N).close).out
theorem acq_out (t:Nat):acqO t=[⟨16,4,8,0,17⟩,⟨1,5,0,0,(t:Int)+1⟩,⟨12,6,4,5,0⟩,⟨14,6,0,0,6⟩,⟨1,7,0,0,1⟩,⟨13,0,0,0,12⟩,⟨1,4,0,0,0⟩,⟨21,4,8,5,17⟩,⟨15,4,0,0,6⟩,⟨1,4,0,0,1⟩,⟨20,4,8,0,16⟩,⟨1,7,0,0,0⟩]:=by kernel_rfl
theorem rel_out (t:Nat):relO t=[⟨16,4,8,0,17⟩,⟨1,5,0,0,(t:Int)+1⟩,⟨12,6,4,5,0⟩,⟨15,6,0,0,6⟩,⟨1,7,0,0,2⟩,⟨13,0,0,0,11⟩,⟨1,4,0,0,1⟩,⟨20,4,8,0,16⟩,⟨1,4,0,0,0⟩,⟨17,4,8,0,17⟩,⟨1,7,0,0,0⟩]:=by kernel_rfl
theorem put_out (t i:Nat):putO t i=[⟨16,4,8,0,17⟩,⟨1,5,0,0,(t:Int)+1⟩,⟨12,6,4,5,0⟩,⟨15,6,0,0,6⟩,⟨1,7,0,0,2⟩,⟨13,0,0,0,8⟩,⟨17,0,8,0,16+2+(i:Int)⟩,⟨1,7,0,0,0⟩]:=by kernel_rfl
theorem read_out1:readO 1=[⟨16,4,8,0,16⟩,⟨1,5,0,0,1⟩,⟨6,6,4,5,0⟩,⟨15,6,0,0,0⟩,⟨16,0,8,0,18⟩,⟨16,5,8,0,16⟩,⟨12,6,4,5,0⟩,⟨14,6,0,0,0⟩,⟨1,7,0,0,0⟩]:=by kernel_rfl
theorem read_out2:readO 2=[⟨16,4,8,0,16⟩,⟨1,5,0,0,1⟩,⟨6,6,4,5,0⟩,⟨15,6,0,0,0⟩,⟨16,0,8,0,18⟩,⟨16,1,8,0,19⟩,⟨16,5,8,0,16⟩,⟨12,6,4,5,0⟩,⟨14,6,0,0,0⟩,⟨1,7,0,0,0⟩]:=by kernel_rfl
theorem read_out3:readO 3=[⟨16,4,8,0,16⟩,⟨1,5,0,0,1⟩,⟨6,6,4,5,0⟩,⟨15,6,0,0,0⟩,⟨16,0,8,0,18⟩,⟨16,1,8,0,19⟩,⟨16,2,8,0,20⟩,⟨16,5,8,0,16⟩,⟨12,6,4,5,0⟩,⟨14,6,0,0,0⟩,⟨1,7,0,0,0⟩]:=by kernel_rfl
theorem acq_ok (t:Nat) (ht:t<=8):(acqO t).length=12/\ ∀x∈acqO t,x.Ok:=by
 rw [acq_out]
 refine ⟨rfl,fun x hx=>?_⟩
 simp only [List.mem_cons,List.not_mem_nil,or_false]at hx
 rcases hx with rfl|rfl|rfl|rfl|rfl|rfl|rfl|rfl|rfl|rfl|rfl|rfl<;>exact insOk (by omega)
theorem rel_ok (t:Nat) (ht:t<=8):(relO t).length=11/\ ∀x∈relO t,x.Ok:=by
 rw [rel_out]
 refine ⟨rfl,fun x hx=>?_⟩
 simp only [List.mem_cons,List.not_mem_nil,or_false]at hx
 rcases hx with rfl|rfl|rfl|rfl|rfl|rfl|rfl|rfl|rfl|rfl|rfl<;>exact insOk (by omega)
theorem put_ok (t i:Nat) (ht:t<=8) (hi:i<=3):(putO t i).length=8/\ ∀x∈putO t i,x.Ok:=by
 rw [put_out]
 refine ⟨rfl,fun x hx=>?_⟩
 simp only [List.mem_cons,List.not_mem_nil,or_false]at hx
 rcases hx with rfl|rfl|rfl|rfl|rfl|rfl|rfl|rfl<;>exact insOk (by omega)
theorem read_ok (N:Nat) (h:1<=N/\N<=3):(readO N).length=8+N/\ ∀x∈readO N,x.Ok:=by
 obtain rfl|rfl|rfl:N=1∨N=2∨N=3:=by omega
 ·rw [read_out1]
  refine ⟨rfl,fun x hx=>?_⟩
  simp only [List.mem_cons,List.not_mem_nil,or_false]at hx
  rcases hx with rfl|rfl|rfl|rfl|rfl|rfl|rfl|rfl|rfl<;>exact insOk (by omega)
 ·rw [read_out2]
  refine ⟨rfl,fun x hx=>?_⟩
  simp only [List.mem_cons,List.not_mem_nil,or_false]at hx
  rcases hx with rfl|rfl|rfl|rfl|rfl|rfl|rfl|rfl|rfl|rfl<;>exact insOk (by omega)
 ·rw [read_out3]
  refine ⟨rfl,fun x hx=>?_⟩
  simp only [List.mem_cons,List.not_mem_nil,or_false]at hx
  rcases hx with rfl|rfl|rfl|rfl|rfl|rfl|rfl|rfl|rfl|rfl|rfl<;>exact insOk (by omega)
def callL (site L:Nat) (C:List Ins):List Ins:=⟨27,7,0,0,2*(site:Int)⟩::(C.map (movedI ((L:Int)+1))++[⟨27,7,0,0,2*(site:Int)+1⟩])
theorem wh_call (t L g:Nat) (hL:L<=4000):(sgL t L g .wh).map Op.ins=callL 0 L (acqO t)++[⟨16,0,8,0,18⟩,⟨1,1,0,0,1⟩,⟨3,0,0,1,0⟩]:=by
 unfold callL
 rw [acq_out]
 simp [sgL,Op.ins,movedI,jmpB,aluF_add]
 omega
theorem wp_call (t L g i:Nat) (hL:L<=4000) (hi:i<=3):(sgL t L g (.wp i)).map Op.ins=callL 3 L (putO t i):=by
 unfold callL
 rw [put_out]
 simp [sgL,Op.ins,movedI,jmpB,aluF_add]
 omega
theorem wt_call (t L g:Nat) (hL:L<=4000):(sgL t L g .wt).map Op.ins=callL 1 L (relO t):=by
 unfold callL
 rw [rel_out]
 simp [sgL,Op.ins,movedI,jmpB,aluF_add]
 omega
theorem rd_call (t L N:Nat) (hL:L<=4000) (h:1<=N/\N<=3):(sgL t L (L+1) .rh++((List.range N).flatMap fun i=>sgL t (L+5+i) (L+1) (.rl i))++sgL t (L+5+N) (L+1) .rt).map Op.ins=callL 2 L (readO N):=by
 unfold callL
 obtain rfl|rfl|rfl:N=1∨N=2∨N=3:=by omega
 ·rw [read_out1]
  simp [sgL,Op.ins,movedI,jmpB,aluF_add,List.range_succ]
  omega
 ·rw [read_out2]
  simp [sgL,Op.ins,movedI,jmpB,aluF_add,List.range_succ]
  omega
 ·rw [read_out3]
  simp [sgL,Op.ins,movedI,jmpB,aluF_add,List.range_succ]
  omega
def sqL (N t:Nat) (isW:Bool) (n:Nat):List Ins:=(codeOf (sqPc N t isW) n).map Op.ins
theorem sqL_len (N t:Nat) (isW:Bool) (n:Nat):(sqL N t isW n).length=bsQ (if isW=true then sgW N else sgR N) n:=by
 unfold sqL
 rw [List.length_map]
 exact codeOf_len rfl (fun n _=>sqPc_len N t isW n)
theorem sqL_succ (N t:Nat) (isW:Bool) (n:Nat):sqL N t isW (n+1)=sqL N t isW n++(sqPc N t isW n).map Op.ins:=by
 unfold sqL
 rw [codeOf_succ,List.map_append]
theorem sqL_small (N t:Nat) (isW:Bool) {n:Nat} (hn:n<=24):(sqL N t isW n).length<=408:=by
 rw [sqL_len]
 have :=bsQ_le (if isW=true then sgW N else sgR N) n
 omega
theorem mul_mod {M j r:Nat} (h:r<M):(j*M+r)% M=r:=by rw [Nat.mul_comm,Nat.mul_add_mod,Nat.mod_eq_of_lt h]
theorem sqW_acq {N t j:Nat} (hj:j*(N+2)<=24):sqL N t true (j*(N+2)+1)=sqL N t true (j*(N+2))++(callL 0 (sqL N t true (j*(N+2))).length (acqO t)++[⟨16,0,8,0,18⟩,⟨1,1,0,0,1⟩,⟨3,0,0,1,0⟩]):=by
 rw [sqL_succ]
 have hs:=sqL_small N t true hj
 rw [sqL_len]at hs⊢
 congr 1
 have e:sgW N (j*(N+2))= .wh:=by unfold sgW;rw [show j*(N+2)=j*(N+2)+0 from rfl,mul_mod (by omega),if_pos rfl]
 unfold sqPc
 rw [if_pos rfl]at hs⊢
 rw [e]
 exact wh_call _ _ _ (by omega)
theorem sqW_put {N t j i:Nat} (h3:N<=3) (hj:j*(N+2)+1+i<=24) (hi:i<N):sqL N t true (j*(N+2)+1+i+1)=sqL N t true (j*(N+2)+1+i)++callL 3 (sqL N t true (j*(N+2)+1+i)).length (putO t i):=by
 rw [sqL_succ]
 have hs:=sqL_small N t true hj
 rw [sqL_len]at hs⊢
 congr 1
 have e:sgW N (j*(N+2)+1+i)= .wp i:=by
  unfold sgW
  rw [Nat.add_assoc,mul_mod (by omega),if_neg (by omega),if_pos (by omega)]
  congr 1;omega
 unfold sqPc
 rw [if_pos rfl]at hs⊢
 rw [e]
 exact wp_call _ _ _ _ (by omega) (by omega)
theorem sqW_rel {N t j:Nat} (h1:1<=N) (hj:j*(N+2)+1+N<=24):sqL N t true ((j+1)*(N+2))=sqL N t true (j*(N+2)+1+N)++callL 1 (sqL N t true (j*(N+2)+1+N)).length (relO t):=by
 have e0:(j+1)*(N+2)=j*(N+2)+1+N+1:=by rw [Nat.succ_mul];omega
 rw [e0,sqL_succ]
 have hs:=sqL_small N t true hj
 rw [sqL_len]at hs⊢
 congr 1
 have e:sgW N (j*(N+2)+1+N)= .wt:=by
  unfold sgW
  rw [Nat.add_assoc,mul_mod (by omega),if_neg (by omega),if_neg (by omega)]
 unfold sqPc
 rw [if_pos rfl]at hs⊢
 rw [e]
 exact wt_call _ _ _ (by omega)
theorem sgR_at {N j r:Nat} (h:r<2*N+2):sgR N (j*(2*N+2)+r)=if r=0 then .rh else if r<=N then .rl (r-1)else if r=N+1 then .rt else .ro (r-(N+2)):=by
 unfold sgR
 rw [mul_mod h]
theorem sqPc_at {N t j r:Nat} (h:r<2*N+2):sqPc N t false (j*(2*N+2)+r)=sgL t (bsQ (sgR N) (j*(2*N+2)+r)) (bsQ (sgR N) (j*(2*N+2)+r-(N+1))+1) (if r=0 then .rh else if r<=N then .rl (r-1)else if r=N+1 then .rt else .ro (r-(N+2))):=by
 unfold sqPc
 rw [if_neg (by decide),sgR_at h]
theorem sqR_out {N t j i:Nat} (hi:i<N):sqL N t false (j*(2*N+2)+(N+2+i)+1)=sqL N t false (j*(2*N+2)+(N+2+i))++[⟨22,i,0,0,0⟩]:=by
 rw [sqL_succ,sqPc_at (by omega),if_neg (by omega),if_neg (by omega),if_neg (by omega),show N+2+i-(N+2)=i by omega]
 rfl
theorem bsQ_add (kd:Nat->Sg) (n:Nat):bsQ kd (n+1)=bsQ kd n+sgLen (kd n):=rfl
theorem sqR_read {N t j:Nat} (h:1<=N/\N<=3) (hj:j*(2*N+2)<=24):sqL N t false (j*(2*N+2)+(N+2))=sqL N t false (j*(2*N+2))++callL 2 (sqL N t false (j*(2*N+2))).length (readO N):=by
 have hs:=sqL_small N t false hj
 rw [sqL_len]at hs⊢
 rw [if_neg (by decide)]at hs⊢
 have hrd:=rd_call t (bsQ (sgR N) (j*(2*N+2))) N (by omega) h
 rw [<-hrd]
 clear hrd
 obtain ⟨n,hn⟩: ∃n,j*(2*N+2)=n:=⟨_,rfl⟩
 have pc: ∀r,r<2*N+2->sqPc N t false (n+r)=sgL t (bsQ (sgR N) (n+r)) (bsQ (sgR N) (n+r-(N+1))+1) (if r=0 then .rh else if r<=N then .rl (r-1)else if r=N+1 then .rt else .ro (r-(N+2))):=fun r hr=>by rw [<-hn];exact sqPc_at hr
 have kd: ∀r,r<2*N+2->sgR N (n+r)=if r=0 then .rh else if r<=N then .rl (r-1)else if r=N+1 then .rt else .ro (r-(N+2)):=fun r hr=>by rw [<-hn];exact sgR_at hr
 rw [hn]at hs⊢
 have k0:sgR N n= .rh:=kd 0 (by omega)
 have b1:bsQ (sgR N) (n+1)=bsQ (sgR N) n+5:=by rw [bsQ_add,k0];rfl
 have p0:sqPc N t false n=sgL t (bsQ (sgR N) n) (bsQ (sgR N) n+1) .rh:=by
  have :=pc 0 (by omega)
  rw [if_pos rfl,Nat.add_zero]at this
  rw [this];rfl
 have bl: ∀i,i<=N->bsQ (sgR N) (n+1+i)=bsQ (sgR N) n+5+i:=by
  intro i
  induction i with
  |zero=>intro _;exact b1
  |succ i ih=>
   intro hi
   rw [<-Nat.add_assoc,bsQ_add,ih (by omega),Nat.add_assoc n 1 i,kd (1+i) (by omega),if_neg (by omega),if_pos (by omega)]
   rfl
 have hl: ∀i,i<=N->sqL N t false (n+1+i)=sqL N t false n++(sgL t (bsQ (sgR N) n) (bsQ (sgR N) n+1) .rh++(List.range i).flatMap fun i=>sgL t (bsQ (sgR N) n+5+i) (bsQ (sgR N) n+1) (.rl i)).map Op.ins:=by
  intro i
  induction i with
  |zero=>intro _;rw [Nat.add_zero,sqL_succ,p0];simp
  |succ i ih=>
   intro hi
   have e:=pc (1+i) (by omega)
   rw [if_neg (by omega),if_pos (by omega),<-Nat.add_assoc,bl i (by omega),show 1+i-1=i by omega]at e
   rw [<-Nat.add_assoc,sqL_succ,ih (by omega),e,List.range_succ,List.flatMap_append,List.append_assoc,<-List.map_append]
   congr 2
 have e:=pc (N+1) (by omega)
 rw [if_neg (by omega),if_neg (by omega),if_pos rfl,show n+(N+1)=n+1+N by omega,bl N (Nat.le_refl _),show n+1+N-(N+1)=n by omega]at e
 rw [show n+(N+2)=n+1+N+1 by omega,sqL_succ,hl N (Nat.le_refl _),e,List.append_assoc,<-List.map_append]
end Go.Proofs.YtmhfpjnkjlhbpaaGreatDoor
