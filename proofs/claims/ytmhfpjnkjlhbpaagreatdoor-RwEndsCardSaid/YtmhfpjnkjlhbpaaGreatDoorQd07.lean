/- Memory of a machine: blocks and rows of several types, which stay where one grows (the general lemmas of the Yard's texts, for seats without law08). -/
import Derived.Test.YtmhfpjnkjlhbpaaGreatDoorQd04
import Derived.Test.YtmhfpjnkjlhbpaaGreatDoorQd05
import Derived.Test.YtmhfpjnkjlhbpaaGreatDoorQd06
import Derived.Deep.LoopGhost
namespace Go.Proofs.YtmhfpjnkjlhbpaaGreatDoor
open Go.ChangeShapes Go.WideShapes Go.ChangeAt Go.RowKit Go.Deep
set_option linter.unusedVariables false
set_option maxRecDepth 100000
set_option linter.unusedSimpArgs false
theorem Stay.cell {own:Nat->Prop} {W W':World} (h:Stay own W W') {g:Nat} (hg:own g) (j:Nat):W'.cell? ⟨g,j,none⟩=W.cell? ⟨g,j,none⟩:=by
 have :=h.own g hg
 simp only [World.cell?,this]
theorem Stay.row {own:Nat->Prop} {W W':World} (h:Stay own W W') {base:Nat} {e:TypeId} {size n:Nat} {v:Value} {xs:List Value} (hr:W.ownsRow base e size v n xs) (ho: ∀g,v.ownBlock=some g->own g):W'.ownsRow base e size v n xs:=by
 obtain ⟨h1,h2⟩:=hr
 refine ⟨h1,?_⟩
 rcases h2 with h2|⟨g,cap,cur,rfl,hgb,hh,q⟩
 ·exact .inl h2
 ·exact .inr ⟨g,cap,cur,rfl,hgb,(h.own g (ho g rfl)).trans hh,q⟩
theorem Blk.ne {W:World} {g g':Nat} {t t':TypeId} {cs cs':Array Value} (h:Blk W g t cs) (h':Blk W g' t' cs') (hne:t≠t'):g≠g':=fun e=>by
 subst e
 have :=h.symm.trans h'
 injection this with this
 injection this with _ e _
 exact hne e
theorem row_ne {W:World} {g base size n:Nat} {t e:TypeId} {cs:Array Value} {v:Value} {xs:List Value} (h:Blk W g t cs) (hr:W.ownsRow base e size v n xs) (hne:t≠e):some g≠v.ownBlock:=fun q=>by
 rcases hr.2 with ⟨rfl,_⟩|⟨g',cap,cur,rfl,_,hh,_⟩
 ·cases q
 ·obtain rfl:=Option.some.inj q
  have :=h.symm.trans hh
  injection this with this
  injection this with _ e1 _
  exact hne e1
theorem row_grown {w w':World} {base size n g:Nat} {e:TypeId} {v:Value} {xs:List Value} (h:w.ownsRow base e size v n xs) (hg:w.grownBy w' (some g)) (hne:some g≠v.ownBlock):w'.ownsRow base e size v n xs:=by
 obtain ⟨h1,h2⟩:=h
 refine ⟨h1,?_⟩
 rcases h2 with h2|⟨k,cap,cur,rfl,hgb,hh,q⟩
 ·exact .inl h2
 ·have hlt:k<w.heap.size:=by
   rcases Nat.lt_or_ge k w.heap.size with hlt|hge
   ·exact hlt
   ·rw [Array.getElem?_eq_none hge]at hh;cases hh
  exact .inr ⟨k,cap,cur,rfl,hgb,(hg.block k hlt (fun e=>hne e.symm)).trans hh,q⟩
theorem row_set {w:World} {base n:Nat} {e:TypeId} {v:Value} {xs:List Value} (h:w.ownsRow base e 1 v n xs) {i:Nat} (hi:i<n) (u:Value):
 ∃g cap,v= .slice (some ⟨g,0,none⟩) n cap/\n<=cap/\cap<=maxLen/\(∃cur,Blk w g e cur)/\(∀x,xs[i]?=some x->w.cell? ⟨g,i,none⟩=some x)/\(w.setCell ⟨g,i,none⟩ u).ownsRow base e 1 v n (xs.set i u)/\w.grownBy (w.setCell ⟨g,i,none⟩ u) (some g):=by
 obtain ⟨h1,h2⟩:=h
 rcases h2 with ⟨_,rfl⟩|⟨g,cap,cur,rfl,hb,hg,hc,hm,hs,ht⟩
 ·omega
 ·have hB:Blk w g e cur:=hg
  refine ⟨g,cap,rfl,hc,hm,⟨cur,hB⟩,fun x hx=>?_,⟨by simpa using h1,.inr ⟨g,cap,cur.setIfInBounds i u,rfl,hb,hB.set_ i u,hc,hm,by simpa using hs,?_⟩⟩,set_only u⟩
  ·rw [hB.cell]
   rw [<-ht,List.getElem?_take_of_lt (by omega)]at hx
   simpa using hx
  ·rw [<-ht,Array.toList_setIfInBounds,List.take_set]
theorem own_in {w:World} {base:Nat} {e:TypeId} {size n:Nat} {v:Value} {xs:List Value} (h:w.ownsRow base e size v n xs): ∀g,v.ownBlock=some g->base<=g/\g<w.heap.size:=by
 intro g hg
 rcases h.2 with ⟨rfl,_⟩|⟨k,cap,cur,rfl,hk,hh,_⟩
 ·cases hg
 ·obtain rfl:=Option.some.inj hg
  refine ⟨hk,?_⟩
  rcases Nat.lt_or_ge k w.heap.size with hlt|hge
  ·exact hlt
  ·rw [Array.getElem?_eq_none hge]at hh;cases hh
theorem Moves.bind {σ:Type} {Inv:σ->(Nat->Prop)->World->Prop} {s s':σ} {own:Nat->Prop} {W W1 W2:World} (h:Moves Inv s own W W1) (k: ∀own1,Inv s own1 W1->Moves Inv s' own1 W1 W2):Moves Inv s' own W W2:=by
 obtain ⟨own1,h1,h2,h3⟩:=h
 obtain ⟨own2,k1,k2,k3⟩:=k own1 h1
 refine ⟨own2,k1,fun j hj=>?_,h3.trans k3 h2⟩
 rcases k2 j hj with h|h
 ·exact h2 j h
 ·exact .inr (Nat.le_trans h3.size h)
theorem Moves.after {σ:Type} {Inv:σ->(Nat->Prop)->World->Prop} {s':σ} {own own1:Nat->Prop} {W W1 W2:World} (h2: ∀j,own1 j->own j∨W.heap.size<=j) (h3:KeepOut own W W1) (k:Moves Inv s' own1 W1 W2):Moves Inv s' own W W2:=by
 obtain ⟨own2,k1,k2,k3⟩:=k
 refine ⟨own2,k1,fun j hj=>?_,h3.trans k3 h2⟩
 rcases k2 j hj with h|h
 ·exact h2 j h
 ·exact .inr (Nat.le_trans h3.size h)
theorem own_there {w:World} {base g len cap s:Nat} {e:TypeId} {xs:List Value} {p k:Nat} (h:w.ownsRow base e s (.slice (some ⟨g,0,none⟩) len cap) len xs) (hp:p+k<=len*s):w.there g p k:=by
 obtain ⟨h1,h2⟩:=h
 rcases h2 with ⟨h',_⟩|⟨g',cap',cur,h',hb,hg,hnc,hcm,hcs,htake⟩
 ·simp at h'
 ·simp only [Value.slice.injEq,Option.some.injEq,Addr.mk.injEq,and_true,true_and]at h'
  obtain ⟨rfl,rfl⟩:=h'
  have hls:len*s<=cap*s:=Nat.mul_le_mul_right _ hnc
  exact Blk.there (show Blk w g e cur from hg) p k (by omega)
theorem own_some {w:World} {base len s:Nat} {e:TypeId} {v:Value} {xs:List Value} (h:w.ownsRow base e s v len xs) (hl:0<len): ∃g cap,v= .slice (some ⟨g,0,none⟩) len cap/\base<=g/\g<w.heap.size/\len<=cap:=by
 rcases h.2 with ⟨_,h0⟩|⟨g,cap,cur,rfl,hg,hh,hc,_⟩
 ·omega
 ·refine ⟨g,cap,rfl,hg,?_,hc⟩
  rcases Nat.lt_or_ge g w.heap.size with hlt|hge
  ·exact hlt
  ·rw [Array.getElem?_eq_none hge]at hh;cases hh
structure KM (w:World) (kb ko:Nat) (kt:TypeId) (ca:Array Value) (v:Value) (l:List Slp):Prop where
 blk:Blk w kb kt ca
 get:ca[ko]?=some v
 row:w.ownsRow 0 213 2 v l.length (l.flatMap slp)
 ty:kt≠213
theorem KM.sle {w:World} {kb ko:Nat} {kt:TypeId} {ca:Array Value} {v:Value} {l:List Slp} (h:KM w kb ko kt ca v l): ∃A cap,v= .slice A l.length cap/\l.length<=cap/\SlE w A l.length 2 (fun i=>slp (l.getD i (0,0))):=own_sle slp (fun _=>rfl) (0,0) l h.row
theorem KM.below {w w':World} {kb ko:Nat} {kt:TypeId} {ca:Array Value} {v:Value} {l:List Slp} (h:KM w kb ko kt ca v l) (hb:Below w.heap.size w w'):KM w' kb ko kt ca v l:=⟨h.blk.below hb h.blk.lt,h.get,own_below h.row (Nat.le_refl _) hb,h.ty⟩
theorem KM.lt {w:World} {kb ko:Nat} {kt:TypeId} {ca:Array Value} {v:Value} {l:List Slp} (h:KM w kb ko kt ca v l):ko<ca.size:=(Array.getElem?_eq_some_iff.1 h.get).1
theorem find_anyM (kb ko:Nat) (kt:TypeId) (ca:Array Value) (v:Value) (l:List Slp) (hm:l.length<=1000000) (who:Int) (w:World) (h:KM w kb ko kt ca v l):
 Calls Tryz.prog 129 #[.pointer (some ⟨kb,ko,none⟩),.int .i64 who] w fun e w'=>e= .returned (.int .i64 (fndI l who))/\Below w.heap.size w w':=by
 obtain ⟨A,cap,rfl,_,hs⟩:=h.sle
 have hB:=(Below.refl w.heap.size w).alloc (Nat.le_refl _) (Obj.cells #[.int .i64 who] 3)
 have c0:=keepAt hB h.blk.lt ((h.blk.cell ko).trans h.get)
 have hs1:SlE (w.alloc (Obj.cells #[.int .i64 who] 3)) A l.length 2 (fun i=>slp (l.getD i (0,0))):=SlE.step hs ((Below.refl _ w).alloc (Nat.le_refl _) _)
 have cI:=index_find A l.length cap l rfl hm who w.heap.size _ hs1 ((Blk.new w 3 #[.int .i64 who]).cell 0) (Blk.new w 3 #[.int .i64 who]).lt
 have HI:=Lib.hid cI
 clear cI hs hs1 h
 go_enter Tryz.func129,Tryz.ntmps129
 go_wp2_with fail
 refine HI.out.mono ?_
 rintro e w1 ⟨rfl,hb1⟩
 go_wp2
 go_ret
 exact ⟨rfl,step_below hB hb1⟩
theorem asleep_anyM (kb ko:Nat) (kt:TypeId) (ca:Array Value) (v:Value) (l:List Slp) (hm:l.length<=1000000) (who:Int) (w:World) (h:KM w kb ko kt ca v l):
 Calls Tryz.prog 174 #[.pointer (some ⟨kb,ko,none⟩),.int .i64 who] w fun e w'=>e= .returned (.tuple #[.int .i64 (aslp l who).1,.bool (aslp l who).2])/\Below w.heap.size w w':=by
 have cF:=find_anyM kb ko kt ca v l hm who w h
 by_cases hf:fnd l who<l.length
 ·obtain ⟨k,hk⟩: ∃k,fnd l who=k:=⟨_,rfl⟩
  have e1:fndI l who=(k:Int):=by unfold fndI;rw [if_pos hf,hk]
  have e2:aslp l who=((l.getD k (0,0)).2,true):=by unfold aslp;rw [if_pos hf,hk]
  rw [e1]at cF
  rw [e2]
  rw [hk]at hf
  obtain ⟨p,hp⟩: ∃p,l.getD k (0,0)=p:=⟨_,rfl⟩
  rw [hp]
  have HP:=Lib.hid hp
  clear hk e1 e2 hp
  have HK:=Lib.hid h
  have hlt:=h.blk.lt
  clear h
  go_enter Tryz.func174,Tryz.ntmps174
  go_wp2_with fail
  refine cF.mono ?_
  rintro e w1 ⟨rfl,hb1⟩
  obtain ⟨A,cap,rfl,_,hs⟩:=HK.out.sle
  obtain ⟨b,off,rfl,hb,hc⟩:=hs (by omega)
  have k1:=keepAt hb1 hb (hc k hf 1 (.int .i64 (l.getD k (0,0)).2) rfl)
  have c0:=keepAt hb1 hlt ((HK.out.blk.cell ko).trans HK.out.get)
  have hk0:(0:Int)<=(k:Int):=by omega
  have hk1:(k:Int)<(l.length:Int):=by omega
  rw [HP.out]at k1
  clear hs hc HK cF
  generalize l.length=n at*
  go_wp2
  go_ret2
  exact ⟨rfl,hb1⟩
 ·have e1:fndI l who= -1:=by unfold fndI;rw [if_neg hf]
  have e2:aslp l who=(0,false):=by unfold aslp;rw [if_neg hf]
  rw [e1]at cF
  rw [e2]
  clear e1 e2 hf h
  go_enter Tryz.func174,Tryz.ntmps174
  go_wp2_with fail
  refine cF.mono ?_
  rintro e w1 ⟨rfl,hb1⟩
  go_wp2
  go_ret2
  exact ⟨rfl,hb1⟩
theorem sleep_noM (kb ko:Nat) (kt:TypeId) (ca:Array Value) (v:Value) (l:List Slp) (hm:l.length<=1000000) (who addr:Int) (he:slpE l who≠0) (w:World) (h:KM w kb ko kt ca v l):
 Calls Tryz.prog 172 #[.pointer (some ⟨kb,ko,none⟩),.int .i64 who,.int .i64 addr] w fun e w'=>e= .returned (.int .i64 (slpE l who))/\Below w.heap.size w w':=by
 by_cases hw:who<0∨7<who
 ·have e1:slpE l who=1:=by unfold slpE;rw [if_pos hw]
  rw [e1]
  clear e1 he h
  rcases hw with hw|hw
  ·go_enter Tryz.func172,Tryz.ntmps172
   go_wp2
   go_ret
   exact ⟨rfl,Below.refl _ _⟩
  ·have h0: ¬who<0:=by omega
   have h8:8<=who:=by omega
   go_enter Tryz.func172,Tryz.ntmps172
   go_wp2
   go_ret
   exact ⟨rfl,Below.refl _ _⟩
 ·have hf:fnd l who<l.length:=by
   by_cases hf:fnd l who<l.length
   ·exact hf
   ·exact absurd (by unfold slpE;rw [if_neg hw,if_neg hf]) he
  have e1:slpE l who=6:=by unfold slpE;rw [if_neg hw,if_pos hf]
  have e2:(aslp l who).2=true:=by unfold aslp;rw [if_pos hf]
  have cA:=asleep_anyM kb ko kt ca v l hm who w h
  rw [e2]at cA
  rw [e1]
  have h0: ¬who<0:=by omega
  have h8: ¬8<=who:=by omega
  clear e1 e2 he h hw hf
  go_enter Tryz.func172,Tryz.ntmps172
  go_wp2_with fail
  refine cA.mono ?_
  rintro e w1 ⟨rfl,hb1⟩
  go_wp2
  go_ret
  exact ⟨rfl,hb1⟩
def SleptM (l:List Slp) (kb ko:Nat) (kt:TypeId) (ca:Array Value) (v:Value) (w w':World):Prop:=
 ∃v',KM w' kb ko kt (ca.setIfInBounds ko v') v' l/\KStep w w' kb v/\ ∀g,v'.ownBlock=some g->v.ownBlock=some g∨w.heap.size<=g
theorem KM.put {w w5:World} {kb ko:Nat} {kt:TypeId} {ca:Array Value} {v v':Value} {l l':List Slp} (h:KM w kb ko kt ca v l) (hs:KStep w w5 kb v) (hb:Blk w5 kb kt ca) (hr:w5.ownsRow 0 213 2 v' l'.length (l'.flatMap slp))
 (hv: ∀g,v'.ownBlock=some g->v.ownBlock=some g∨w.heap.size<=g):SleptM l' kb ko kt ca v w (w5.setCell ⟨kb,ko,none⟩ v'):=by
 have hg5:w5.grownBy (w5.setCell ⟨kb,ko,none⟩ v') (some kb):=set_only _
 refine ⟨v',⟨hb.set_ ko v',by simp [h.lt],row_grown hr hg5 (row_ne hb hr h.ty),h.ty⟩,⟨hs.os,hs.tape,hs.output,Nat.le_trans hs.size hg5.size,fun i hi h1 h2=>(Below.heap_setCell w5 ⟨kb,ko,none⟩ v' i h1).trans (hs.block i hi h1 h2)⟩,hv⟩
set_option maxHeartbeats 1000000 in
theorem sleep_yesM (kb ko:Nat) (kt:TypeId) (ca:Array Value) (v:Value) (l:List Slp) (hm:l.length<=10000) (who addr:Int) (he:slpE l who=0) (w:World) (h:KM w kb ko kt ca v l):
 Calls Tryz.prog 172 #[.pointer (some ⟨kb,ko,none⟩),.int .i64 who,.int .i64 addr] w fun e w'=>e= .returned (.int .i64 0)/\SleptM (l++[(who,addr)]) kb ko kt ca v w w':=by
 have hw: ¬(who<0∨7<who):=by
  intro hw
  unfold slpE at he
  rw [if_pos hw]at he
  exact absurd he (by decide)
 have hf: ¬fnd l who<l.length:=by
  intro hf
  unfold slpE at he
  rw [if_neg hw,if_pos hf]at he
  exact absurd he (by decide)
 have e2:aslp l who=(0,false):=by unfold aslp;rw [if_neg hf]
 have cA:=asleep_anyM kb ko kt ca v l (by omega) who w h
 rw [e2]at cA
 have h0: ¬who<0:=by omega
 have h8: ¬8<=who:=by omega
 obtain ⟨i0,hi,hy0,hy1,hy2⟩:=info_parts slp_info
 obtain ⟨A,cap,rfl,_,_⟩:=own_sl h.row
 have HK:=Lib.hid h
 clear e2 he hw hf h
 go_enter Tryz.func172,Tryz.ntmps172
 go_wp2_with fail
 refine cA.mono ?_
 rintro e w1 ⟨rfl,hb1⟩
 have h1:=HK.out.below hb1
 have hal:=(Below.refl w1.heap.size w1).alloc (Nat.le_refl _) (.cells #[.int .i64 who,.int .i64 addr] 213)
 have h2:=h1.below hal
 have c0:w1.cell? ⟨kb,ko,none⟩=some (.slice A l.length cap):=(h1.blk.cell ko).trans h1.get
 have hown:=h2.row
 have hsl:=sl_new w1 213 [.int .i64 who,.int .i64 addr]
 have hone: ∀k,k<1*2->([Value.int .i64 who,Value.int .i64 addr].getD k undef).oneCell'=true:=fun k hk=>by
  rcases (by omega:k=0∨k=1)with rfl|rfl<;>rfl
 have hS2:KStep w (w1.alloc (.cells #[.int .i64 who,.int .i64 addr] 213)) kb (.slice A l.length cap):=KStep.of_below (step_below hb1 hal)
 have hzz:w.heap.size<=(w1.alloc (.cells #[.int .i64 who,.int .i64 addr] 213)).heap.size:=hS2.size
 have H2:=Lib.hid (And.intro h2 (And.intro hS2 hzz))
 clear h1 h2 hal cA hS2 hzz
 go_wp2_with (at_builtin;refine wpList_append_sl _ rfl (.tmp 26) (.tmp 30) 105 rfl 0 213 i0 _ 2 16 Tryz.underlying105 hi hy0 hy1 hy2 rfl (by omega) _ l.length _ rfl hown _ 1 _ (fun i=>[Value.int .i64 who,Value.int .i64 addr].getD i undef) rfl hsl hone (by unfold maxLen;omega) (by omega) (Nat.zero_le _) ?_;intro v' w5 hown5 hg5 hv5;rw [range_getD [Value.int .i64 who,Value.int .i64 addr] (1*2) rfl]at hown5;have hb5:=H2.out.1.blk.grown hg5 (row_ne H2.out.1.blk H2.out.1.row H2.out.1.ty);have f0:=hb5.frozen ko;have q0:w5.cell? ⟨kb,ko,none⟩=some (.slice A l.length cap):=(hb5.cell ko).trans H2.out.1.get;have H5:=Lib.hid (KM.put (l':=l++[(who,addr)]) HK.out ⟨hg5.os.trans H2.out.2.1.os,hg5.tape.trans H2.out.2.1.tape,hg5.output.trans H2.out.2.1.output,Nat.le_trans H2.out.2.1.size hg5.size,fun i hi h1 h2=>(hg5.block i (Nat.lt_of_lt_of_le hi H2.out.2.1.size) h2).trans (H2.out.2.1.block i hi h1 h2)⟩ hb5 (by rw [List.length_append,List.flatMap_append];exact hown5) (fun g hg=>hv5.elim (fun e=> .inl (e.symm.trans hg)) (fun e=> .inr (by have h9:=Option.some.inj (e.symm.trans hg);have h8:=H2.out.2.2;omega))));obtain ⟨nA,nc,rfl,_,_⟩:=own_sl hown5;clear hown hown5 hg5 hv5 hb5 hsl hone)
 go_ret
 exact ⟨rfl,H5.out⟩
def WakeM (l:List Slp) (kb ko:Nat) (kt:TypeId) (ca:Array Value) (addr:Int) (n:Nat) (v:Value) (w:World) (e:Ending) (w':World):Prop:=
 ∃ov,e= .returned ov/\w'.ownsRow w.heap.size 3 1 ov (wk addr n l).2.length ((wk addr n l).2.map (Value.int .i64))/\SleptM (wk addr n l).1 kb ko kt ca v w w'
set_option maxHeartbeats 1000000 in
theorem wake_anyM (kb ko:Nat) (kt:TypeId) (ca:Array Value) (v:Value) (l:List Slp) (hm:l.length<=10000) (addr:Int) (n:Nat) (hn:n<=4294967295) (w:World) (h:KM w kb ko kt ca v l):
 Calls Tryz.prog 173 #[.pointer (some ⟨kb,ko,none⟩),.int .i64 addr,.int .u32 (n:Int)] w (WakeM l kb ko kt ca addr n v w):=by
 have hB:=(((Below.refl w.heap.size w).alloc (Nat.le_refl _) (Obj.cells #[.int .i64 addr] 3)).alloc (by simp) (Obj.cells #[.int .u32 (n:Int)] 42)).alloc (by simp;omega) (Obj.cells #[.slice none 0 0] 70)
 have hsz:(((w.alloc (Obj.cells #[.int .i64 addr] 3)).alloc (Obj.cells #[.int .u32 (n:Int)] 42)).alloc (Obj.cells #[.slice none 0 0] 70)).heap.size=w.heap.size+3:=by simp
 have hO:O (((w.alloc (Obj.cells #[.int .i64 addr] 3)).alloc (Obj.cells #[.int .u32 (n:Int)] 42)).alloc (Obj.cells #[.slice none 0 0] 70)) w.heap.size (w.heap.size+1) (w.heap.size+2) (w.heap.size+3) addr n (.slice none 0 0) []:=
  {a:=((Blk.new w _ _).alloc _).alloc _
   n:=(Blk.new2 w _ _ _).alloc _
   blk:=by
    have :=Blk.new2 (w.alloc (Obj.cells #[.int .i64 addr] 3)) (Obj.cells #[.int .u32 (n:Int)] 42) 70 #[.slice none 0 0]
    rwa [show (w.alloc (Obj.cells #[.int .i64 addr] 3)).heap.size+1=w.heap.size+2 by simp]at this
   row:=⟨rfl,.inl ⟨rfl,rfl⟩⟩
   lt:=by omega
   la:=by omega
   ln:=by omega
   hs:=by rw [hsz];exact Nat.le_refl _
   ao:=by omega
   no:=by omega}
 have h1:=h.below hB
 have cD:=delete_wake l hm w.heap.size (w.heap.size+1) (w.heap.size+2) (w.heap.size+3) 0 addr n hn v _ (by rw [hsz];exact Nat.le_refl _) h1.row hO
 have c0:(((w.alloc (Obj.cells #[.int .i64 addr] 3)).alloc (Obj.cells #[.int .u32 (n:Int)] 42)).alloc (Obj.cells #[.slice none 0 0] 70)).cell? ⟨kb,ko,none⟩=some v:=(h1.blk.cell ko).trans h1.get
 obtain ⟨A,cap,rfl,_,_⟩:=own_sl h.row
 have HH:=Lib.hid (And.intro h (And.intro h1 (And.intro hB hO)))
 have hkb:=h.blk.lt
 clear h h1 hB hO hsz
 go_enter Tryz.func173,Tryz.ntmps173
 go_wp2_with fail
 refine cD.mono ?_
 rintro e w4 ⟨v',ov,rfl,hrow,hvb,hO4,hS4⟩
 obtain ⟨h,h1,hB,hO⟩:=HH.out
 have hblk4:Blk w4 kb kt ca:=hS4.blkG h1.row h1.blk (by omega) h1.ty
 have f0:=hblk4.frozen ko
 have q0:w4.cell? ⟨kb,ko,none⟩=some (.slice A l.length cap):=(hblk4.cell ko).trans h1.get
 have hg5:w4.grownBy (w4.setCell ⟨kb,ko,none⟩ v') (some kb):=set_only _
 have hO5:Blk (w4.setCell ⟨kb,ko,none⟩ v') (w.heap.size+2) 70 #[ov]:=hO4.blk.far (by show w.heap.size+2≠kb;omega) v'
 have o0:(w4.setCell ⟨kb,ko,none⟩ v').cell? ⟨w.heap.size+2,0,none⟩=some ov:=(hO5.cell 0).trans rfl
 have hrow5:(w4.setCell ⟨kb,ko,none⟩ v').ownsRow w.heap.size 3 1 ov (wk addr n l).2.length ((wk addr n l).2.map (Value.int .i64)):=own_base (own_grown hO4.row hg5 (by omega)) (by omega)
 have hS5:KStep w w4 kb (.slice A l.length cap):=
  ⟨hS4.os.trans hB.os,hS4.tape.trans hB.tape,hS4.output.trans hB.output,Nat.le_trans hB.size hS4.size,fun i hi h2 h3=>(hS4.block i (Nat.lt_of_lt_of_le hi hB.size) (by omega) h3).trans (hB.block i hi)⟩
 have hP:=KM.put h hS5 hblk4 hrow (fun g hg=> .inl (hvb.symm.trans hg))
 obtain ⟨nA,nc,rfl,_,_⟩:=own_sl hrow
 have HF:=Lib.hid (And.intro hrow5 hP)
 obtain ⟨oA,oc,rfl,_,_⟩:=own_sl hrow5
 clear h h1 hB hO HH hblk4 hg5 hO5 hrow5 hP hS5 hrow hO4 hS4 hvb cD c0
 go_wp2
 go_ret
 exact ⟨_,rfl,HF.out.1,HF.out.2⟩
theorem rouse_noM (kb ko:Nat) (kt:TypeId) (ca:Array Value) (v:Value) (l:List Slp) (hm:l.length<=10000) (who:Int) (hf: ¬fnd l who<l.length) (w:World) (h:KM w kb ko kt ca v l):
 Calls Tryz.prog 76 #[.pointer (some ⟨kb,ko,none⟩),.int .i64 who] w fun e w'=>e= .returned (.bool false)/\Below w.heap.size w w':=by
 have cF:=find_anyM kb ko kt ca v l (by omega) who w h
 rw [show fndI l who= -1 by unfold fndI;rw [if_neg hf]]at cF
 clear h hf
 go_enter Tryz.func76,Tryz.ntmps76
 go_wp2_with fail
 refine cF.mono ?_
 rintro e w1 ⟨rfl,hb1⟩
 go_wp2
 go_ret
 exact ⟨rfl,hb1⟩
set_option maxHeartbeats 1000000 in
theorem rouse_yesM (kb ko:Nat) (kt:TypeId) (ca:Array Value) (v:Value) (l:List Slp) (hm:l.length<=10000) (who:Int) (hf:fnd l who<l.length) (w:World) (h:KM w kb ko kt ca v l):
 Calls Tryz.prog 76 #[.pointer (some ⟨kb,ko,none⟩),.int .i64 who] w fun e w'=>e= .returned (.bool true)/\SleptM (l.eraseIdx (fnd l who)) kb ko kt ca v w w':=by
 have cF:=find_anyM kb ko kt ca v l (by omega) who w h
 obtain ⟨k,hk⟩: ∃k,fnd l who=k:=⟨_,rfl⟩
 rw [show fndI l who=(k:Int) by unfold fndI;rw [if_pos hf,hk]]at cF
 rw [hk]at hf⊢
 clear hk
 have hk0: ¬(k:Int)<0:=by omega
 obtain ⟨A,cap,rfl,_,_⟩:=own_sl h.row
 have HH:=Lib.hid h
 clear h
 go_enter Tryz.func76,Tryz.ntmps76
 go_wp2_with fail
 refine cF.mono ?_
 rintro e w1 ⟨rfl,hb1⟩
 have h1:=HH.out.below hb1
 have c0:w1.cell? ⟨kb,ko,none⟩=some (.slice A l.length cap):=(h1.blk.cell ko).trans h1.get
 have cD:=delete_one l hm k 0 hf _ w1 h1.row
 have H1:=Lib.hid (And.intro h1 hb1)
 clear h1 hb1 cF
 go_wp2_with fail
 refine cD.mono ?_
 rintro e w2 ⟨v',rfl,hrow,hvb,hg⟩
 obtain ⟨h1,hb1⟩:=H1.out
 have hblk2:=h1.blk.grown hg (row_ne h1.blk h1.row h1.ty)
 have f0:=hblk2.frozen ko
 have q0:w2.cell? ⟨kb,ko,none⟩=some (.slice A l.length cap):=(hblk2.cell ko).trans h1.get
 have hS:KStep w w2 kb (.slice A l.length cap):=⟨hg.os.trans hb1.os,hg.tape.trans hb1.tape,hg.output.trans hb1.output,Nat.le_trans hb1.size hg.size,fun i hi h2 h3=>(hg.block i (Nat.lt_of_lt_of_le hi hb1.size) h3).trans (hb1.block i hi)⟩
 have HF:=Lib.hid (KM.put HH.out hS hblk2 hrow (fun g hg=> .inl (hvb.symm.trans hg)))
 obtain ⟨nA,nc,rfl,_,_⟩:=own_sl hrow
 clear h1 hb1 hblk2 hS hrow hg hvb cD c0 H1
 go_wp2
 go_ret
 exact ⟨rfl,HF.out⟩
end Go.Proofs.YtmhfpjnkjlhbpaaGreatDoor
