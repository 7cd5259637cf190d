/- pick.Even: an even script. -/
import Derived.Test.YtmhfpjnkjlhbpaaGreatDoorQd40
import Derived.Test.YtmhfpjnkjlhbpaaGreatDoorQd36
import Derived.Deep.DeepCutAuto
import Derived.Deep.DeepMust
namespace Go.Proofs.YtmhfpjnkjlhbpaaGreatDoor
open Go.ChangeShapes Go.WideShapes Go.ChangeAt Go.RowKit Go.Deep
set_option linter.unusedVariables false
set_option maxRecDepth 100000
set_option linter.unusedSimpArgs false
structure Its (n:Nat) (S:Nat->Nat->Prop) (D:Du) (F:Nat->Itm):Prop where
 all: ∀i,i<n-> ∃kind who:Nat,S kind who/\F i=⟨(kind:Int),(who:Int),D kind who⟩
 ex: ∀kind who:Nat,S kind who-> ∃i,i<n/\(F i).kind=(kind:Int)/\(F i).who=(who:Int)
 inj: ∀i j,i<n->j<n->(F i).kind=(F j).kind->(F i).who=(F j).who->i=j
def sig (i j k:Nat):Nat:=if k=i then j else if k=j then i else k
theorem swp_sig (F:Nat->Itm) (i j k:Nat):swp F i j k=F (sig i j k):=by
 unfold swp sig
 split
 ·rfl
 ·split<;>rfl
theorem sig_sig (i j k:Nat):sig i j (sig i j k)=k:=by
 unfold sig
 by_cases h1:k=i
 ·subst h1
  rw [if_pos rfl]
  by_cases h2:j=k
  ·rw [if_pos h2,h2]
  ·rw [if_neg h2,if_pos rfl]
 ·rw [if_neg h1]
  by_cases h2:k=j
  ·rw [if_pos h2,if_pos rfl,h2]
  ·rw [if_neg h2,if_neg h1,if_neg h2]
theorem sig_lt {i j k n:Nat} (hi:i<n) (hj:j<n) (hk:k<n):sig i j k<n:=by
 unfold sig
 split
 ·exact hj
 ·split
  ·exact hi
  ·exact hk
theorem Its.swaps {n:Nat} {S:Nat->Nat->Prop} {D:Du} {F G:Nat->Itm} (h:Its n S D F) (k:Swaps n F G):Its n S D G:=by
 induction k with
 |refl=>exact h
 |step k i j hi hj ih=>
  refine ⟨fun m hm=>?_,fun kind who hs=>?_,fun a b ha hb e1 e2=>?_⟩
  ·rw [swp_sig];exact ih.all _ (sig_lt hi hj hm)
  ·obtain ⟨m,hm,h1,h2⟩:=ih.ex kind who hs
   exact ⟨sig i j m,sig_lt hi hj hm,by rw [swp_sig,sig_sig];exact h1,by rw [swp_sig,sig_sig];exact h2⟩
  ·rw [swp_sig,swp_sig]at e1 e2
   have :=ih.inj _ _ (sig_lt hi hj ha) (sig_lt hi hj hb) e1 e2
   have h3:=congrArg (sig i j) this
   rwa [sig_sig,sig_sig]at h3
theorem Its.push {n:Nat} {S S':Nat->Nat->Prop} {D:Du} {F:Nat->Itm} (h:Its n S D F) (kind who:Nat) (hn: ¬S kind who) (hS: ∀a b,S' a b↔S a b∨(a=kind/\b=who)):Its (n+1) S' D (snocI F n ⟨(kind:Int),(who:Int),D kind who⟩):=by
 have old: ∀i,i≠n->snocI F n ⟨(kind:Int),(who:Int),D kind who⟩ i=F i:=fun i hi=>by unfold snocI;rw [if_neg hi]
 have new:snocI F n ⟨(kind:Int),(who:Int),D kind who⟩ n=⟨(kind:Int),(who:Int),D kind who⟩:=by unfold snocI;rw [if_pos rfl]
 have nn: ∀i,i<n->(F i).kind=(kind:Int)->(F i).who=(who:Int)->False:=fun i hi e1 e2=>by
  obtain ⟨a,b,hs,he⟩:=h.all i hi
  rw [he]at e1 e2
  dsimp only at e1 e2
  rw [Int.ofNat_inj.1 e1,Int.ofNat_inj.1 e2]at hs
  exact hn hs
 refine ⟨fun i hi=>?_,fun a b hs=>?_,fun i j hi hj e1 e2=>?_⟩
 ·by_cases e:i=n
  ·subst e
   exact ⟨kind,who,(hS _ _).2 (.inr ⟨rfl,rfl⟩),new⟩
  ·obtain ⟨a,b,hs,he⟩:=h.all i (by omega)
   exact ⟨a,b,(hS _ _).2 (.inl hs),by rw [old i e,he]⟩
 ·rcases (hS a b).1 hs with hs|⟨rfl,rfl⟩
  ·obtain ⟨i,hi,h1,h2⟩:=h.ex a b hs
   exact ⟨i,by omega,by rw [old i (by omega)];exact h1,by rw [old i (by omega)];exact h2⟩
  ·exact ⟨n,by omega,by rw [new],by rw [new]⟩
 ·by_cases ei:i=n
  ·by_cases ej:j=n
   ·omega
   ·subst ei
    rw [new,old j ej]at e1 e2
    exact (nn j (by omega) e1.symm e2.symm).elim
  ·by_cases ej:j=n
   ·subst ej
    rw [new,old i ei]at e1 e2
    exact (nn i (by omega) e1 e2).elim
   ·rw [old i ei,old j ej]at e1 e2
    exact h.inj i j (by omega) (by omega) e1 e2
theorem Its.setd {n:Nat} {S:Nat->Nat->Prop} {D:Du} {F:Nat->Itm} (h:Its n S D F) (i:Nat) (hi:i<n) (v:Int):Its n S (updD D ((F i).kind,(F i).who) v) (fun k=>if k=i then ⟨(F i).kind,(F i).who,v⟩else F k):=by
 refine ⟨fun j hj=>?_,fun a b hs=>?_,fun a b ha hb e1 e2=>?_⟩
 ·by_cases e:j=i
  ·subst e
   obtain ⟨a,b,hs,he⟩:=h.all j hj
   refine ⟨a,b,hs,?_⟩
   rw [if_pos rfl,he]
   unfold updD
   rw [if_pos rfl]
  ·obtain ⟨a,b,hs,he⟩:=h.all j hj
   refine ⟨a,b,hs,?_⟩
   rw [if_neg e,he]
   unfold updD
   rw [if_neg]
   intro e2
   injection e2 with q1 q2
   exact e (h.inj j i hj hi (by rw [he];exact q1) (by rw [he];exact q2))
 ·obtain ⟨j,hj,h1,h2⟩:=h.ex a b hs
  refine ⟨j,hj,?_⟩
  by_cases e:j=i
  ·subst e
   rw [if_pos rfl]
   exact ⟨h1,h2⟩
  ·rw [if_neg e]
   exact ⟨h1,h2⟩
 ·have hk: ∀j,(if j=i then (⟨(F i).kind,(F i).who,v⟩:Itm)else F j).kind=(F j).kind:=fun j=>by
   split
   ·rename_i e;rw [e]
   ·rfl
  have hw: ∀j,(if j=i then (⟨(F i).kind,(F i).who,v⟩:Itm)else F j).who=(F j).who:=fun j=>by
   split
   ·rename_i e;rw [e]
   ·rfl
  rw [hk,hk]at e1
  rw [hw,hw]at e2
  exact h.inj a b ha hb e1 e2
theorem Its.setd_none {n:Nat} {S:Nat->Nat->Prop} {D:Du} {F:Nat->Itm} (h:Its n S D F) (x:Pk) (v:Int) (hx: ∀i,i<n-> ¬((F i).kind=x.1/\(F i).who=x.2)):Its n S (updD D x v) F:=
 ⟨fun j hj=>by
  obtain ⟨a,b,hs,he⟩:=h.all j hj
  refine ⟨a,b,hs,?_⟩
  rw [he]
  unfold updD
  rw [if_neg]
  intro e
  refine hx j hj ?_
  rw [he,<-e]
  exact ⟨rfl,rfl⟩,h.ex,h.inj⟩
def Full (t:Nat) (kind who:Nat):Prop:=kind<2/\who<t
theorem Its.first {n t:Nat} {D:Du} {F:Nat->Itm} (h:Its n (Full t) D F) (hH:Heap n F) (hn:0<n): ∃kind who:Nat,First t D kind who/\F 0=⟨(kind:Int),(who:Int),D kind who⟩:=by
 obtain ⟨a,b,hs,he⟩:=h.all 0 hn
 refine ⟨a,b,⟨hs.1,hs.2,fun k' w' hk hw=>?_⟩,he⟩
 obtain ⟨j,hj,h1,h2⟩:=h.ex k' w' ⟨hk,hw⟩
 have :=hH.root j hj
 rw [he]at this
 obtain ⟨c,d,_,he2⟩:=h.all j hj
 rw [he2]at h1 h2 this
 dsimp only at h1 h2 this
 rw [Int.ofNat_inj.1 h1,Int.ofNat_inj.1 h2]at this
 exact this
theorem Its.none_ (D:Du) (F:Nat->Itm):Its 0 (Full 0) D F:=⟨fun i hi=>absurd hi (by omega),fun a b hs=>absurd hs.2 (by omega),fun i j hi=>absurd hi (by omega)⟩
theorem hpush3 (Bd g n cap base:Nat) (F:Nat->Itm) (a b c:Int) (hn:n+1<=1000) (w:World) (hS:HS w Bd g n cap F) (hH:Heap n F) (hg:base<=g):
 Calls Tryz.prog 79 #[.iface 164 (.pointer (some ⟨Bd,0,none⟩)),.iface 169 (.agg #[.int .i64 a,.int .i64 b,.int .i64 c])] w (HPush w Bd g n base F ⟨a,b,c⟩):=
 hpush_any Bd g n cap base F ⟨a,b,c⟩ hn w hS hH hg
theorem even_no (A:Option Addr) (len cap:Nat) (t w n:Int) (W:World) (h:(t<1∨8<t∨w<4*t)∨((1<=t/\t<=8/\4*t<=w)/\(n<0∨100000<n))):
 Calls Tryz.prog 37 #[.slice A len cap,.int .i64 t,.int .i64 w,.int .i64 n] W fun e w'=>e= .returned (.tuple #[.slice none 0 0,.int .i64 1])/\W=w':=by
 rcases h with h|⟨⟨h1,h2,h3⟩,h⟩
 ·go_enter Tryz.func37,Tryz.ntmps37
  go_wp2_with (go_at_call 78;refine (right_no _ _ _ h).mono ?_;rintro e w' ⟨rfl,rfl⟩)
  go_ret2
  exact ⟨rfl,rfl⟩
 ·rcases h with h|h
  ·go_enter Tryz.func37,Tryz.ntmps37
   go_wp2_with (go_at_call 78;refine (right_yes _ _ _ h1 h2 h3).mono ?_;rintro e w' ⟨rfl,rfl⟩)
   go_ret2
   exact ⟨rfl,rfl⟩
  ·have h0: ¬n<0:=by omega
   go_enter Tryz.func37,Tryz.ntmps37
   go_wp2_with (go_at_call 78;refine (right_yes _ _ _ h1 h2 h3).mono ?_;rintro e w' ⟨rfl,rfl⟩)
   go_ret2
   exact ⟨rfl,rfl⟩
theorem pk_info:(Tryz.prog.info? 78).map (fun i=>(i.zero,i.size,i.bytes))=some (some (.agg #[.int .i64 0,.int .i64 0]),2,16):=by kernel_rfl
def lenOf:Value->Nat
 | .slice _ n _=>n
 |_=>0
def pkE (x:Pk):List Value:=[.int .i64 x.1,.int .i64 x.2]
structure EvA (t w:Nat) (W wr:World) (r:Nat):Prop where
 mem: ∃F g cap,Heap (2*r) F/\Its (2*r) (Full r) (du0 w) F/\HS wr (W.heap.size+1) g (2*r) cap F/\W.heap.size<=g
 below:Below W.heap.size W wr
structure EvnB (t w len:Nat) (P:Nat->Pk) (W wr:World) (L:List Pk) (D:Du) (kk:Nat) (v:Value):Prop where
 row:wr.ownsRow W.heap.size 78 2 v L.length (L.flatMap pkE)
 play:Play t w len P L D kk
 mem: ∃F g cap,Heap (2*t) F/\Its (2*t) (Full t) D F/\HS wr (W.heap.size+1) g (2*t) cap F/\W.heap.size<=g
 below:Below W.heap.size W wr
theorem own_block {w:World} {base:Nat} {e:TypeId} {size n:Nat} {v:Value} {xs:List Value} (h:w.ownsRow base e size v n xs) (r:Nat) (hr:v.ownBlock=some r): ∃cur,Blk w r e cur:=by
 rcases h.2 with ⟨rfl,_⟩|⟨g,cap,cur,rfl,_,hh,_⟩
 ·cases hr
 ·obtain rfl:=Option.some.inj hr
  exact ⟨cur,hh⟩
theorem blk_ne {w:World} {g g':Nat} {t t':TypeId} {cs cs':Array Value} (h:Blk w g t cs) (h':Blk w g' t' cs') (hne:t≠t'):g≠g':=fun e=>by
 subst e
 unfold Blk at h h'
 rw [h]at h'
 injection h' with h'
 injection h' with _ e2 _
 exact hne e2
theorem HS.picks {w w':World} {Bd g n cap base m:Nat} {F:Nat->Itm} {v:Value} {xs:List Value} (h:HS w Bd g n cap F) (ho:w.ownsRow base 78 2 v m xs) (hg:w.grownBy w' v.ownBlock):HS w' Bd g n cap F:=by
 obtain ⟨cur,h1,h2,h3⟩:=h.row
 have k1:some Bd≠v.ownBlock:=fun e=>by
  obtain ⟨c,hc⟩:=own_block ho Bd e.symm
  exact blk_ne h.box hc (by decide) rfl
 have k2:some g≠v.ownBlock:=fun e=>by
  obtain ⟨c,hc⟩:=own_block ho g e.symm
  exact blk_ne h1 hc (by decide) rfl
 exact ⟨h.box.grown hg k1,⟨cur,h1.grown hg k2,h2,h3⟩,h.ne,h.nc,h.cm⟩
theorem HS.alloc {w:World} {Bd g n cap:Nat} {F:Nat->Itm} (h:HS w Bd g n cap F) (o:Obj):HS (w.alloc o) Bd g n cap F:=by
 obtain ⟨cur,h1,h2,h3⟩:=h.row
 exact ⟨h.box.alloc o,⟨cur,h1.alloc o,h2,h3⟩,h.ne,h.nc,h.cm⟩
theorem own_heap {w w':World} {g base m:Nat} {v:Value} {xs:List Value} {cur:Array Value} (ho:w.ownsRow base 78 2 v m xs) (hb:Blk w g 169 cur) (hg:w.grownBy w' (some g)):w'.ownsRow base 78 2 v m xs:=by
 obtain ⟨h1,h2⟩:=ho
 refine ⟨h1,?_⟩
 rcases h2 with h2|⟨r,cap,cu,hv,hgb,hh,q⟩
 ·exact .inl h2
 ·have hlt:r<w.heap.size:=by
   rcases Nat.lt_or_ge r w.heap.size with hlt|hge
   ·exact hlt
   ·rw [Array.getElem?_eq_none hge]at hh;cases hh
  exact .inr ⟨r,cap,cu,hv,hgb,(hg.block r hlt (fun e=>blk_ne hb (show Blk w r 78 cu from hh) (by decide) (Option.some.inj e).symm)).trans hh,q⟩
theorem own_drewN {w:World} {base:Nat} {e:TypeId} {size n:Nat} {v:Value} {xs:List Value} (h:w.ownsRow base e size v n xs) (q:Nat):(w.drewN q).ownsRow base e size v n xs:=h
theorem HS.set_ {w:World} {Bd g n cap i:Nat} {F:Nat->Itm} (h:HS w Bd g n cap F) (hi:i<n) (v:Int):HS (w.setCell ⟨g,i*3+2,none⟩ (.int .i64 v)) Bd g n cap (fun k=>if k=i then ⟨(F i).kind,(F i).who,v⟩else F k):=by
 obtain ⟨cur,h1,h2,h3⟩:=h.row
 have hsz:=h3.size
 refine ⟨h.box.far (fun e=>h.ne e) _,⟨_,h1.set_ _ _,by simpa using h2,fun k hk=>?_⟩,h.ne,h.nc,h.cm⟩
 obtain ⟨a,b,c⟩:=h3 k hk
 dsimp only
 by_cases e:k=i
 ·subst e
  rw [if_pos rfl]
  refine ⟨?_,?_,?_⟩
  ·rw [Array.getElem?_setIfInBounds_ne (by omega)];exact a
  ·rw [Array.getElem?_setIfInBounds_ne (by omega)];exact b
  ·rw [Array.getElem?_setIfInBounds_self_of_lt (by omega)]
 ·rw [if_neg e]
  refine ⟨?_,?_,?_⟩
  ·rw [Array.getElem?_setIfInBounds_ne (by omega)];exact a
  ·rw [Array.getElem?_setIfInBounds_ne (by omega)];exact b
  ·rw [Array.getElem?_setIfInBounds_ne (by omega)];exact c
def EvenEnd (t w n len:Nat) (P:Nat->Pk) (W:World) (e:Ending) (w':World):Prop:=
 ∃(v:Value) (L:List Pk) (D:Du) (kk:Nat),e= .returned (.tuple #[v,.int .i64 0])/\L.length=n/\w'.ownsRow W.heap.size 78 2 v L.length (L.flatMap pkE)/\Play t w len P L D kk/\Below W.heap.size W w'
set_option maxRecDepth 100000 in
set_option maxHeartbeats 16000000 in
theorem even_yes (A:Option Addr) (len cap:Nat) (P:Nat->Pk) (t w n:Nat) (hl:len<=1000000) (ht1:1<=t) (ht8:t<=8) (hw:4*t<=w) (hw2:w<=9223372036854775807) (hn:n<=100000) (W:World) (hs:SlE W A len 2 (fun i=>pkE (P i))):
 Calls Tryz.prog 37 #[.slice A len cap,.int .i64 (t:Int),.int .i64 (w:Int),.int .i64 (n:Int)] W (EvenEnd t w n len P W):=by
 have HSL:=Lib.hid hs
 clear hs
 have hn0: ¬(n:Int)<0:=by omega
 have hn1: ¬(100000:Int)<(n:Int):=by omega
 obtain ⟨i0,hi,hy0,hy1,hy2⟩:=info_parts pk_info
 go_enter Tryz.func37,Tryz.ntmps37
 go_wp2_with (go_at_call 78;refine (right_yes _ _ _ (by omega) (by omega) (by omega)).mono ?_;rintro e w' ⟨rfl,rfl⟩)
 go_loopw [32] (fun v wr=> ∃r:Nat,r<=t/\v= .int .i64 (r:Int)/\EvA t w W wr r) (fun v _=>t-(intOf v).toNat)
 case atStart=>
  refine ⟨0,Nat.zero_le _,rfl,⟨⟨fun _=>default,W.heap.size,0,fun k h0 hk=>by omega,Its.none_ _ _,⟨?_,⟨#[],?_,rfl,fun i hi=>absurd hi (by omega)⟩,by omega,Nat.le_refl _,Nat.zero_le _⟩,Nat.le_refl _⟩,?_⟩⟩
  ·exact Blk.new2 W (.cells #[] 169) 166 #[.slice (some ⟨W.heap.size,0,none⟩) 0 0]
  ·exact (Blk.new W 169 #[]).alloc _
  ·exact ((Below.refl W.heap.size W).alloc (Nat.le_refl _) _).alloc (by simp) _
 case round=>
  obtain ⟨r,hr,rfl,hE⟩:=hrel
  by_cases hlt:r<t
  ·obtain ⟨⟨F0,g,cap0,hH,hI,hS,hg⟩,hB⟩:=hE
   have hlt':(r:Int)<(t:Int):=by omega
   have hr0:(0:Int)<=(r:Int):=by omega
   have hb1:2*(r:Int)<=16:=by omega
   have hb2:(0:Int)<=2*(r:Int):=by omega
   have hb3:(0:Int)<=(w:Int)-2*(r:Int):=by omega
   have hb4:(0:Int)<=(w:Int)-2*(r:Int)-1:=by omega
   have hb5:(w:Int)-2*(r:Int)<=9223372036854775807:=by omega
   have hP1:=hpush3 (W.heap.size+1) g (2*r) cap0 W.heap.size F0 0 (r:Int) ((w:Int)-2*(r:Int)) (by omega) wr hS hH hg
   have HX:=Lib.hid (And.intro hI hB)
   clear hH hI hS hB
   go_wp2_with fail
   refine hP1.mono ?_
   rintro e w1 ⟨⟨ve,rfl⟩,g1,cap1,G1,hsw1,hH1,hS1,hg1,hgg1,hk1⟩
   have hP2:=hpush3 (W.heap.size+1) g1 (2*r+1) cap1 W.heap.size G1 1 (r:Int) ((w:Int)-2*(r:Int)-1) (by omega) w1 hS1 hH1 hg1
   have HY:=Lib.hid (And.intro hsw1 (And.intro hgg1 hk1))
   clear hP1 hsw1 hH1 hS1 hgg1 hk1
   go_wp2_with fail
   refine hP2.mono ?_
   rintro e w2 ⟨⟨ve2,rfl⟩,g2,cap2,G2,hsw2,hH2,hS2,hg2,hgg2,hk2⟩
   obtain ⟨hsw1,hgg1,hk1⟩:=HY.out
   obtain ⟨hI,hB⟩:=HX.out
   have e1:(⟨0,(r:Int),(w:Int)-2*(r:Int)⟩:Itm)=⟨((0:Nat):Int),(r:Int),du0 w 0 r⟩:=by unfold du0;simp
   have e2:(⟨1,(r:Int),(w:Int)-2*(r:Int)-1⟩:Itm)=⟨((1:Nat):Int),(r:Int),du0 w 1 r⟩:=by unfold du0;simp
   rw [e1]at hsw1
   rw [e2]at hsw2
   have hI1:=(hI.push (S':=fun a b=>Full r a b∨(a=0/\b=r)) 0 r (fun h=>absurd h.2 (by omega)) (fun a b=>Iff.rfl)).swaps hsw1
   have hI2:=(hI1.push (S':=Full (r+1)) 1 r (fun h=>by unfold Full at h;omega) (fun a b=>by unfold Full;omega)).swaps hsw2
   have hB1:=Kp2.below hB hk1 (by omega) hg (Nat.le_refl _)
   have hB2:=Kp2.below hB1 hk2 (by omega) hg1 (Nat.le_refl _)
   have hE2:EvA t w W w2 (r+1):=⟨⟨G2,g2,cap2,hH2,hI2,hS2,hg2⟩,hB2⟩
   have HZ:=Lib.hid hE2
   clear hP2 hsw1 hgg1 hk1 hI hB e1 e2 hI1 hI2 hB1 hB2 hE2 hsw2 hH2 hS2 hgg2 hk2 HX HY
   go_wp2
   go_roundw
   case rel=>exact ⟨r+1,by omega,by go_num,HZ.out⟩
   case measure=>simp [intOf];omega
  ·obtain rfl:r=t:=by omega
   have hlt': ¬(r:Int)<(r:Int):=by omega
   have HE:=Lib.hid hE
   clear hE
   obtain ⟨N,hN⟩: ∃N,2*r=N:=⟨_,rfl⟩
   have HN:=Lib.hid hN
   have hN16:N<=16:=by omega
   have hNp:0<N:=by omega
   clear hN
   go_wp2
   go_loopw [12,13] (fun v kv wr=> ∃(L:List Pk) (D:Du) (kk m:Nat),m<=n/\L.length=m/\kv= .int .i64 (kk:Int)/\EvnB r w len P W wr L D kk v) (fun v _ _=>n-(lenOf v))
   case atStart=>
    obtain ⟨⟨F0,g,cap0,hH,hI,hS,hg⟩,hB⟩:=HE.out
    exact ⟨[],du0 w,0,0,Nat.zero_le _,rfl,rfl,⟨World.ownsRow_nil _ _ _ _,.nil,⟨F0,g,cap0,hH,hI,hS,hg⟩,hB⟩⟩
   case round=>
    clear HE
    obtain ⟨L,D,kk,m,hm,hLm,rfl,hE⟩:=hrel
    obtain ⟨wo,rfl⟩: ∃wo:World,wo=wr:=⟨_,rfl⟩
    obtain ⟨hrow,hplay,⟨F0,g,cap0,hH,hI,hS,hg⟩,hB⟩:=hE
    rw [HN.out]at hH hI hS
    rw [hLm]at hrow
    have hkl:=hplay.len
    have hkm:kk<=m:=by omega
    obtain ⟨vA,vc,rfl,hmc,_⟩:=own_sl hrow
    by_cases hlt2:m<n
    ·have hlt2':(m:Int)<(n:Int):=by omega
     obtain ⟨kd,wh,hfirst,hF0⟩:=hI.first hH hNp
     obtain ⟨dr,hdr⟩: ∃dr,D kd wh=dr:=⟨_,rfl⟩
     rw [hdr]at hF0
     obtain ⟨cur,hb1,hb2,hb3⟩:=hS.row
     obtain ⟨q0,q1,q2⟩:=hb3 0 hNp
     rw [hF0]at q0 q1 q2
     have c0:=(hb1.cell (0*3)).trans q0
     have c1:=(hb1.cell (0*3+1)).trans q1
     have c2:=(hb1.cell (0*3+2)).trans q2
     simp only [Nat.zero_mul,Nat.zero_add]at c0 c1 c2
     have cb:=hS.cell
     have hNp':(0:Int)<(N:Int):=by omega
     have hr16:2*(r:Int)<=16:=by omega
     have hr0':(0:Int)<=2*(r:Int):=by omega
     have hgl:=hb1.lt
     have hbl:=hS.box.lt
     have HX:=Lib.hid (And.intro hH (And.intro hI (And.intro hplay (And.intro hfirst (And.intro hdr (And.intro hLm hF0))))))
     clear hH hI hplay hfirst hdr hLm hF0 q0 q1 q2 hb1 hb2 hb3 hkl
     by_cases hdue:wrap64 (dr-(m:Int))<=2*(r:Int)
     ·obtain ⟨x1,hx1⟩: ∃x1:Int,(kd:Int)=x1:=⟨_,rfl⟩
      obtain ⟨x2,hx2⟩: ∃x2:Int,(wh:Int)=x2:=⟨_,rfl⟩
      rw [hx1]at c0
      rw [hx2]at c1
      have hpl:=Play.own HX.out.2.2.1 kd wh HX.out.2.2.2.1 (.inl (by rw [HX.out.2.2.2.2.1,HX.out.2.2.2.2.2.1];exact hdue))
      rw [hx1,hx2,HX.out.2.2.2.2.2.1]at hpl
      have HPL:=Lib.hid hpl
      clear hpl hx1 hx2
      have hS1:=hS.alloc (.cells #[.int .i64 x1,.int .i64 x2] 78)
      have own1:=hrow.alloc (.cells #[.int .i64 x1,.int .i64 x2] 78)
      have bX1:=Blk.new wo 78 #[.int .i64 x1,.int .i64 x2]
      have hS2:=hS1.alloc (.cells #[.int .i64 x1,.int .i64 x2] 78)
      have own2:=own1.alloc (.cells #[.int .i64 x1,.int .i64 x2] 78)
      have bX2:=bX1.alloc (.cells #[.int .i64 x1,.int .i64 x2] 78)
      have src:=sl_new (wo.alloc (.cells #[.int .i64 x1,.int .i64 x2] 78)) 78 [.int .i64 x1,.int .i64 x2]
      rw [World.size_alloc]at src
      have hB2:=(hB.alloc hB.size (.cells #[.int .i64 x1,.int .i64 x2] 78)).alloc (by have :=hB.size;simp;omega) (.cells #[.int .i64 x1,.int .i64 x2] 78)
      have hbs:=hB.size
      have hnx:some wo.heap.size≠(Value.slice vA m vc).ownBlock:=fun e=>by
       obtain ⟨c,hc⟩:=own_block hrow wo.heap.size e.symm
       exact absurd hc.lt (Nat.lt_irrefl _)
      clear hrow hS hS1 own1 bX1 hB
      go_wp2_with (at_builtin;go_must (refine wpList_append_sl _ rfl (.tmp 96) (.tmp 98) 37 rfl W.heap.size 78 i0 _ 2 16 Tryz.underlying37 hi hy0 hy1 hy2 rfl (by omega) _ m _ rfl own2 _ 1 _ (fun i=>[Value.int .i64 x1,.int .i64 x2].getD i undef) rfl src (fun i hi=>by rcases (by omega:i=0∨i=1)with rfl|rfl<;>rfl) (by unfold maxLen;omega) (by omega) (by simp;omega) ?_;intro v3 w3 own3 hg3 hv3;have hS3:=hS2.picks own2 hg3;have c3:=hS3.cell;clear src))
      rw [show (List.range (1*2)).map (fun i=>[Value.int .i64 x1,.int .i64 x2].getD i undef)=[Value.int .i64 x1,.int .i64 x2] from rfl]at own3
      obtain ⟨A3,cap3,rfl,_,_⟩:=own_sl own3
      have bX3:=bX2.grown hg3 hnx
      have hB3:=below_own hB2 own2 hg3 (Nat.le_refl _) (Nat.le_refl _)
      have x0:=bX3.cell 0
      have x1c:=bX3.cell 1
      simp only [List.getElem?_toArray,List.getElem?_cons_zero,List.getElem?_cons_succ]at x0 x1c
      have HS3:=Lib.hid (And.intro hS3 (And.intro own3 hB3))
      have hm1:(m:Int)+1<=100001:=by omega
      have hm0:(0:Int)<=(m:Int):=by omega
      clear c0 c1 c2 cb hS2 own2 bX2 hB2 hnx hg3 hv3 hS3 own3 bX3 hB3
      go_loopw [104] (fun iv wr=> ∃i q:Nat,i<=N/\iv= .int .i64 (i:Int)/\wr=w3.drewN q/\ ∀j,j<i-> ¬((F0 j).kind=x1/\(F0 j).who=x2)) (fun iv _=>N-(intOf iv).toNat)
      case atStart=>exact ⟨0,0,Nat.zero_le _,rfl,rfl,fun j hj=>absurd hj (by omega)⟩
      case round=>
       obtain ⟨i,q,hiN,rfl,rfl,hno⟩:=hrel
       have HNO:=Lib.hid hno
       clear hno
       by_cases hlt3:i<N
       ·have hlt3':(i:Int)<(N:Int):=by omega
        have hi0:(0:Int)<=(i:Int):=by omega
        obtain ⟨cur3,hb1,hb2,hb3⟩:=HS3.out.1.row
        obtain ⟨q0,q1,q2⟩:=hb3 i hlt3
        have d0:=(hb1.cell (i*3)).trans q0
        have d1:=(hb1.cell (i*3+1)).trans q1
        have d2:=(hb1.cell (i*3+2)).trans q2
        have f2:=hb1.frozen (i*3+2)
        obtain ⟨ia,hia⟩: ∃a,(F0 i).kind=a:=⟨_,rfl⟩
        obtain ⟨ib,hib⟩: ∃a,(F0 i).who=a:=⟨_,rfl⟩
        rw [hia]at d0
        rw [hib]at d1
        have HI:=Lib.hid (And.intro hia (And.intro hib hb1))
        clear q0 q1 q2 hb1 hb2 hb3 hia hib
        by_cases hx:ia=x1/\ib=x2
        ·obtain ⟨rfl,rfl⟩:=hx
         go_wp2
         go_quiet (fail)
         go_wp2_with fail
         refine (fix_any (W.heap.size+1) g N cap0 i (fun k=>if k=i then ⟨(F0 i).kind,(F0 i).who,wrap64 ((m:Int)+1+(w:Int))⟩else F0 k) hlt3 (by omega) _ (by first|exact (HS3.out.1.set_ hlt3 _).drewN _|exact (HS3.out.1.drewN _).set_ hlt3 _) (HX.out.1.but i _)).mono ?_
         rintro e w5 ⟨⟨ve,rfl⟩,G,hsw,hh,hs5,hg5⟩
         have hgr:w3.grownBy w5 (some g):=by
          first
           |exact grown_trans' (grown_drewN (set_only _) _) hg5
           |exact grown_trans' (grown_set (grown_drewN (World.grownBy.refl w3 _) _) _ _) hg5
         obtain ⟨hH,hI,hplay,hfirst,hdr,hLm,hF0⟩:=HX.out
         have hI5:=(hI.setd i hlt3 (wrap64 ((m:Int)+1+(w:Int)))).swaps hsw
         rw [HI.out.1,HI.out.2.1]at hI5
         have own5:=own_heap HS3.out.2.1 HI.out.2.2 hgr
         have hB5:=HS3.out.2.2.grown hgr HS3.out.2.2.size (fun k e=>by have :=Option.some.inj e;omega)
         have hpl:=HPL.out
         have hE5:EvnB r w len P W w5 (L++[(ia,ib)]) (updD D (ia,ib) (ndue m w)) kk (.slice A3 (m+1) cap3):=⟨by rw [List.length_append,hLm,List.flatMap_append];simpa [pkE]using own5,hpl,⟨G,g,cap0,by rw [HN.out];exact hh,by rw [HN.out];exact hI5,by rw [HN.out];exact hs5,hg⟩,hB5⟩
         have HE5:=Lib.hid (And.intro hLm hE5)
         clear hH hI hplay hfirst hdr hLm hF0 hI5 own5 hB5 hpl hE5 hsw hh hs5 hg5 hgr HX HPL HS3 HI HNO
         go_wp2
         go_roundw
         case rel=>exact ⟨L++[(ia,ib)],_,kk,m+1,by omega,by rw [List.length_append,HE5.out.1];rfl,by first|rfl|go_num,HE5.out.2⟩
         case measure=>simp [lenOf];omega
        ·have HH:=Lib.hid hx
         by_cases ha:ia=x1
         ·have hb:(ib==x2)=false:=by
           rw [beq_eq_false_iff_ne]
           exact fun e=>hx ⟨ha,e⟩
          have ha':(ia==x1)=true:=by simpa using ha
          clear hx ha
          go_wp2
          go_quiet (fail)
          go_wp2
          go_roundw
          case rel=>
           refine ⟨i+1,_,by omega,by go_num,rfl,fun j hj=>?_⟩
           rcases (by omega:j<i∨j=i)with h|rfl
           ·exact HNO.out j h
           ·rw [HI.out.1,HI.out.2.1];exact HH.out
          case measure=>simp [intOf];omega
         ·have ha':(ia==x1)=false:=by simpa using ha
          clear hx ha
          go_wp2
          go_quiet (fail)
          go_wp2
          go_roundw
          case rel=>
           refine ⟨i+1,_,by omega,by go_num,rfl,fun j hj=>?_⟩
           rcases (by omega:j<i∨j=i)with h|rfl
           ·exact HNO.out j h
           ·rw [HI.out.1,HI.out.2.1];exact HH.out
          case measure=>simp [intOf];omega
       ·obtain rfl:i=N:=by omega
        have hlt3': ¬(i:Int)<(i:Int):=by omega
        obtain ⟨hH,hI,hplay,hfirst,hdr,hLm,hF0⟩:=HX.out
        have hI5:=hI.setd_none (x1,x2) (ndue m w) (fun j hj e=>HNO.out j hj e)
        have hpl:=HPL.out
        have hB5:=HS3.out.2.2.grown (grown_drewN (World.grownBy.refl w3 none) q) HS3.out.2.2.size (fun k e=>by cases e)
        have hE5:EvnB r w len P W (w3.drewN q) (L++[(x1,x2)]) (updD D (x1,x2) (ndue m w)) kk (.slice A3 (m+1) cap3):=⟨by rw [List.length_append,hLm,List.flatMap_append];simpa [pkE]using own_drewN HS3.out.2.1 q,hpl,⟨F0,g,cap0,by rw [HN.out];exact hH,by rw [HN.out];exact hI5,by rw [HN.out];exact HS3.out.1.drewN q,hg⟩,hB5⟩
        have HE5:=Lib.hid (And.intro hLm hE5)
        clear hH hI hplay hfirst hdr hLm hF0 hI5 hB5 hpl hE5 HX HPL HS3 HNO
        go_wp2
        go_roundw
        case rel=>exact ⟨L++[(x1,x2)],_,kk,m+1,by omega,by rw [List.length_append,HE5.out.1];rfl,by first|rfl|go_num,HE5.out.2⟩
        case measure=>simp [lenOf];omega
     ·rcases Nat.eq_zero_or_pos len with h0|hlp
      ·have hl0:((len:Int)==0)=true:=by rw [h0];rfl
       obtain ⟨x1,hx1⟩: ∃x1:Int,(kd:Int)=x1:=⟨_,rfl⟩
       obtain ⟨x2,hx2⟩: ∃x2:Int,(wh:Int)=x2:=⟨_,rfl⟩
       rw [hx1]at c0
       rw [hx2]at c1
       have hpl:=Play.own HX.out.2.2.1 kd wh HX.out.2.2.2.1 (.inr h0)
       rw [hx1,hx2,HX.out.2.2.2.2.2.1]at hpl
       have HPL:=Lib.hid hpl
       clear hpl hx1 hx2 h0
       have hS1:=hS.alloc (.cells #[.int .i64 x1,.int .i64 x2] 78)
       have own1:=hrow.alloc (.cells #[.int .i64 x1,.int .i64 x2] 78)
       have bX1:=Blk.new wo 78 #[.int .i64 x1,.int .i64 x2]
       have hS2:=hS1.alloc (.cells #[.int .i64 x1,.int .i64 x2] 78)
       have own2:=own1.alloc (.cells #[.int .i64 x1,.int .i64 x2] 78)
       have bX2:=bX1.alloc (.cells #[.int .i64 x1,.int .i64 x2] 78)
       have src:=sl_new (wo.alloc (.cells #[.int .i64 x1,.int .i64 x2] 78)) 78 [.int .i64 x1,.int .i64 x2]
       rw [World.size_alloc]at src
       have hB2:=(hB.alloc hB.size (.cells #[.int .i64 x1,.int .i64 x2] 78)).alloc (by have :=hB.size;simp;omega) (.cells #[.int .i64 x1,.int .i64 x2] 78)
       have hbs:=hB.size
       have hnx:some wo.heap.size≠(Value.slice vA m vc).ownBlock:=fun e=>by
        obtain ⟨c,hc⟩:=own_block hrow wo.heap.size e.symm
        exact absurd hc.lt (Nat.lt_irrefl _)
       clear hrow hS hS1 own1 bX1 hB
       go_wp2_with (at_builtin;go_must (refine wpList_append_sl _ rfl (.tmp 96) (.tmp 98) 37 rfl W.heap.size 78 i0 _ 2 16 Tryz.underlying37 hi hy0 hy1 hy2 rfl (by omega) _ m _ rfl own2 _ 1 _ (fun i=>[Value.int .i64 x1,.int .i64 x2].getD i undef) rfl src (fun i hi=>by rcases (by omega:i=0∨i=1)with rfl|rfl<;>rfl) (by unfold maxLen;omega) (by omega) (by simp;omega) ?_;intro v3 w3 own3 hg3 hv3;have hS3:=hS2.picks own2 hg3;have c3:=hS3.cell;clear src))
       rw [show (List.range (1*2)).map (fun i=>[Value.int .i64 x1,.int .i64 x2].getD i undef)=[Value.int .i64 x1,.int .i64 x2] from rfl]at own3
       obtain ⟨A3,cap3,rfl,_,_⟩:=own_sl own3
       have bX3:=bX2.grown hg3 hnx
       have hB3:=below_own hB2 own2 hg3 (Nat.le_refl _) (Nat.le_refl _)
       have x0:=bX3.cell 0
       have x1c:=bX3.cell 1
       simp only [List.getElem?_toArray,List.getElem?_cons_zero,List.getElem?_cons_succ]at x0 x1c
       have HS3:=Lib.hid (And.intro hS3 (And.intro own3 hB3))
       have hm1:(m:Int)+1<=100001:=by omega
       have hm0:(0:Int)<=(m:Int):=by omega
       clear c0 c1 c2 cb hS2 own2 bX2 hB2 hnx hg3 hv3 hS3 own3 bX3 hB3
       go_loopw [104] (fun iv wr=> ∃i q:Nat,i<=N/\iv= .int .i64 (i:Int)/\wr=w3.drewN q/\ ∀j,j<i-> ¬((F0 j).kind=x1/\(F0 j).who=x2)) (fun iv _=>N-(intOf iv).toNat)
       case atStart=>exact ⟨0,0,Nat.zero_le _,rfl,rfl,fun j hj=>absurd hj (by omega)⟩
       case round=>
        obtain ⟨i,q,hiN,rfl,rfl,hno⟩:=hrel
        have HNO:=Lib.hid hno
        clear hno
        by_cases hlt3:i<N
        ·have hlt3':(i:Int)<(N:Int):=by omega
         have hi0:(0:Int)<=(i:Int):=by omega
         obtain ⟨cur3,hb1,hb2,hb3⟩:=HS3.out.1.row
         obtain ⟨q0,q1,q2⟩:=hb3 i hlt3
         have d0:=(hb1.cell (i*3)).trans q0
         have d1:=(hb1.cell (i*3+1)).trans q1
         have d2:=(hb1.cell (i*3+2)).trans q2
         have f2:=hb1.frozen (i*3+2)
         obtain ⟨ia,hia⟩: ∃a,(F0 i).kind=a:=⟨_,rfl⟩
         obtain ⟨ib,hib⟩: ∃a,(F0 i).who=a:=⟨_,rfl⟩
         rw [hia]at d0
         rw [hib]at d1
         have HI:=Lib.hid (And.intro hia (And.intro hib hb1))
         clear q0 q1 q2 hb1 hb2 hb3 hia hib
         by_cases hx:ia=x1/\ib=x2
         ·obtain ⟨rfl,rfl⟩:=hx
          go_wp2
          go_quiet (fail)
          go_wp2_with fail
          refine (fix_any (W.heap.size+1) g N cap0 i (fun k=>if k=i then ⟨(F0 i).kind,(F0 i).who,wrap64 ((m:Int)+1+(w:Int))⟩else F0 k) hlt3 (by omega) _ (by first|exact (HS3.out.1.set_ hlt3 _).drewN _|exact (HS3.out.1.drewN _).set_ hlt3 _) (HX.out.1.but i _)).mono ?_
          rintro e w5 ⟨⟨ve,rfl⟩,G,hsw,hh,hs5,hg5⟩
          have hgr:w3.grownBy w5 (some g):=by
           first
            |exact grown_trans' (grown_drewN (set_only _) _) hg5
            |exact grown_trans' (grown_set (grown_drewN (World.grownBy.refl w3 _) _) _ _) hg5
          obtain ⟨hH,hI,hplay,hfirst,hdr,hLm,hF0⟩:=HX.out
          have hI5:=(hI.setd i hlt3 (wrap64 ((m:Int)+1+(w:Int)))).swaps hsw
          rw [HI.out.1,HI.out.2.1]at hI5
          have own5:=own_heap HS3.out.2.1 HI.out.2.2 hgr
          have hB5:=HS3.out.2.2.grown hgr HS3.out.2.2.size (fun k e=>by have :=Option.some.inj e;omega)
          have hpl:=HPL.out
          have hE5:EvnB r w len P W w5 (L++[(ia,ib)]) (updD D (ia,ib) (ndue m w)) kk (.slice A3 (m+1) cap3):=⟨by rw [List.length_append,hLm,List.flatMap_append];simpa [pkE]using own5,hpl,⟨G,g,cap0,by rw [HN.out];exact hh,by rw [HN.out];exact hI5,by rw [HN.out];exact hs5,hg⟩,hB5⟩
          have HE5:=Lib.hid (And.intro hLm hE5)
          clear hH hI hplay hfirst hdr hLm hF0 hI5 own5 hB5 hpl hE5 hsw hh hs5 hg5 hgr HX HPL HS3 HI HNO
          go_wp2
          go_roundw
          case rel=>exact ⟨L++[(ia,ib)],_,kk,m+1,by omega,by rw [List.length_append,HE5.out.1];rfl,by first|rfl|go_num,HE5.out.2⟩
          case measure=>simp [lenOf];omega
         ·have HH:=Lib.hid hx
          by_cases ha:ia=x1
          ·have hb:(ib==x2)=false:=by
            rw [beq_eq_false_iff_ne]
            exact fun e=>hx ⟨ha,e⟩
           have ha':(ia==x1)=true:=by simpa using ha
           clear hx ha
           go_wp2
           go_quiet (fail)
           go_wp2
           go_roundw
           case rel=>
            refine ⟨i+1,_,by omega,by go_num,rfl,fun j hj=>?_⟩
            rcases (by omega:j<i∨j=i)with h|rfl
            ·exact HNO.out j h
            ·rw [HI.out.1,HI.out.2.1];exact HH.out
           case measure=>simp [intOf];omega
          ·have ha':(ia==x1)=false:=by simpa using ha
           clear hx ha
           go_wp2
           go_quiet (fail)
           go_wp2
           go_roundw
           case rel=>
            refine ⟨i+1,_,by omega,by go_num,rfl,fun j hj=>?_⟩
            rcases (by omega:j<i∨j=i)with h|rfl
            ·exact HNO.out j h
            ·rw [HI.out.1,HI.out.2.1];exact HH.out
           case measure=>simp [intOf];omega
        ·obtain rfl:i=N:=by omega
         have hlt3': ¬(i:Int)<(i:Int):=by omega
         obtain ⟨hH,hI,hplay,hfirst,hdr,hLm,hF0⟩:=HX.out
         have hI5:=hI.setd_none (x1,x2) (ndue m w) (fun j hj e=>HNO.out j hj e)
         have hpl:=HPL.out
         have hB5:=HS3.out.2.2.grown (grown_drewN (World.grownBy.refl w3 none) q) HS3.out.2.2.size (fun k e=>by cases e)
         have hE5:EvnB r w len P W (w3.drewN q) (L++[(x1,x2)]) (updD D (x1,x2) (ndue m w)) kk (.slice A3 (m+1) cap3):=⟨by rw [List.length_append,hLm,List.flatMap_append];simpa [pkE]using own_drewN HS3.out.2.1 q,hpl,⟨F0,g,cap0,by rw [HN.out];exact hH,by rw [HN.out];exact hI5,by rw [HN.out];exact HS3.out.1.drewN q,hg⟩,hB5⟩
         have HE5:=Lib.hid (And.intro hLm hE5)
         clear hH hI hplay hfirst hdr hLm hF0 hI5 hB5 hpl hE5 HX HPL HS3 HNO
         go_wp2
         go_roundw
         case rel=>exact ⟨L++[(x1,x2)],_,kk,m+1,by omega,by rw [List.length_append,HE5.out.1];rfl,by first|rfl|go_num,HE5.out.2⟩
         case measure=>simp [lenOf];omega
      ·have hl0:((len:Int)==0)=false:=by simp;omega
       obtain ⟨qi,hqi⟩: ∃q,kk % len=q:=⟨_,rfl⟩
       have hql:qi<len:=by rw [<-hqi];exact Nat.mod_lt _ hlp
       have hqe:(kk:Int)% (len:Int)=(qi:Int):=by omega
       have hlp':(0:Int)<(len:Int):=by omega
       have hql':(qi:Int)<(len:Int):=by omega
       have hq0:(0:Int)<=(qi:Int):=by omega
       have hk0:(0:Int)<=(kk:Int):=by omega
       obtain ⟨ba,oa,rfl,hba,hca⟩:=HSL.out hlp
       have p0:=keepAt hB hba (hca qi hql 0 _ rfl)
       have p1:=keepAt hB hba (hca qi hql 1 _ rfl)
       rw [Nat.add_zero]at p0
       obtain ⟨x1,hx1⟩: ∃x1:Int,(P qi).1=x1:=⟨_,rfl⟩
       obtain ⟨x2,hx2⟩: ∃x2:Int,(P qi).2=x2:=⟨_,rfl⟩
       rw [hx1]at p0
       rw [hx2]at p1
       have hpl:=Play.wish HX.out.2.2.1 kd wh HX.out.2.2.2.1 (by rw [HX.out.2.2.2.2.1,HX.out.2.2.2.2.2.1];exact hdue) hlp
       rw [hqi,show P qi=(x1,x2) from by rw [<-hx1,<-hx2],HX.out.2.2.2.2.2.1]at hpl
       have HPL:=Lib.hid hpl
       have hbaw:=Nat.lt_of_lt_of_le hba hB.size
       clear hpl hx1 hx2 hca hqi
       have hS1:=hS.alloc (.cells #[.int .i64 x1,.int .i64 x2] 78)
       have own1:=hrow.alloc (.cells #[.int .i64 x1,.int .i64 x2] 78)
       have bX1:=Blk.new wo 78 #[.int .i64 x1,.int .i64 x2]
       have hS2:=hS1.alloc (.cells #[.int .i64 x1,.int .i64 x2] 78)
       have own2:=own1.alloc (.cells #[.int .i64 x1,.int .i64 x2] 78)
       have bX2:=bX1.alloc (.cells #[.int .i64 x1,.int .i64 x2] 78)
       have src:=sl_new (wo.alloc (.cells #[.int .i64 x1,.int .i64 x2] 78)) 78 [.int .i64 x1,.int .i64 x2]
       rw [World.size_alloc]at src
       have hB2:=(hB.alloc hB.size (.cells #[.int .i64 x1,.int .i64 x2] 78)).alloc (by have :=hB.size;simp;omega) (.cells #[.int .i64 x1,.int .i64 x2] 78)
       have hbs:=hB.size
       have hnx:some wo.heap.size≠(Value.slice vA m vc).ownBlock:=fun e=>by
        obtain ⟨c,hc⟩:=own_block hrow wo.heap.size e.symm
        exact absurd hc.lt (Nat.lt_irrefl _)
       clear hrow hS hS1 own1 bX1 hB
       go_wp2_with (at_builtin;go_must (refine wpList_append_sl _ rfl (.tmp 96) (.tmp 98) 37 rfl W.heap.size 78 i0 _ 2 16 Tryz.underlying37 hi hy0 hy1 hy2 rfl (by omega) _ m _ rfl own2 _ 1 _ (fun i=>[Value.int .i64 x1,.int .i64 x2].getD i undef) rfl src (fun i hi=>by rcases (by omega:i=0∨i=1)with rfl|rfl<;>rfl) (by unfold maxLen;omega) (by omega) (by simp;omega) ?_;intro v3 w3 own3 hg3 hv3;have hS3:=hS2.picks own2 hg3;have c3:=hS3.cell;clear src))
       rw [show (List.range (1*2)).map (fun i=>[Value.int .i64 x1,.int .i64 x2].getD i undef)=[Value.int .i64 x1,.int .i64 x2] from rfl]at own3
       obtain ⟨A3,cap3,rfl,_,_⟩:=own_sl own3
       have bX3:=bX2.grown hg3 hnx
       have hB3:=below_own hB2 own2 hg3 (Nat.le_refl _) (Nat.le_refl _)
       have x0:=bX3.cell 0
       have x1c:=bX3.cell 1
       simp only [List.getElem?_toArray,List.getElem?_cons_zero,List.getElem?_cons_succ]at x0 x1c
       have HS3:=Lib.hid (And.intro hS3 (And.intro own3 hB3))
       have hm1:(m:Int)+1<=100001:=by omega
       have hm0:(0:Int)<=(m:Int):=by omega
       clear c0 c1 c2 cb hS2 own2 bX2 hB2 hnx hg3 hv3 hS3 own3 bX3 hB3
       go_loopw [104] (fun iv wr=> ∃i q:Nat,i<=N/\iv= .int .i64 (i:Int)/\wr=w3.drewN q/\ ∀j,j<i-> ¬((F0 j).kind=x1/\(F0 j).who=x2)) (fun iv _=>N-(intOf iv).toNat)
       case atStart=>exact ⟨0,0,Nat.zero_le _,rfl,rfl,fun j hj=>absurd hj (by omega)⟩
       case round=>
        obtain ⟨i,q,hiN,rfl,rfl,hno⟩:=hrel
        have HNO:=Lib.hid hno
        clear hno
        by_cases hlt3:i<N
        ·have hlt3':(i:Int)<(N:Int):=by omega
         have hi0:(0:Int)<=(i:Int):=by omega
         obtain ⟨cur3,hb1,hb2,hb3⟩:=HS3.out.1.row
         obtain ⟨q0,q1,q2⟩:=hb3 i hlt3
         have d0:=(hb1.cell (i*3)).trans q0
         have d1:=(hb1.cell (i*3+1)).trans q1
         have d2:=(hb1.cell (i*3+2)).trans q2
         have f2:=hb1.frozen (i*3+2)
         obtain ⟨ia,hia⟩: ∃a,(F0 i).kind=a:=⟨_,rfl⟩
         obtain ⟨ib,hib⟩: ∃a,(F0 i).who=a:=⟨_,rfl⟩
         rw [hia]at d0
         rw [hib]at d1
         have HI:=Lib.hid (And.intro hia (And.intro hib hb1))
         clear q0 q1 q2 hb1 hb2 hb3 hia hib
         by_cases hx:ia=x1/\ib=x2
         ·obtain ⟨rfl,rfl⟩:=hx
          go_wp2
          go_quiet (fail)
          go_wp2_with fail
          refine (fix_any (W.heap.size+1) g N cap0 i (fun k=>if k=i then ⟨(F0 i).kind,(F0 i).who,wrap64 ((m:Int)+1+(w:Int))⟩else F0 k) hlt3 (by omega) _ (by first|exact (HS3.out.1.set_ hlt3 _).drewN _|exact (HS3.out.1.drewN _).set_ hlt3 _) (HX.out.1.but i _)).mono ?_
          rintro e w5 ⟨⟨ve,rfl⟩,G,hsw,hh,hs5,hg5⟩
          have hgr:w3.grownBy w5 (some g):=by
           first
            |exact grown_trans' (grown_drewN (set_only _) _) hg5
            |exact grown_trans' (grown_set (grown_drewN (World.grownBy.refl w3 _) _) _ _) hg5
          obtain ⟨hH,hI,hplay,hfirst,hdr,hLm,hF0⟩:=HX.out
          have hI5:=(hI.setd i hlt3 (wrap64 ((m:Int)+1+(w:Int)))).swaps hsw
          rw [HI.out.1,HI.out.2.1]at hI5
          have own5:=own_heap HS3.out.2.1 HI.out.2.2 hgr
          have hB5:=HS3.out.2.2.grown hgr HS3.out.2.2.size (fun k e=>by have :=Option.some.inj e;omega)
          have hpl:=HPL.out
          have hE5:EvnB r w len P W w5 (L++[(ia,ib)]) (updD D (ia,ib) (ndue m w)) (kk+1) (.slice A3 (m+1) cap3):=⟨by rw [List.length_append,hLm,List.flatMap_append];simpa [pkE]using own5,hpl,⟨G,g,cap0,by rw [HN.out];exact hh,by rw [HN.out];exact hI5,by rw [HN.out];exact hs5,hg⟩,hB5⟩
          have HE5:=Lib.hid (And.intro hLm hE5)
          clear hH hI hplay hfirst hdr hLm hF0 hI5 own5 hB5 hpl hE5 hsw hh hs5 hg5 hgr HX HPL HS3 HI HNO
          go_wp2
          go_roundw
          case rel=>exact ⟨L++[(ia,ib)],_,(kk+1),m+1,by omega,by rw [List.length_append,HE5.out.1];rfl,by first|rfl|go_num,HE5.out.2⟩
          case measure=>simp [lenOf];omega
         ·have HH:=Lib.hid hx
          by_cases ha:ia=x1
          ·have hb:(ib==x2)=false:=by
            rw [beq_eq_false_iff_ne]
            exact fun e=>hx ⟨ha,e⟩
           have ha':(ia==x1)=true:=by simpa using ha
           clear hx ha
           go_wp2
           go_quiet (fail)
           go_wp2
           go_roundw
           case rel=>
            refine ⟨i+1,_,by omega,by go_num,rfl,fun j hj=>?_⟩
            rcases (by omega:j<i∨j=i)with h|rfl
            ·exact HNO.out j h
            ·rw [HI.out.1,HI.out.2.1];exact HH.out
           case measure=>simp [intOf];omega
          ·have ha':(ia==x1)=false:=by simpa using ha
           clear hx ha
           go_wp2
           go_quiet (fail)
           go_wp2
           go_roundw
           case rel=>
            refine ⟨i+1,_,by omega,by go_num,rfl,fun j hj=>?_⟩
            rcases (by omega:j<i∨j=i)with h|rfl
            ·exact HNO.out j h
            ·rw [HI.out.1,HI.out.2.1];exact HH.out
           case measure=>simp [intOf];omega
        ·obtain rfl:i=N:=by omega
         have hlt3': ¬(i:Int)<(i:Int):=by omega
         obtain ⟨hH,hI,hplay,hfirst,hdr,hLm,hF0⟩:=HX.out
         have hI5:=hI.setd_none (x1,x2) (ndue m w) (fun j hj e=>HNO.out j hj e)
         have hpl:=HPL.out
         have hB5:=HS3.out.2.2.grown (grown_drewN (World.grownBy.refl w3 none) q) HS3.out.2.2.size (fun k e=>by cases e)
         have hE5:EvnB r w len P W (w3.drewN q) (L++[(x1,x2)]) (updD D (x1,x2) (ndue m w)) (kk+1) (.slice A3 (m+1) cap3):=⟨by rw [List.length_append,hLm,List.flatMap_append];simpa [pkE]using own_drewN HS3.out.2.1 q,hpl,⟨F0,g,cap0,by rw [HN.out];exact hH,by rw [HN.out];exact hI5,by rw [HN.out];exact HS3.out.1.drewN q,hg⟩,hB5⟩
         have HE5:=Lib.hid (And.intro hLm hE5)
         clear hH hI hplay hfirst hdr hLm hF0 hI5 hB5 hpl hE5 HX HPL HS3 HNO
         go_wp2
         go_roundw
         case rel=>exact ⟨L++[(x1,x2)],_,(kk+1),m+1,by omega,by rw [List.length_append,HE5.out.1];rfl,by first|rfl|go_num,HE5.out.2⟩
         case measure=>simp [lenOf];omega
    ·obtain rfl:m=n:=by omega
     have hlt2': ¬(m:Int)<(m:Int):=by omega
     have HZ:=Lib.hid (And.intro hplay (And.intro hLm (And.intro hrow hB)))
     clear hplay hLm hrow hB hkl hH hI hS
     go_wp2
     go_ret2
     obtain ⟨a1,a2,a3,a4⟩:=HZ.out
     exact ⟨_,L,D,kk,rfl,a2,by rw [a2];exact a3,a1,a4⟩
end Go.Proofs.YtmhfpjnkjlhbpaaGreatDoor
