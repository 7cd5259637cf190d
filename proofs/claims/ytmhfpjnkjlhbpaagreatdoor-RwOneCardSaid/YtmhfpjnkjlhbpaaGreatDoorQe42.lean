/- Machines of threads (plain): what serves the laws. rw (plain): what law22's programs start from. The contract of pick.Read: the picks of bytes, in new memory. -/
import Derived.Test.YtmhfpjnkjlhbpaaGreatDoorQe24
import Derived.Test.YtmhfpjnkjlhbpaaGreatDoorQe32
import Derived.Test.YtmhfpjnkjlhbpaaGreatDoorQe41
import Derived.Test.YtmhfpjnkjlhbpaaGreatDoorQe01
namespace Go.Proofs.YtmhfpjnkjlhbpaaGreatDoor
open Go.ChangeShapes Go.WideShapes Go.ChangeAt Go.RowKit Go.Deep
set_option linter.unusedVariables false
set_option maxRecDepth 100000
set_option linter.unusedSimpArgs false
theorem tRun_mem {B:MB}: ∀(l:List (Int×Int)) (s:Mst),(tRun B s l).mem.length=s.mem.length
 |[],s=>rfl
 |x::l,s=>(tRun_mem l (tPick B s x)).trans (tPick_mem x)
theorem doneM_at {s:Mst} (h:doneM s=true) {t:Nat} (ht:t<s.ths.length):doneT s t=true:=List.all_eq_true.1 h t (List.mem_range.2 ht)
theorem doneT_two {s:Mst} {t:Nat} (h:doneT s t=true) (hs:(thM s t).st=0∨(thM s t).st=1∨(thM s t).st=2):(thM s t).st=2/\bufM s t=[]:=by
 unfold doneT at h
 simp only [Bool.and_eq_true,bne_iff_ne,ne_eq,beq_iff_eq]at h
 obtain ⟨⟨h1,h2⟩,h3⟩:=h
 exact ⟨(hs.resolve_left h1).resolve_left h2,List.eq_nil_of_length_eq_zero h3⟩
theorem mem_val {l:List Int} {i:Nat} (h:i<l.length):(l.map fun z=>Value.int .u32 z).getD i undef= .int .u32 (l.getD i 0):=by
 rw [List.getD_eq_getElem?_getD,List.getD_eq_getElem?_getD,List.getElem?_map,List.getElem?_eq_getElem h];rfl
theorem mem_cells {W:World} {base:Nat} {v:Value} {l:List Int} {n:Nat} (h:W.ownsRow base 42 1 v l.length (l.map fun z=> .int .u32 z)) (hn:l.length=n) (hp:0<n): ∃b o c,v= .slice (some ⟨b,o,none⟩) n c/\b<W.heap.size/\ ∀i,i<n->W.cell? ⟨b,o+i,none⟩=some (.int .u32 (l.getD i 0)):=by
 obtain ⟨A,c,rfl,_,hs⟩:=own_sl h
 obtain ⟨b,o,rfl,hl,hx⟩:=hs (by omega)
 exact ⟨b,o,c,by rw [hn],hl,fun i hi=>(hx i (by omega)).trans (congrArg some (mem_val (by omega)))⟩
theorem RwR.nt {nt:Nat} {kd:Nat->Nat->Bool} {rd:Nat->Nat} {bs:Nat->Nat->Nat} {B:MB} {s:Mst} {m:Nat} {h:Int×Int} (hR:RwR nt kd rd bs B s m h):s.mem.length=B.m:=hR.1.m
end Go.Proofs.YtmhfpjnkjlhbpaaGreatDoor
namespace Go.Proofs.YtmhfpjnkjlhbpaaGreatDoor
open Go.RowKit
set_option linter.unusedVariables false
set_option maxRecDepth 100000
theorem pick_info:(Tryz.prog.info? 78).map (fun i=>(i.zero,i.size,i.bytes))=some (some (.agg #[.int .i64 0,.int .i64 0]),2,16):=by kernel_rfl
theorem run_make_rowN {P:Program} (t e:TypeId) (i:TypeInfo) (z:Value) (ht:P.underlying t=some (.slice e)) (hi:P.info? e=some i) (hz:i.zero=some z)
 (kl kc:IntKind) (n c:Nat) (hnc:n<=c) (hbytes:i.bytes*c<=281474976710656) (h63:c<=9223372036854775807) (w:World):
 (Instr.makeSlice t (.int kl (n:Int)) (.int kc (c:Int))).run P w= .ok (.slice (some ⟨w.heap.size,0,none⟩) n c) (w.alloc (.cells (madeCells z.cells (c*i.size)) e)):=by
 have hb:(i.bytes:Int)*(c:Int)<=281474976710656:=by
  have h:((i.bytes*c:Nat):Int)<=281474976710656:=by omega
  rwa [Int.natCast_mul]at h
 have hr:=run_make (P:=P) w t e i z ht hi hz kl kc n c (by omega) (by omega) hb (by omega)
 simp only [Int.toNat_natCast]at hr
 exact hr
theorem run_make_picks (n:Nat) (hn:n<=1000000): ∀w:World,(Instr.makeSlice 37 (.int .i64 (n:Int)) (.int .i64 (n:Int))).run Tryz.prog w=
 .ok (.slice (some ⟨w.heap.size,0,none⟩) n n) (w.alloc (.cells (madeCells #[.int .i64 0,.int .i64 0] (n*2)) 78)):=fun w=>by
 obtain ⟨i,hi,hz,hs,hb⟩:=info_parts pick_info
 have :=run_make_rowN (P:=Tryz.prog) 37 78 i _ Tryz.underlying37 hi hz .i64 .i64 n n (Nat.le_refl _) (by rw [hb];omega) (by omega) w
 rw [hs]at this
 exact this
set_option maxHeartbeats 400000 in
theorem pickRead_any (A:Option Addr) (len cap:Nat) (Z:Nat->Int) (w:World) (hl:len<=100000) (hsl:Sl w A len (fun i=> .int .u8 (Z i))) (hz: ∀i,i<len->0<=Z i/\Z i<=255):
 Calls Tryz.prog 18 #[.slice A len cap] w fun e w'=> ∃cs:Array Value,e= .returned (.slice (some ⟨w.heap.size,0,none⟩) len len)/\Blk w' w.heap.size 78 cs/\cs.size=len*2/\
  (∀i,i<len->cs[i*2]?=some (.int .i64 (Z i/8 % 3))/\cs[i*2+1]?=some (.int .i64 (Z i % 8)))/\Below w.heap.size w w':=by
 have hmk:=run_make_picks len (by omega)
 go_enter Tryz.func18,Tryz.ntmps18
 go_wp2
 clear hmk
 go_loopw [11] (fun v wr=> ∃k:Nat,k<=len/\v= .int .i64 k/\ ∃cs:Array Value,Blk wr w.heap.size 78 cs/\cs.size=len*2/\(∀i,i<k->cs[i*2]?=some (.int .i64 (Z i/8 % 3))/\cs[i*2+1]?=some (.int .i64 (Z i % 8)))/\Below w.heap.size w wr)
  (fun v _=>len-(intOf v).toNat)
 case atStart=>
  exact ⟨0,Nat.zero_le _,rfl,_,Blk.new _ _ _,by simp [size_madeCells],fun i hi=>absurd hi (by omega),(Below.refl _ _).alloc (Nat.le_refl _) _⟩
 case round=>
  obtain ⟨k,hk,rfl,cs,hblk,hcs,hdone,hB⟩:=hrel
  by_cases hlt:k<len
  ·obtain ⟨b,off,rfl,hbW,hcW⟩:=(hsl.below (Nat.le_refl _) hB) (by omega)
   have hc0:=hcW k hlt
   have hz0:=hz k hlt
   have hblk1: ∀{w1:World},Below wr.heap.size wr w1->Blk w1 w.heap.size 78 cs:=fun hb=>hblk.below hb hblk.lt
   have hlg:=hblk.lt
   have hx0: ∃v0,cs[k*2]?=some v0:=⟨_,Array.getElem?_eq_getElem (by omega)⟩
   have hx1: ∃v1,cs[k*2+1]?=some v1:=⟨_,Array.getElem?_eq_getElem (by omega)⟩
   obtain ⟨v0,hv0⟩:=hx0
   obtain ⟨v1,hv1⟩:=hx1
   have HS:=Lib.hid hcs
   clear hcs hcW hsl
   go_wp2_with (first|(go_at_call 46;refine (of_any _ hz0.1 hz0.2 _).mono ?_;rintro e w1 ⟨rfl,hb1⟩;have q:=hblk1 hb1;have q0:=(q.cell (k*2)).trans hv0;have q1:=(q.cell (k*2+1)).trans hv1;have f0:=q.frozen (k*2);have f1:=q.frozen (k*2+1)))
   go_roundw
   case rel=>
    refine ⟨k+1,by omega,by go_num,_,(q.set_ (k*2) _).set_ (k*2+1) _,by simp [HS.out],fun i hi=>?_,?_⟩
    ·by_cases hik:i=k
     ·subst hik
      have :=HS.out
      constructor
      ·rw [Array.getElem?_setIfInBounds_ne (by omega),Array.getElem?_setIfInBounds_self_of_lt (by omega)]
      ·rw [Array.getElem?_setIfInBounds_self_of_lt (by simp;omega)]
     ·have :=hdone i (by omega)
      rw [Array.getElem?_setIfInBounds_ne (by omega),Array.getElem?_setIfInBounds_ne (by omega),Array.getElem?_setIfInBounds_ne (by omega),Array.getElem?_setIfInBounds_ne (by omega)]
      exact this
    ·exact ((step_below hB hb1).setCell (Nat.le_refl _) _).setCell (Nat.le_refl _) _
   case measure=>simp [intOf];omega
  ·obtain rfl:k=len:=by omega
   go_wp2
   go_ret
   exact ⟨cs,rfl,hblk,hcs,hdone,hB⟩
end Go.Proofs.YtmhfpjnkjlhbpaaGreatDoor
