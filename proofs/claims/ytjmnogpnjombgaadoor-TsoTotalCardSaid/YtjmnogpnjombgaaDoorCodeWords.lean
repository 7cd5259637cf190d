/- The contracts of the reader's words and code: rows that they own, told by the reader's state. -/
import Derived.Test.YtjmnogpnjombgaaDoorCodeInstr
import Derived.Test.YtjmnogpnjombgaaDoorGrow
namespace Go.Proofs.YtjmnogpnjombgaaDoor
open Go.ChangeShapes Go.WideShapes Go.ChangeAt Go.RowKit Go.Deep
set_option linter.unusedVariables false
set_option maxRecDepth 100000
set_option linter.unusedSimpArgs false

theorem u32_info : (Tryd.prog.info? 22).map (fun i => (i.zero, i.size, i.bytes)) = some (some (.int .u32 0), 1, 4) := by kernel_rfl
theorem instr_info : (Tryd.prog.info? 54).map (fun i => (i.zero, i.size, i.bytes)) = some (some (.agg #[.int .i64 0, .int .i64 0, .int .i64 0, .int .i64 0, .int .u32 0]), 5, 40) := by kernel_rfl

/-- So many words from a state on, and the state behind them. -/
def wl (Z : Nat → Int) (len : Nat) : Nat → Nat × Bool → List Int
  | 0, _ => []
  | k + 1, s => if s.2 = true then [] else rval Z len 4 s :: wl Z len k (rstep Z len 4 s)
def ws (Z : Nat → Int) (len : Nat) : Nat → Nat × Bool → Nat × Bool
  | 0, s => s
  | k + 1, s => if s.2 = true then s else ws Z len k (rstep Z len 4 s)
def wordsL (Z : Nat → Int) (len : Nat) (s : Nat × Bool) : List Int := wl Z len (rval Z len 2 s).toNat (rstep Z len 2 s)
def wordsS (Z : Nat → Int) (len : Nat) (s : Nat × Bool) : Nat × Bool := ws Z len (rval Z len 2 s).toNat (rstep Z len 2 s)
/-- The same for instructions. -/
def insOf (Z : Nat → Int) (len : Nat) (s : Nat × Bool) : Ins :=
  ⟨rval Z len 1 s, rval Z len 1 (rstep Z len 1 s), rval Z len 1 (rstep Z len 1 (rstep Z len 1 s)), rval Z len 1 (rstep Z len 1 (rstep Z len 1 (rstep Z len 1 s))), rval Z len 4 (rstep Z len 1 (rstep Z len 1 (rstep Z len 1 (rstep Z len 1 s))))⟩
def il (Z : Nat → Int) (len : Nat) : Nat → Nat × Bool → List Ins
  | 0, _ => []
  | k + 1, s => if s.2 = true then [] else insOf Z len s :: il Z len k (rinstrS Z len s)
def is_ (Z : Nat → Int) (len : Nat) : Nat → Nat × Bool → Nat × Bool
  | 0, s => s
  | k + 1, s => if s.2 = true then s else is_ Z len k (rinstrS Z len s)
def codeL (Z : Nat → Int) (len : Nat) (s : Nat × Bool) : List Ins := il Z len (rval Z len 2 s).toNat (rstep Z len 2 s)
def codeS (Z : Nat → Int) (len : Nat) (s : Nat × Bool) : Nat × Bool := is_ Z len (rval Z len 2 s).toNat (rstep Z len 2 s)

theorem rval_lt {Z : Nat → Int} {len size : Nat} {s : Nat × Bool} (hz : ∀ i, i < len → 0 ≤ Z i ∧ Z i ≤ 255) : 0 ≤ rval Z len size s ∧ rval Z len size s < 256 ^ size := by
  unfold rval rnum
  split
  · exact ⟨Int.le_refl _, Int.pow_pos (by decide)⟩
  · rename_i h
    exact numAt_lt Z size s.1 (fun i hi => hz i (by omega))

section
variable {w w' : World} {base : Nat} {e : TypeId} {size n : Nat} {v : Value} {xs : List Value}
end
theorem RS.grow_own {w w' : World} {r : Nat} {A : Option Addr} {len cap : Nat} {Z : Nat → Int} {s : Nat × Bool} {base : Nat} {e : TypeId} {size n : Nat} {v : Value} {xs : List Value} (h : RS w r A len cap Z s)
    (ho : w.ownsRow base e size v n xs) (hg : w.grownBy w' v.ownBlock) (hr : r < base) (hA : 0 < len → ∀ b off, A = some ⟨b, off, none⟩ → b < base) : RS w' r A len cap Z s :=
  h.other hg (fun e => by have := own_ge ho r e; omega) (fun hn b off hb e => by have := own_ge ho b e; have := hA hn b off hb; omega)
theorem RS.base {w : World} {r : Nat} {A : Option Addr} {len cap : Nat} {Z : Nat → Int} {s : Nat × Bool} (h : RS w r A len cap Z s) : 0 < len → ∀ b off, A = some ⟨b, off, none⟩ → b < w.heap.size := by
  intro hn b off hb
  obtain ⟨b', off', rfl, hlt, _⟩ := h.sl hn
  obtain ⟨rfl, _⟩ := (by simpa using hb : b' = b ∧ off' = off)
  exact hlt

set_option maxHeartbeats 1000000 in
theorem words_rs (r : Nat) (A : Option Addr) (len cap : Nat) (s : Nat × Bool) (Z : Nat → Int) (w : World) (h : RS w r A len cap Z s) :
    Calls Tryd.prog 97 #[.pointer (some ⟨r, 0, none⟩)] w fun e w' => ∃ v, e = .returned v ∧ w'.ownsRow w.heap.size 22 1 v (wordsL Z len s).length ((wordsL Z len s).map (Value.int .u32)) ∧
      RS w' r A len cap Z (wordsS Z len s) ∧ w.grownBy w' (some r) := by
  have hrl : r < w.heap.size := Blk.lt h.rd
  have hAb := Lib.hid h.base
  have hN := rval_lt (size := 2) (s := s) h.z
  obtain ⟨i0, hi, hz0, hz1, hz2⟩ := info_parts u32_info
  have c0 := small2_rs h
  unfold wordsL wordsS
  obtain ⟨s1, hs1⟩ : ∃ s1, rstep Z len 2 s = s1 := ⟨_, rfl⟩
  obtain ⟨N, hNe⟩ : ∃ N : Nat, rval Z len 2 s = N := ⟨(rval Z len 2 s).toNat, by omega⟩
  rw [hs1, hNe] at c0
  rw [hs1, hNe, Int.toNat_natCast]
  rw [hNe] at hN
  have hN2 : N ≤ 65535 := by omega
  clear hs1 hNe hN h
  go_enter Tryd.func97, Tryd.ntmps97
  go_wp2_with fail
  refine c0.mono ?_
  rintro e w1 ⟨rfl, h1, hg1⟩
  clear c0
  go_wp2_with fail
  go_loopw [3, 4] (fun out v wr => ∃ (k : Nat) (s' : Nat × Bool) (L : List Int), v = .int .i64 k ∧ L.length + k ≤ N ∧ wr.ownsRow w.heap.size 22 1 out L.length (L.map (Value.int .u32)) ∧ RS wr r A len cap Z s' ∧ w.grownBy wr (some r) ∧
    L ++ wl Z len k s' = wl Z len N s1 ∧ ws Z len k s' = ws Z len N s1) (fun _ v _ => (intOf v).toNat)
  case atStart => exact ⟨N, s1, [], rfl, by simp, ⟨rfl, .inl ⟨rfl, rfl⟩⟩, h1, hg1, rfl, rfl⟩
  case round =>
    clear h1 hg1
    obtain ⟨k, ⟨sa, sb⟩, L, rfl, hk, hown, hrs, hgr, hL, hS⟩ := hrel
    have c2 := Blk.cell hrs.rd 2
    simp only [List.getElem?_toArray, List.getElem?_cons_zero, List.getElem?_cons_succ] at c2
    rcases k with _ | k
    · have hk0 : ¬ (0 : Int) < ((0 : Nat) : Int) := by omega
      have HL := Lib.hid (And.intro hL hS)
      clear hL hS
      go_wp2_with fail
      go_ret
      refine ⟨_, rfl, ?_, ?_, hgr⟩
      · rw [← HL.out.1]; simpa [wl] using hown
      · rw [← HL.out.2]; exact hrs
    · have hk0 : (0 : Int) < ((k + 1 : Nat) : Int) := by omega
      cases sb
      · have c4 := num4_rs hrs
        simp only [wl, ws, Bool.false_eq_true, if_false] at hL hS
        have hv := rval_lt (size := 4) (s := (sa, false)) hrs.z
        obtain ⟨z, hz⟩ : ∃ z, rval Z len 4 (sa, false) = z := ⟨_, rfl⟩
        obtain ⟨s2, hs2⟩ : ∃ s2, rstep Z len 4 (sa, false) = s2 := ⟨_, rfl⟩
        rw [hz, hs2] at c4 hL
        rw [hs2] at hS
        rw [hz] at hv
        have HL := Lib.hid (And.intro hL hS)
        clear hL hS hz hs2 hrs
        go_wp2_with fail
        refine c4.mono ?_
        rintro e w3 ⟨rfl, h3, hg3⟩
        have hown3 := own_grown hown hg3 hrl
        have hgr3 := grown_trans' hgr hg3
        have hown4 := own_below hown3 (Nat.le_refl _) ((Below.refl _ _).alloc (Nat.le_refl _) (.cells #[.int .u32 z] 22))
        have h4 := h3.below ((Below.refl _ _).alloc (Nat.le_refl _) (.cells #[.int .u32 z] 22))
        have hgr4 := grown_alloc hgr3 (.cells #[.int .u32 z] 22)
        have hsl := sl_new w3 22 [.int .u32 z]
        have hone : ∀ k, k < 1 * 1 → ([Value.int .u32 z].getD k undef).oneCell' = true := fun k hk => by
          obtain rfl : k = 0 := by omega
          rfl
        clear hown hown3 hgr hg3 h3 hgr3 c4 c2
        go_wp2_with (at_builtin; refine wpList_append_sl _ rfl (.tmp 18) (.tmp 21) 28 rfl w.heap.size 22 i0 _ 1 4 Tryd.underlying28 hi hz0 hz1 hz2 rfl (by omega) _ L.length _ rfl hown4 _ 1 _ (fun i => [Value.int .u32 z].getD i undef) rfl hsl hone (by unfold maxLen; omega) (by omega) hgr4.size ?_; intro v' w5 hown5 hg5 _; have h5 := h4.grow_own hown4 hg5 hrl hAb.out; have hgr5 := grown_newer hgr4 hg5 (own_ge hown4))
        clear hown4 hg5 h4 hgr4 hsl
        go_roundw
        case rel =>
          refine ⟨k, s2, L ++ [z], by go_num, by simp; omega, ?_, h5, hgr5, ?_, HL.out.2⟩
          · rw [List.length_append, List.map_append]; exact hown5
          · rw [List.append_assoc]; exact HL.out.1
        case measure => simp [intOf]
      · simp only [wl, ws, if_true, List.append_nil] at hL hS
        have HL := Lib.hid (And.intro hL hS)
        clear hL hS
        go_wp2_with fail
        go_ret
        refine ⟨_, rfl, ?_, ?_, hgr⟩
        · rw [← HL.out.1]; exact hown
        · rw [← HL.out.2]; exact hrs
set_option maxHeartbeats 1000000 in
theorem code_rs (r : Nat) (A : Option Addr) (len cap : Nat) (s : Nat × Bool) (Z : Nat → Int) (w : World) (h : RS w r A len cap Z s) :
    Calls Tryd.prog 98 #[.pointer (some ⟨r, 0, none⟩)] w fun e w' => ∃ v, e = .returned v ∧ w'.ownsRow w.heap.size 54 5 v (codeL Z len s).length ((codeL Z len s).flatMap Ins.cells) ∧
      RS w' r A len cap Z (codeS Z len s) ∧ w.grownBy w' (some r) := by
  have hrl : r < w.heap.size := Blk.lt h.rd
  have hAb := Lib.hid h.base
  have hN := rval_lt (size := 2) (s := s) h.z
  obtain ⟨i0, hi, hz0, hz1, hz2⟩ := info_parts instr_info
  have c0 := small2_rs h
  unfold codeL codeS
  obtain ⟨s1, hs1⟩ : ∃ s1, rstep Z len 2 s = s1 := ⟨_, rfl⟩
  obtain ⟨N, hNe⟩ : ∃ N : Nat, rval Z len 2 s = N := ⟨(rval Z len 2 s).toNat, by omega⟩
  rw [hs1, hNe] at c0
  rw [hs1, hNe, Int.toNat_natCast]
  rw [hNe] at hN
  have hN2 : N ≤ 65535 := by omega
  clear hs1 hNe hN h
  go_enter Tryd.func98, Tryd.ntmps98
  go_wp2_with fail
  refine c0.mono ?_
  rintro e w1 ⟨rfl, h1, hg1⟩
  clear c0
  go_wp2_with fail
  go_loopw [3, 4] (fun out v wr => ∃ (k : Nat) (s' : Nat × Bool) (L : List Ins), v = .int .i64 k ∧ L.length + k ≤ N ∧ wr.ownsRow w.heap.size 54 5 out L.length (L.flatMap Ins.cells) ∧ RS wr r A len cap Z s' ∧ w.grownBy wr (some r) ∧
    L ++ il Z len k s' = il Z len N s1 ∧ is_ Z len k s' = is_ Z len N s1) (fun _ v _ => (intOf v).toNat)
  case atStart => exact ⟨N, s1, [], rfl, by simp, ⟨rfl, .inl ⟨rfl, rfl⟩⟩, h1, hg1, rfl, rfl⟩
  case round =>
    clear h1 hg1
    obtain ⟨k, ⟨sa, sb⟩, L, rfl, hk, hown, hrs, hgr, hL, hS⟩ := hrel
    have c2 := Blk.cell hrs.rd 2
    simp only [List.getElem?_toArray, List.getElem?_cons_zero, List.getElem?_cons_succ] at c2
    rcases k with _ | k
    · have hk0 : ¬ (0 : Int) < ((0 : Nat) : Int) := by omega
      have HL := Lib.hid (And.intro hL hS)
      clear hL hS
      go_wp2_with fail
      go_ret
      refine ⟨_, rfl, ?_, ?_, hgr⟩
      · rw [← HL.out.1]; simpa [il] using hown
      · rw [← HL.out.2]; exact hrs
    · have hk0 : (0 : Int) < ((k + 1 : Nat) : Int) := by omega
      cases sb
      · have c4 := instr_rs r A len cap (sa, false) Z _ hrs
        simp only [il, is_, Bool.false_eq_true, if_false] at hL hS
        have hv : rinstrV Z len (sa, false) = (insOf Z len (sa, false)).val := rfl
        obtain ⟨s2, hs2⟩ : ∃ s2, rinstrS Z len (sa, false) = s2 := ⟨_, rfl⟩
        rw [hv, hs2] at c4
        rw [hs2] at hL hS
        obtain ⟨q, hz⟩ : ∃ q, insOf Z len (sa, false) = q := ⟨_, rfl⟩
        rw [hz] at c4 hL
        obtain ⟨o, a, b, c, z⟩ := q
        unfold Ins.val at c4
        dsimp only at c4
        have HL := Lib.hid (And.intro hL hS)
        clear hL hS hz hs2 hrs hv
        go_wp2_with fail
        refine c4.mono ?_
        rintro e w3 ⟨rfl, h3, hg3⟩
        have hown3 := own_grown hown hg3 hrl
        have hgr3 := grown_trans' hgr hg3
        have hown4 := own_below hown3 (Nat.le_refl _) ((Below.refl _ _).alloc (Nat.le_refl _) (.cells #[.int .i64 o, .int .i64 a, .int .i64 b, .int .i64 c, .int .u32 z] 54))
        have h4 := h3.below ((Below.refl _ _).alloc (Nat.le_refl _) (.cells #[.int .i64 o, .int .i64 a, .int .i64 b, .int .i64 c, .int .u32 z] 54))
        have hgr4 := grown_alloc hgr3 (.cells #[.int .i64 o, .int .i64 a, .int .i64 b, .int .i64 c, .int .u32 z] 54)
        have hsl := sl_new w3 54 [.int .i64 o, .int .i64 a, .int .i64 b, .int .i64 c, .int .u32 z]
        have hone : ∀ k, k < 1 * 5 → (([.int .i64 o, .int .i64 a, .int .i64 b, .int .i64 c, .int .u32 z] : List Value).getD k undef).oneCell' = true := fun k hk => by
          rcases (by omega : k = 0 ∨ k = 1 ∨ k = 2 ∨ k = 3 ∨ k = 4) with rfl | rfl | rfl | rfl | rfl <;> rfl
        clear hown hown3 hgr hg3 h3 hgr3 c4 c2
        go_wp2_with (at_builtin; refine wpList_append_sl _ rfl (.tmp 18) (.tmp 21) 26 rfl w.heap.size 54 i0 _ 5 40 Tryd.underlying26 hi hz0 hz1 hz2 rfl (by omega) _ L.length _ rfl hown4 _ 1 _ (fun i => ([.int .i64 o, .int .i64 a, .int .i64 b, .int .i64 c, .int .u32 z] : List Value).getD i undef) rfl hsl hone (by unfold maxLen; omega) (by omega) hgr4.size ?_; intro v' w5 hown5 hg5 _; have h5 := h4.grow_own hown4 hg5 hrl hAb.out; have hgr5 := grown_newer hgr4 hg5 (own_ge hown4))
        clear hown4 hg5 h4 hgr4 hsl
        go_roundw
        case rel =>
          refine ⟨k, s2, L ++ [⟨o, a, b, c, z⟩], by go_num, by simp; omega, ?_, h5, hgr5, ?_, HL.out.2⟩
          · rw [List.length_append, List.flatMap_append]; exact hown5
          · rw [List.append_assoc]; exact HL.out.1
        case measure => simp [intOf]
      · simp only [il, is_, if_true, List.append_nil] at hL hS
        have HL := Lib.hid (And.intro hL hS)
        clear hL hS
        go_wp2_with fail
        go_ret
        refine ⟨_, rfl, ?_, ?_, hgr⟩
        · rw [← HL.out.1]; exact hown
        · rw [← HL.out.2]; exact hrs
end Go.Proofs.YtjmnogpnjombgaaDoor
