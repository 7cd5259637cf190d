/- code.Write: a program's bytes. -/
import Derived.Test.YtlmhifnanhkcnaaDoorIsaCheck
import Derived.Test.YtlmhifnanhkcnaaDoorCodePut
import Derived.Test.YtlmhifnanhkcnaaDoorRow
import Derived.Test.YtlmhifnanhkcnaaDoorOwn
import Derived.Lib.SlBytesConst
import Derived.ArgAppend
namespace Go.Proofs.YtlmhifnanhkcnaaDoor
open Go.ChangeShapes Go.WideShapes Go.ChangeAt Go.RowKit Go.Deep
set_option linter.unusedVariables false
set_option linter.unusedSimpArgs false

/-- A row of bytes that the call owns. -/
def BytesO (w : World) (base : Nat) (v : Value) (L : List Int) : Prop := w.ownsRow base 5 1 v L.length (L.map (Value.int .u8))
theorem app_map (L S : List Int) : L.map (Value.int .u8) ++ (List.range (S.length * 1)).map (fun i => Value.int .u8 (S.getD i 0)) = (L ++ S).map (Value.int .u8) := by
  rw [List.map_append, Nat.mul_one]
  congr 1
  apply List.ext_getElem
  · simp
  · intro i h1 h2
    simp at h1
    simp [List.getD_eq_getElem?_getD, List.getElem?_eq_getElem h1]
theorem sl_bytes (w : World) (t : TypeId) (S : List Int) : Sl (w.alloc (.cells (S.map (Value.int .u8)).toArray t)) (some ⟨w.heap.size, 0, none⟩) S.length (fun i => .int .u8 (S.getD i 0)) := fun hp =>
  ⟨w.heap.size, 0, rfl, (Blk.new w t _).lt, fun i hi => by
    rw [Nat.zero_add, (Blk.new w t _).cell]
    simp [List.getD_eq_getElem?_getD, List.getElem?_eq_getElem hi]⟩
theorem BytesO.sl {w : World} {base : Nat} {v : Value} {L : List Int} (h : BytesO w base v L) : ∃ A cap, v = .slice A L.length cap ∧ L.length ≤ cap ∧ Sl w A L.length (fun i => .int .u8 (L.getD i 0)) := by
  obtain ⟨A, cap, rfl, hc, hs⟩ := own_sl h
  refine ⟨A, cap, rfl, hc, ?_⟩
  rw [Nat.mul_one] at hs
  exact hs.congr fun i hi => by simp [List.getD_eq_getElem?_getD, List.getElem?_eq_getElem hi]
theorem BytesO.below {w w' : World} {base : Nat} {v : Value} {L : List Int} (h : BytesO w base v L) (hb : Below w.heap.size w w') : BytesO w' base v L := own_below h (Nat.le_refl _) hb
theorem BytesO.alloc {w : World} {base : Nat} {v : Value} {L : List Int} (h : BytesO w base v L) (o : Obj) : BytesO (w.alloc o) base v L := h.below ((Below.refl _ _).alloc (Nat.le_refl _) o)

theorem wpList_append_bytes {w : World} {ops : Array Oper} {rest : List Oper} {o : Oper} {a : Act} {Q : Exit → Act → World → Prop} (hgd : o.guard = none) (s x : Operand)
    (ho : o.op = .call { callee := .builtin .append, args := #[s, x], argTypes := #[50, 50] }) (hty : o.type = 50) (base : Nat) (v : Value) (L : List Int) (hs : a.eval s = v) (hown : BytesO w base v L)
    (A : Option Addr) (m c : Nat) (S : List Int) (hm : S.length = m) (hx : a.eval x = .slice A m c) (hr : Sl w A m (fun i => .int .u8 (S.getD i 0))) (hb : L.length + m ≤ 10000000) (hbase : base ≤ w.heap.size)
    (h : ∀ v' w', BytesO w' base v' (L ++ S) → w.grownBy w' v.ownBlock → wpList Tryd.prog ops Q rest (a.put o.dst v') w') : wpList Tryd.prog ops Q (o :: rest) a w := by
  obtain ⟨i0, hi, hz0, hz1, hz2⟩ := info_parts byte_info
  refine wpList_append_sl _ hgd s x 50 ho base 5 i0 _ 1 1 Tryd.underlying50 hi hz0 hz1 hz2 rfl (by omega) v L.length _ hs hown A m c (fun i => .int .u8 (S.getD i 0)) hx (by rw [Nat.mul_one]; exact hr) (fun _ _ => rfl) (by unfold maxLen; omega) (by omega) hbase ?_
  intro v' w' h1 h2 _
  subst hm
  refine h v' w' ?_ h2
  unfold BytesO
  rw [List.length_append, ← app_map]
  exact h1

def wB (n : Int) : List Int := [n % 256, n / 256 % 256, n / 65536 % 256, n / 16777216]
def twoB (n : Int) : List Int := [n % 256, n / 256]
def insB (i : Ins) : List Int := instrBytes i.op i.a i.b i.c i.k
def memB (Z : Nat → Int) (k : Nat) : List Int := (List.range k).flatMap fun i => wB (Z i)
def codB (F : Nat → Ins) (k : Nat) : List Int := (List.range k).flatMap fun i => insB (F i)
def codesB (cd : Nat → Cd) (t : Nat) : List Int := (List.range t).flatMap fun s => twoB (cd s).len ++ codB (cd s).F (cd s).len
def wrB (p : Pg) : List Int := [100, 108, 49, (p.n : Int), p.room] ++ twoB p.m ++ memB p.Z p.m ++ codesB p.cd p.n
theorem memB_succ (Z : Nat → Int) (k : Nat) : memB Z (k + 1) = memB Z k ++ wB (Z k) := by unfold memB; rw [List.range_succ, List.flatMap_append]; simp
theorem codB_succ (F : Nat → Ins) (k : Nat) : codB F (k + 1) = codB F k ++ insB (F k) := by unfold codB; rw [List.range_succ, List.flatMap_append]; simp
theorem codesB_succ (cd : Nat → Cd) (t : Nat) : codesB cd (t + 1) = codesB cd t ++ (twoB (cd t).len ++ codB (cd t).F (cd t).len) := by unfold codesB; rw [List.range_succ, List.flatMap_append]; simp
theorem memB_len (Z : Nat → Int) (k : Nat) : (memB Z k).length = 4 * k := by
  induction k with
  | zero => rfl
  | succ k ih => rw [memB_succ, List.length_append, ih]; show 4 * k + 4 = _; omega
theorem codB_len (F : Nat → Ins) (k : Nat) : (codB F k).length = 8 * k := by
  induction k with
  | zero => rfl
  | succ k ih => rw [codB_succ, List.length_append, ih]; show 8 * k + 8 = _; omega
theorem codesB_len (cd : Nat → Cd) (t : Nat) (h : ∀ s, s < t → (cd s).len ≤ 4000) : (codesB cd t).length ≤ 32002 * t := by
  induction t with
  | zero => exact Nat.le_refl _
  | succ t ih =>
    have := ih fun s hs => h s (by omega)
    have h2 := h t (by omega)
    rw [codesB_succ, List.length_append, List.length_append, codB_len]
    show _ + (2 + _) ≤ _
    omega

theorem two_any (n : Int) (h0 : 0 ≤ n) (h1 : n ≤ 65535) (w : World) :
    Calls Tryd.prog 34 #[.int .i64 n] w fun e w' => e = .returned (.slice (some ⟨w.heap.size, 0, none⟩) 2 2) ∧ w.alloc (.cells #[.int .u8 (n % 256), .int .u8 (n / 256)] 5) = w' := by
  go_enter Tryd.func34, Tryd.ntmps34
  go_wp2
  go_ret
  exact ⟨rfl, rfl⟩

theorem chk_fine {p : Pg} {t j e : Int} (h : Chk p t j e) (he : e = 0) : 1 ≤ p.n ∧ p.n ≤ 8 ∧ 1 ≤ p.room ∧ p.room ≤ 16 ∧ p.m ≤ 1024 ∧ ∀ s, s < p.n → goodCd (p.cd s) := by
  cases h with
  | args h => exact absurd he (by decide)
  | mem a1 a2 a3 a4 h => exact absurd he (by decide)
  | long t a1 a2 a3 a4 a5 ht' hg hl => exact absurd he (by decide)
  | form t j a1 a2 a3 a4 a5 ht' hg hl hj hi hb => exact absurd he (by decide)
  | fine a1 a2 a3 a4 a5 hg => exact ⟨a1, a2, a3, a4, a5, hg⟩
/-- What is right has bytes. -/
theorem right_bytes {i : Ins} {n : Int} (h : rightB i n = true) : inByte i.op ∧ inByte i.a ∧ inByte i.b ∧ inByte i.c := by
  unfold rightB at h
  by_cases hin : 0 ≤ i.op ∧ i.op < 28
  · rw [if_pos hin] at h
    obtain ⟨h1, h2, h3, h4⟩ := of_decide_eq_true h
    unfold FieldP at h1 h2 h3
    unfold inByte
    refine ⟨by omega, ?_, ?_, ?_⟩
    · split at h1 <;> omega
    · split at h2
      · split at h2 <;> omega
      · omega
    · split at h3 <;> omega
  · rw [if_neg hin] at h
    cases h

theorem write_no (p : Pg) (ho : p.Ok) (t j e : Int) (h : Chk p t j e) (he : e ≠ 0) (w : World) (ht : Tab w) (ha : p.At w) :
    Calls Tryd.prog 26 #[p.val] w fun r w' => r = .returned (.tuple #[.slice none 0 0, .int .i64 e]) ∧ Below w.heap.size w w' := by
  have cC := check_any p ho t j e h
  obtain ⟨A, n, cap, cd, mA, m, mcap, Z, room⟩ := p
  unfold Pg.val at cC ⊢
  dsimp only at *
  have hB := (Below.refl w.heap.size w).alloc (Nat.le_refl _) (Obj.cells #[.slice A n cap, .slice mA m mcap, .int .i64 room] 38)
  have ht0 := ht.alloc (Obj.cells #[.slice A n cap, .slice mA m mcap, .int .i64 room] 38)
  have ha0 := ha.alloc (Obj.cells #[.slice A n cap, .slice mA m mcap, .int .i64 room] 38)
  have hne : (e != 0) = true := by rw [bne_iff_ne]; exact he
  have HE := Lib.hid he
  clear he
  go_enter Tryd.func26, Tryd.ntmps26
  go_wp2_with fail
  refine (cC _ ht0 ha0).mono ?_
  rintro r w1 ⟨rfl, hb1⟩
  go_wp2
  go_ret2
  exact ⟨rfl, step_below hB hb1⟩

set_option maxHeartbeats 4000000 in
theorem write_yes (p : Pg) (ho : p.Ok) (h : Chk p 0 0 0) (w : World) (ht : Tab w) (ha : p.At w) :
    Calls Tryd.prog 26 #[p.val] w fun r w' => ∃ v, r = .returned (.tuple #[v, .int .i64 0]) ∧ BytesO w' (w.heap.size + 1) v (wrB p) ∧ Below w.heap.size w w' := by
  have cC := check_any p ho 0 0 0 h
  obtain ⟨f1, f2, f3, f4, f5, f6⟩ := chk_fine h rfl
  obtain ⟨A, n, cap, cd, mA, m, mcap, Z, room⟩ := p
  obtain ⟨_, _, _, _, cds, hz0, _, _⟩ := ho
  have ha' := ha
  obtain ⟨hcodes, hcode, hmem⟩ := ha'
  unfold Pg.val at cC ⊢
  unfold wrB
  dsimp only at *
  have hB := (Below.refl w.heap.size w).alloc (Nat.le_refl _) (Obj.cells #[.slice A n cap, .slice mA m mcap, .int .i64 room] 38)
  have hq := Blk.new w 38 #[.slice A n cap, .slice mA m mcap, .int .i64 room]
  have ht0 := ht.alloc (Obj.cells #[.slice A n cap, .slice mA m mcap, .int .i64 room] 38)
  have ha0 := ha.alloc (Obj.cells #[.slice A n cap, .slice mA m mcap, .int .i64 room] 38)
  have H1 := Lib.hid hcodes
  have H2 := Lib.hid hcode
  have H3 := Lib.hid hmem
  have H4 := Lib.hid cds
  have H5 := Lib.hid hz0
  have H6 := Lib.hid f6
  clear hcodes hcode hmem cds hz0 f6 h ha
  have kc := fun (w : World) (C : Array Value) (n c : Nat) => Lib.run_convert_bytes_const (P := Tryd.prog) w 50 5 C n c Tryd.underlying50 Tryd.underlying5
  go_enter Tryd.func26, Tryd.ntmps26
  go_wp2_with fail
  refine (cC _ ht0 ha0).mono ?_
  rintro r w1 ⟨rfl, hb1⟩
  have hB1 := step_below hB hb1
  have hq1 := hq.below hb1 hq.lt
  have hl1 := hq1.lt
  clear hB hq ht0 ha0 hb1 cC
  have q0 := hq1.cell 0
  have q1 := hq1.cell 1
  have q2 := hq1.cell 2
  simp only [List.getElem?_toArray, List.getElem?_cons_zero, List.getElem?_cons_succ] at q0 q1 q2
  have hr0 : 0 ≤ room := by omega
  obtain ⟨i0, hi, hy0, hy1, hy2⟩ := info_parts byte_info
  have hh0 : (w1.alloc (.cells #[.int .u8 100, .int .u8 108, .int .u8 49] 5 (3, 4))).heap[w1.heap.size]? = some (.cells #[.int .u8 100, .int .u8 108, .int .u8 49] 5 (3, 4)) := heap_alloc_new _ _
  have hs0 : (w1.alloc (.cells #[.int .u8 100, .int .u8 108, .int .u8 49] 5 (3, 4))).heap.size = w1.heap.size + 1 := by simp
  have hB2 := hB1.alloc hB1.size (.cells #[.int .u8 100, .int .u8 108, .int .u8 49] 5 (3, 4))
  have hq2 := hq1.alloc (.cells #[.int .u8 100, .int .u8 108, .int .u8 49] 5 (3, 4))
  have hn2 := Blk.new (w1.alloc (.cells #[.int .u8 100, .int .u8 108, .int .u8 49] 5 (3, 4))) 5 #[.int .u8 (n : Int), .int .u8 room]
  have hh3 := (Below.heap_alloc (w1.alloc (.cells #[.int .u8 100, .int .u8 108, .int .u8 49] 5 (3, 4))) (.cells #[.int .u8 (n : Int), .int .u8 room] 5) w1.heap.size (by rw [hs0]; omega)).trans hh0
  have hB3 := hB2.alloc hB2.size (.cells #[.int .u8 (n : Int), .int .u8 room] 5)
  have hq3 := hq2.alloc (.cells #[.int .u8 (n : Int), .int .u8 room] 5)
  rw [hs0] at hn2
  have hs3 : w.heap.size + 1 ≤ ((w1.alloc (.cells #[.int .u8 100, .int .u8 108, .int .u8 49] 5 (3, 4))).alloc (.cells #[.int .u8 (n : Int), .int .u8 room] 5)).heap.size := by simp; omega
  have holds : ∀ b : Addr, (some (⟨w1.heap.size, 0, none⟩ : Addr)) = some b → ∀ j u, ([.int .u8 100, .int .u8 108, .int .u8 49] : List Value)[j]? = some u → ((w1.alloc (.cells #[.int .u8 100, .int .u8 108, .int .u8 49] 5 (3, 4))).alloc (.cells #[.int .u8 (n : Int), .int .u8 room] 5)).cell? (b.add j) = some u := by
    intro b hb j u hu
    obtain rfl := Option.some.inj hb
    rw [add_plain, Nat.zero_add, cell_of_row _ _ _ _ _ _ hh3]
    simpa using hu
  have hnews : ∀ j u, ([.int .u8 (n : Int), .int .u8 room] : List Value)[j]? = some u → ((w1.alloc (.cells #[.int .u8 100, .int .u8 108, .int .u8 49] 5 (3, 4))).alloc (.cells #[.int .u8 (n : Int), .int .u8 room] 5)).cell? ((⟨w1.heap.size + 1, 0, none⟩ : Addr).add j) = some u := by
    intro j u hu
    rw [add_plain, Nat.zero_add, hn2.cell]
    simpa using hu
  have hone : ∀ u ∈ ([.int .u8 (n : Int), .int .u8 room] : List Value), u.oneCell' = true := by
    intro u hu
    have hu' : u = .int .u8 (n : Int) ∨ u = .int .u8 room := by simpa using hu
    rcases hu' with rfl | rfl <;> rfl
  have X1 := Lib.hid holds
  have X2 := Lib.hid hnews
  have X3 := Lib.hid hone
  have X4 := Lib.hid hs3
  clear holds hnews hone hh0 hh3 hn2 hs0 hs3
  go_upto_region 5 with (at_builtin; refine wpList_append_grows _ rfl (.tmp 26) (.tmp 34) 50 rfl 5 i0 _ 1 1 Tryd.underlying50 hi hy0 hy1 hy2 rfl (by omega) (some ⟨w1.heap.size, 0, none⟩) 3 3 [.int .u8 100, .int .u8 108, .int .u8 49] rfl (fun h => by cases h) rfl X1.out ⟨w1.heap.size + 1, 0, none⟩ 2 2 [.int .u8 (n : Int), .int .u8 room] rfl rfl X2.out X3.out (by omega) (by unfold maxLen; omega) (by omega) ?_; intro v2 w2 hown2 hg2)
  have hB4 : Below w.heap.size w w2 := hB3.grown hg2 hB3.size (fun k e => by cases e)
  have hq4 := hq3.grown hg2 (fun e => by cases e)
  have hown4 : BytesO w2 (w.heap.size + 1) v2 [100, 108, 49, (n : Int), room] := own_base hown2 X4.out
  clear hB1 hB2 hB3 hq1 hq2 hq3 hown2 hg2 X1 X2 X3 X4 q0 q1 q2 hl1
  have q0 := hq4.cell 0
  have q1 := hq4.cell 1
  simp only [List.getElem?_toArray, List.getElem?_cons_zero, List.getElem?_cons_succ] at q0 q1
  have hown5 := hown4.alloc (.cells #[.int .u8 ((m : Int) % 256), .int .u8 ((m : Int) / 256)] 5)
  have hsl5 := sl_bytes w2 5 (twoB m)
  have hB5 := hB4.alloc hB4.size (.cells #[.int .u8 ((m : Int) % 256), .int .u8 ((m : Int) / 256)] 5)
  have hq5 := hq4.alloc (.cells #[.int .u8 ((m : Int) % 256), .int .u8 ((m : Int) / 256)] 5)
  have hl4 := hq4.lt
  go_upto_region 6 with (first
    | (go_at_call 34; refine (two_any _ (by omega) (by omega) _).mono ?_; rintro e w3 ⟨rfl, rfl⟩)
    | (at_builtin; refine wpList_append_bytes rfl (.tmp 36) (.tmp 40) rfl rfl (w.heap.size + 1) _ _ rfl hown5 _ 2 2 (twoB m) rfl rfl hsl5 (by simp) (by simp; omega) ?_; intro v3 w4 hown6 hg6; have hB6 := below_own hB5 hown5 hg6 (by omega) (Nat.le_refl _); have hq6 := hq5.grow_own hown5 hg6 (by omega)))
  obtain ⟨P0, hP0⟩ : ∃ P0, P0 = [100, 108, 49, (n : Int), room] ++ twoB m := ⟨_, rfl⟩
  have hP0l : P0.length = 7 := by rw [hP0]; rfl
  rw [← hP0] at hown6
  have HP0 := Lib.hid (And.intro hP0 hP0l)
  clear hown5 hsl5 hB5 hq5 hg6 hown4 hB4 hq4 hP0 hP0l hl4 q0 q1
  have q0 := hq6.cell 0
  have q1 := hq6.cell 1
  simp only [List.getElem?_toArray, List.getElem?_cons_zero, List.getElem?_cons_succ] at q0 q1
  go_wp2_with fail
  clear q0 q1
  go_loopw [7, 45] (fun s i wr => ∃ k : Nat, k ≤ m ∧ i = .int .i64 k ∧ BytesO wr (w.heap.size + 1) s (P0 ++ memB Z k) ∧ Blk wr w.heap.size 38 #[.slice A n cap, .slice mA m mcap, .int .i64 room] ∧ Below w.heap.size w wr) (fun _ i _ => m - (intOf i).toNat)
  case atStart => exact ⟨0, Nat.zero_le _, rfl, by simpa [memB] using hown6, hq6, hB6⟩
  case round =>
    clear hown6 hq6 hB6
    obtain ⟨k, hk, rfl, hown, hqr, hBr⟩ := hrel
    have hqlt := hqr.lt
    by_cases hkm : k < m
    · obtain ⟨b, off, rfl, hbB, hcc⟩ := H3.out (by omega)
      have c0 : wr.cell? ⟨b, off + k, none⟩ = some (.int .u32 (Z k)) := keepAt hBr hbB (hcc k hkm)
      have hz := H5.out k hkm
      have hk0 : (k : Int) < (m : Int) := by omega
      have HM := Lib.hid (memB_succ Z k)
      have hln : (P0 ++ memB Z k).length ≤ 100000 := by rw [List.length_append, memB_len, HP0.out.2]; omega
      clear hcc
      obtain ⟨L, hL⟩ : ∃ L, L = P0 ++ memB Z k := ⟨_, rfl⟩
      rw [← hL] at hown hln
      have HL := Lib.hid hL
      clear hL
      obtain ⟨z, hz'⟩ : ∃ z, Z k = z := ⟨_, rfl⟩
      rw [hz'] at c0 hz HM
      clear hz'
      have hown5 := hown.alloc (.cells #[.int .u8 (z % 256), .int .u8 (z / 256 % 256), .int .u8 (z / 65536 % 256), .int .u8 (z / 16777216)] 5)
      have hsl5 := sl_bytes wr 5 (wB z)
      have hB5 := hBr.alloc hBr.size (.cells #[.int .u8 (z % 256), .int .u8 (z / 256 % 256), .int .u8 (z / 65536 % 256), .int .u8 (z / 16777216)] 5)
      have hq5 := hqr.alloc (.cells #[.int .u8 (z % 256), .int .u8 (z / 256 % 256), .int .u8 (z / 65536 % 256), .int .u8 (z / 16777216)] 5)
      go_wp2_with (first
        | (go_at_call 35; refine (word_any _ hz.1 hz.2 _).mono ?_; rintro e w3 ⟨rfl, rfl⟩)
        | (at_builtin; refine wpList_append_bytes rfl (.tmp 49) (.tmp 51) rfl rfl (w.heap.size + 1) _ _ rfl hown5 _ 4 4 (wB z) rfl rfl hsl5 (by omega) (by simp; omega) ?_; intro v3 w4 hown6 hg6; have hB6 := below_own hB5 hown5 hg6 (by omega) (Nat.le_refl _); have hq6 := hq5.grow_own hown5 hg6 (by omega)))
      go_roundw
      case rel =>
        refine ⟨k + 1, by omega, by go_num, ?_, hq6, hB6⟩
        rw [HM.out, ← List.append_assoc, ← HL.out]
        exact hown6
      case measure => simp [intOf]; omega
    · obtain rfl : m = k := by omega
      have hk0 : ¬ (m : Int) < (m : Int) := by omega
      have q0 := hqr.cell 0
      simp only [List.getElem?_toArray, List.getElem?_cons_zero] at q0
      obtain ⟨P1, hP1⟩ : ∃ P1, P1 = P0 ++ memB Z m := ⟨_, rfl⟩
      rw [← hP1] at hown
      have hP1l : P1.length ≤ 5000 := by rw [hP1, List.length_append, memB_len, HP0.out.2]; omega
      have HP1 := Lib.hid hP1
      clear hP1
      go_wp2_with fail
      clear q0
      go_loopw [7, 57] (fun s i wr => ∃ t : Nat, t ≤ n ∧ i = .int .i64 t ∧ BytesO wr (w.heap.size + 1) s (P1 ++ codesB cd t) ∧ Blk wr w.heap.size 38 #[.slice A n cap, .slice mA m mcap, .int .i64 room] ∧ Below w.heap.size w wr) (fun _ i _ => n - (intOf i).toNat)
      case atStart => exact ⟨0, Nat.zero_le _, rfl, by simpa [codesB] using hown, hqr, hBr⟩
      case round =>
        clear hown hqr hBr hqlt
        obtain ⟨t, htn, rfl, hown, hqr, hBr⟩ := hrel
        have hqlt := hqr.lt
        by_cases htl : t < n
        · obtain ⟨b, off, rfl, hbB, hcc⟩ := H1.out (by omega)
          have hcell : wr.cell? ⟨b, off + t, none⟩ = some (.slice (cd t).A (cd t).len (cd t).cap) := keepAt hBr hbB (hcc t htl)
          have hok := H4.out t htl
          have hgd := H6.out t htl
          have hat := H2.out t htl
          have HM := Lib.hid (codesB_succ cd t)
          have hln : (P1 ++ codesB cd t).length ≤ 300000 := by
            have := codesB_len cd t (fun s hs => (H6.out s (by omega)).1)
            rw [List.length_append]
            have : 32002 * t ≤ 32002 * 8 := Nat.mul_le_mul_left _ (by omega)
            omega
          obtain ⟨L, hL⟩ : ∃ L, L = P1 ++ codesB cd t := ⟨_, rfl⟩
          rw [← hL] at hown hln
          have HL := Lib.hid hL
          clear hL hcc
          obtain ⟨c, hc⟩ : ∃ c, cd t = c := ⟨_, rfl⟩
          rw [hc] at hcell hok hgd hat HM
          clear hc
          obtain ⟨A', l', c', F⟩ := c
          obtain ⟨_, _, hins⟩ := hok
          obtain ⟨hg1, hg2⟩ := hgd
          unfold Cd.At at hat
          dsimp only at *
          have HA := Lib.hid hat
          have HI := Lib.hid hins
          have HG := Lib.hid hg2
          clear hat hins hg2
          have ht0 : (t : Int) < (n : Int) := by omega
          have hown5 := hown.alloc (.cells #[.int .u8 ((l' : Int) % 256), .int .u8 ((l' : Int) / 256)] 5)
          have hsl5 := sl_bytes wr 5 (twoB l')
          have hB5 := hBr.alloc hBr.size (.cells #[.int .u8 ((l' : Int) % 256), .int .u8 ((l' : Int) / 256)] 5)
          have hq5 := hqr.alloc (.cells #[.int .u8 ((l' : Int) % 256), .int .u8 ((l' : Int) / 256)] 5)
          go_wp2_with (first
            | (go_at_call 34; refine (two_any _ (by omega) (by omega) _).mono ?_; rintro e w3 ⟨rfl, rfl⟩)
            | (at_builtin; refine wpList_append_bytes rfl (.tmp 61) (.tmp 64) rfl rfl (w.heap.size + 1) _ _ rfl hown5 _ 2 2 (twoB l') rfl rfl hsl5 (by omega) (by simp; omega) ?_; intro v3 w4 hown6 hg6; have hB6 := below_own hB5 hown5 hg6 (by omega) (Nat.le_refl _); have hq6 := hq5.grow_own hown5 hg6 (by omega); clear hown5 hsl5 hB5 hq5 hg6 hown hqr hBr hcell))
          obtain ⟨L2, hL2⟩ : ∃ L2, L2 = L ++ twoB l' := ⟨_, rfl⟩
          rw [← hL2] at hown6
          have hln2 : L2.length ≤ 300002 := by rw [hL2, List.length_append]; show _ + 2 ≤ _; omega
          have HL2 := Lib.hid hL2
          clear hL2
          obtain ⟨wo, rfl⟩ : ∃ wo : World, wo = wr := ⟨_, rfl⟩
          go_loopw [7, 68] (fun s i wr => ∃ j : Nat, j ≤ l' ∧ i = .int .i64 j ∧ BytesO wr (w.heap.size + 1) s (L2 ++ codB F j) ∧ Blk wr w.heap.size 38 #[.slice (some ⟨b, off, none⟩) n cap, .slice mA m mcap, .int .i64 room] ∧ Below w.heap.size w wr) (fun _ i _ => l' - (intOf i).toNat)
          case atStart => exact ⟨0, Nat.zero_le _, rfl, by simpa [codB] using hown6, hq6, hB6⟩
          case round =>
            clear hown6 hq6 hB6
            obtain ⟨j, hj, rfl, hown, hqr, hBr⟩ := hrel
            have hqlt2 := hqr.lt
            by_cases hjl : j < l'
            · obtain ⟨b', off', rfl, hlt', hc'⟩ := HA.out (show 0 < l' by omega)
              have hcj := hc' j hjl
              dsimp only at hcj
              have hby := right_bytes (HG.out j hjl)
              have hk := HI.out j hjl
              have HM2 := Lib.hid (codB_succ F j)
              have hln3 : (L2 ++ codB F j).length ≤ 340000 := by rw [List.length_append, codB_len]; omega
              obtain ⟨L3, hL3⟩ : ∃ L3, L3 = L2 ++ codB F j := ⟨_, rfl⟩
              rw [← hL3] at hown hln3
              have HL3 := Lib.hid hL3
              clear hL3 hc'
              obtain ⟨q, hq⟩ : ∃ q, F j = q := ⟨_, rfl⟩
              rw [hq] at hcj hby hk HM2
              clear hq
              have k0 : wr.cell? ⟨b', off' + j * 5, none⟩ = some (.int .i64 q.op) := keepAt hBr hlt' (hcj 0 _ rfl)
              have k1 : wr.cell? ⟨b', off' + j * 5 + 1, none⟩ = some (.int .i64 q.a) := keepAt hBr hlt' (hcj 1 _ rfl)
              have k2 : wr.cell? ⟨b', off' + j * 5 + 2, none⟩ = some (.int .i64 q.b) := keepAt hBr hlt' (hcj 2 _ rfl)
              have k3 : wr.cell? ⟨b', off' + j * 5 + 3, none⟩ = some (.int .i64 q.c) := keepAt hBr hlt' (hcj 3 _ rfl)
              have k4 : wr.cell? ⟨b', off' + j * 5 + 4, none⟩ = some (.int .u32 q.k) := keepAt hBr hlt' (hcj 4 _ rfl)
              clear hcj
              have cP := put_yes q.op q.a q.b q.c q.k hby.1 hby.2.1 hby.2.2.1 hby.2.2.2 hk.k0 hk.k1
              have hownA := hown.alloc (.cells #[.int .i64 q.op, .int .i64 q.a, .int .i64 q.b, .int .i64 q.c, .int .u32 q.k] 24)
              have hBA := hBr.alloc hBr.size (.cells #[.int .i64 q.op, .int .i64 q.a, .int .i64 q.b, .int .i64 q.c, .int .u32 q.k] 24)
              have hqA := hqr.alloc (.cells #[.int .i64 q.op, .int .i64 q.a, .int .i64 q.b, .int .i64 q.c, .int .u32 q.k] 24)
              have hj0 : (j : Int) < (l' : Int) := by omega
              go_wp2_with fail
              refine (cP _).mono ?_
              rintro e w5 ⟨g5, cp5, rfl, hown5, hb5⟩
              have hownB := hownA.below hb5
              have hBB := step_below hBA hb5
              have hqB := hqA.below hb5 hqA.lt
              have hsl5 : Sl w5 (some ⟨g5, 0, none⟩) 8 (fun i => .int .u8 ((insB q).getD i 0)) := by
                obtain ⟨A5, c5, hv, _, hs⟩ := own_sl hown5
                injection hv with hv1 _ _
                rw [hv1]
                exact hs.congr fun i hi => by
                  have hi8 : i < (insB q).length := hi
                  show ((insB q).map (Value.int .u8)).getD i undef = _
                  simp [List.getD_eq_getElem?_getD, List.getElem?_eq_getElem hi8]
              clear hown hownA hBA hqA hown5 hb5 k0 k1 k2 k3 k4 cP hqr hBr
              go_wp2_with (at_builtin; refine wpList_append_bytes rfl (.tmp 77) (.tmp 78) rfl rfl (w.heap.size + 1) _ _ rfl hownB _ 8 cp5 (insB q) rfl rfl hsl5 (by omega) (by have := hBB.size; have := hqB.lt; omega) ?_; intro v6 w6 hown6 hg6; have hB6 := below_own hBB hownB hg6 (by omega) (Nat.le_refl _); have hq6 := hqB.grow_own hownB hg6 (by omega))
              go_roundw
              case rel =>
                refine ⟨j + 1, by omega, by go_num, ?_, hq6, hB6⟩
                rw [HM2.out, ← List.append_assoc, ← HL3.out]
                exact hown6
              case measure => simp [intOf]; omega
            · obtain rfl : l' = j := by omega
              have hj0 : ¬ (l' : Int) < (l' : Int) := by omega
              go_wp2_with fail
              go_roundw
              case rel =>
                refine ⟨t + 1, by omega, by go_num, ?_, hqr, hBr⟩
                rw [HM.out, ← List.append_assoc, ← HL.out, ← List.append_assoc, ← HL2.out]
                exact hown
              case measure => simp [intOf]; omega
        · obtain rfl : n = t := by omega
          have ht0 : ¬ (n : Int) < (n : Int) := by omega
          go_wp2_with fail
          go_ret2
          refine ⟨_, rfl, ?_, hBr⟩
          have := hown
          rw [HP1.out, HP0.out.1] at this
          exact this
end Go.Proofs.YtlmhifnanhkcnaaDoor
