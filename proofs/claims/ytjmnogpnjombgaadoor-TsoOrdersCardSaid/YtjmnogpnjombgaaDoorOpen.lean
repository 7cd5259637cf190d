/- Instructions, codes, programs: as values, in memory, opened. -/
import Derived.Test.YtjmnogpnjombgaaDoorOpen0
namespace Go.Proofs.YtjmnogpnjombgaaDoor
open Go.ChangeShapes Go.WideShapes Go.ChangeAt Go.RowKit Go.Deep
set_option linter.unusedVariables false
set_option maxRecDepth 100000

/-- An instruction. -/
structure Ins where
  (op a b c k : Int)
instance : Inhabited Ins := ⟨⟨0, 0, 0, 0, 0⟩⟩
def Ins.cells (i : Ins) : List Value := [.int .i64 i.op, .int .i64 i.a, .int .i64 i.b, .int .i64 i.c, .int .u32 i.k]
def Ins.val (i : Ins) : Value := .agg #[.int .i64 i.op, .int .i64 i.a, .int .i64 i.b, .int .i64 i.c, .int .u32 i.k]
structure Ins.Ok (i : Ins) : Prop where
  op0 : -9223372036854775808 ≤ i.op
  op1 : i.op ≤ 9223372036854775807
  a0 : -9223372036854775808 ≤ i.a
  a1 : i.a ≤ 9223372036854775807
  b0 : -9223372036854775808 ≤ i.b
  b1 : i.b ≤ 9223372036854775807
  c0 : -9223372036854775808 ≤ i.c
  c1 : i.c ≤ 9223372036854775807
  k0 : 0 ≤ i.k
  k1 : i.k ≤ 4294967295

/-- A code: a slice of instructions. -/
structure Cd where
  A : Option Addr
  (len cap : Nat)
  F : Nat → Ins
instance : Inhabited Cd := ⟨⟨none, 0, 0, default⟩⟩
def Cd.val (c : Cd) : Value := .slice c.A c.len c.cap
structure Cd.Ok (c : Cd) : Prop where
  hl : c.len ≤ c.cap
  hm : c.cap ≤ maxLen
  ins : ∀ i, i < c.len → (c.F i).Ok
def Cd.At (c : Cd) (W : World) : Prop := SlE W c.A c.len 5 (fun i => (c.F i).cells)
theorem Cd.At.step {c : Cd} {W w1 : World} (h : c.At W) (hb : Below W.heap.size W w1) : c.At w1 := SlE.step h hb

/-- A program. -/
structure Pg where
  A : Option Addr
  (n cap : Nat)
  cd : Nat → Cd
  mA : Option Addr
  (m mcap : Nat)
  Z : Nat → Int
  room : Int
def Pg.val (p : Pg) : Value := .agg #[.slice p.A p.n p.cap, .slice p.mA p.m p.mcap, .int .i64 p.room]
structure Pg.Ok (p : Pg) : Prop where
  hl : p.n ≤ p.cap
  hm : p.cap ≤ maxLen
  ml : p.m ≤ p.mcap
  mm : p.mcap ≤ maxLen
  cds : ∀ t, t < p.n → (p.cd t).Ok
  z0 : ∀ i, i < p.m → 0 ≤ p.Z i ∧ p.Z i ≤ 4294967295
  r0 : -9223372036854775808 ≤ p.room
  r1 : p.room ≤ 9223372036854775807
structure Pg.At (p : Pg) (W : World) : Prop where
  codes : Sl W p.A p.n (fun t => (p.cd t).val)
  code : ∀ t, t < p.n → (p.cd t).At W
  mem : Sl W p.mA p.m (fun i => .int .u32 (p.Z i))
theorem Pg.At.step {p : Pg} {W w1 : World} (h : p.At W) (hb : Below W.heap.size W w1) : p.At w1 :=
  ⟨h.codes.step hb, fun t ht => (h.code t ht).step hb, h.mem.step hb⟩
theorem Pg.At.drew {p : Pg} {W : World} (h : p.At W) : p.At W.drew := ⟨h.codes, h.code, h.mem⟩
theorem Pg.At.alloc {p : Pg} {W : World} (h : p.At W) (o : Obj) : p.At (W.alloc o) := h.step ((Below.refl _ _).alloc (Nat.le_refl _) o)

section
variable {H : Type} {enc : TypeId × Value → H} {W : World}
theorem elem_ins (n : Nat) (cs : List Value) (x : DataW H × List MemPlace) (h : DataW.trod enc Tryd.prog W 0 (fun _ => true) true n 54 cs = some x) : ∃ i : Ins, cs = i.cells ∧ i.Ok := by
  obtain ⟨hcl, hcs⟩ := elem_ints Tryd.underlying54 (by kernel_rfl) (by kernel_rfl) (fun i => if i = 4 then .u32 else .i64) (fun i f hf => by
    rcases i with _ | _ | _ | _ | _ | i
    · obtain rfl := Option.some.inj hf; exact Tryd.underlying3
    · obtain rfl := Option.some.inj hf; exact Tryd.underlying3
    · obtain rfl := Option.some.inj hf; exact Tryd.underlying3
    · obtain rfl := Option.some.inj hf; exact Tryd.underlying3
    · obtain rfl := Option.some.inj hf; exact Tryd.underlying22
    · cases hf) n cs x h
  obtain ⟨c0, c1, c2, c3, c4, rfl⟩ : ∃ c0 c1 c2 c3 c4, cs = [c0, c1, c2, c3, c4] := by
    match cs, hcl with
    | [c0, c1, c2, c3, c4], _ => exact ⟨c0, c1, c2, c3, c4, rfl⟩
  obtain ⟨n0, e0, w0⟩ := hcs 0 (by decide)
  obtain ⟨n1, e1, w1⟩ := hcs 1 (by decide)
  obtain ⟨n2, e2, w2⟩ := hcs 2 (by decide)
  obtain ⟨n3, e3, w3⟩ := hcs 3 (by decide)
  obtain ⟨n4, e4, w4⟩ := hcs 4 (by decide)
  obtain rfl := Option.some.inj e0
  obtain rfl := Option.some.inj e1
  obtain rfl := Option.some.inj e2
  obtain rfl := Option.some.inj e3
  obtain rfl := Option.some.inj e4
  exact ⟨⟨n0, n1, n2, n3, n4⟩, rfl, (bounds_i64 w0).1, (bounds_i64 w0).2, (bounds_i64 w1).1, (bounds_i64 w1).2, (bounds_i64 w2).1, (bounds_i64 w2).2, (bounds_i64 w3).1, (bounds_i64 w3).2, (bounds_u32 w4).1, (bounds_u32 w4).2⟩

theorem elem_u32 (n : Nat) (cs : List Value) (x : DataW H × List MemPlace) (h : DataW.trod enc Tryd.prog W 0 (fun _ => true) true n 22 cs = some x) : ∃ z : Int, cs = [.int .u32 z] ∧ 0 ≤ z ∧ z ≤ 4294967295 := by
  obtain ⟨z, e1, e2, w⟩ := DataW.trod_int Tryd.underlying22 h
  exact ⟨z, e1, (bounds_u32 w).1, (bounds_u32 w).2⟩

theorem elem_code (n : Nat) (cs : List Value) (x : DataW H × List MemPlace) (h : DataW.trod enc Tryd.prog W 0 (fun _ => true) true n 26 cs = some x) : ∃ c : Cd, cs = [c.val] ∧ c.Ok ∧ c.At W := by
  obtain ⟨A, len, cap, F, rfl, hl, hm, hs, ho⟩ := open_slc (size := 5) Tryd.underlying26 (by kernel_rfl) (by decide) Ins.cells Ins.Ok elem_ins h
  exact ⟨⟨A, len, cap, F⟩, rfl, ⟨hl, hm, ho⟩, hs⟩

theorem open_codes {fuel : Nat} {cs : List Value} {x : DataW H × List MemPlace} (h : DataW.trod enc Tryd.prog W 0 (fun _ => true) true fuel 34 cs = some x) :
    ∃ (A : Option Addr) (n cap : Nat) (cd : Nat → Cd), cs = [.slice A n cap] ∧ n ≤ cap ∧ cap ≤ maxLen ∧ Sl W A n (fun t => (cd t).val) ∧ (∀ t, t < n → (cd t).Ok) ∧ ∀ t, t < n → (cd t).At W := by
  obtain ⟨A, n, cap, cd, rfl, hl, hm, hs, ho⟩ := open_slc (size := 1) Tryd.underlying34 (by kernel_rfl) (by decide) (fun c : Cd => [c.val]) (fun c => c.Ok ∧ c.At W) elem_code h
  exact ⟨A, n, cap, cd, rfl, hl, hm, sl_of_slE hs (fun _ _ => rfl), fun t ht => (ho t ht).1, fun t ht => (ho t ht).2⟩

theorem open_words {fuel : Nat} {cs : List Value} {x : DataW H × List MemPlace} (h : DataW.trod enc Tryd.prog W 0 (fun _ => true) true fuel 28 cs = some x) :
    ∃ (A : Option Addr) (n cap : Nat) (Z : Nat → Int), cs = [.slice A n cap] ∧ n ≤ cap ∧ cap ≤ maxLen ∧ Sl W A n (fun i => .int .u32 (Z i)) ∧ ∀ i, i < n → 0 ≤ Z i ∧ Z i ≤ 4294967295 := by
  obtain ⟨A, n, cap, Z, rfl, hl, hm, hs, ho⟩ := open_slc (size := 1) Tryd.underlying28 (by kernel_rfl) (by decide) (fun z : Int => [.int .u32 z]) (fun z => 0 ≤ z ∧ z ≤ 4294967295) elem_u32 h
  exact ⟨A, n, cap, Z, rfl, hl, hm, sl_of_slE hs (fun _ _ => rfl), ho⟩

theorem elem_prog (n : Nat) (cs : List Value) (x : DataW H × List MemPlace) (h : DataW.trod enc Tryd.prog W 0 (fun _ => true) true n 63 cs = some x) :
    ∃ p : Pg, cs = [.slice p.A p.n p.cap, .slice p.mA p.m p.mcap, .int .i64 p.room] ∧ p.Ok ∧ p.At W := by
  obtain ⟨y0, y1, y2, m, rfl, hlen, h0, h1, h2⟩ := trod_struct3 Tryd.underlying63 h
  have hcl : cs.length = 3 := hlen.trans (by kernel_rfl)
  match cs, hcl with
  | [c0, c1, c2], _ =>
    obtain ⟨A, n, cap, cd, e0, hl, hm, hs, ho, ha⟩ := open_codes (show DataW.trod enc Tryd.prog W 0 (fun _ => true) true m 34 [c0] = some y0 from h0)
    obtain ⟨mA, mn, mcap, Z, e1, ml, mm, ms, mo⟩ := open_words (show DataW.trod enc Tryd.prog W 0 (fun _ => true) true m 28 [c1] = some y1 from h1)
    obtain ⟨z, e2, _, wz⟩ := DataW.trod_int Tryd.underlying3 (show DataW.trod enc Tryd.prog W 0 (fun _ => true) true m 3 [c2] = some y2 from h2)
    simp only [List.cons.injEq, and_true] at e0 e1 e2
    subst e0 e1 e2
    exact ⟨⟨A, n, cap, cd, mA, mn, mcap, Z, z⟩, rfl, ⟨hl, hm, ml, mm, ho, mo, (bounds_i64 wz).1, (bounds_i64 wz).2⟩, ⟨hs, ha, ms⟩⟩

theorem open_prog {b0 : Nat} {v : Value} {d : DataW H} {p : List MemPlace} (hv : Value.okWide Tryd.prog W .any b0 63 v) (h : DataW.Trod enc Tryd.prog W 0 (fun _ => true) true 63 v d p) :
    ∃ q : Pg, v = q.val ∧ q.Ok ∧ q.At W := by
  obtain ⟨cs, rfl, _⟩ := okWide_struct Tryd.underlying63 hv
  obtain ⟨fuel, hf⟩ := h
  obtain ⟨l⟩ := cs
  obtain ⟨q, e, ho, ha⟩ := elem_prog _ _ _ hf
  have e' : l = [.slice q.A q.n q.cap, .slice q.mA q.m q.mcap, .int .i64 q.room] := by simpa [Value.cells] using e
  exact ⟨q, by rw [e']; rfl, ho, ha⟩

theorem open_code {b0 : Nat} {v : Value} {d : DataW H} {p : List MemPlace} (hv : Value.okWide Tryd.prog W .any b0 26 v) (h : DataW.Trod enc Tryd.prog W 0 (fun _ => true) true 26 v d p) :
    ∃ c : Cd, v = c.val ∧ c.Ok ∧ c.At W := by
  obtain ⟨a0, len, cap, rfl⟩ := okWide_slice Tryd.underlying26 hv
  obtain ⟨fuel, hf⟩ := h
  obtain ⟨c, e, ho, ha⟩ := elem_code _ _ _ hf
  have e' : Value.slice a0 len cap = c.val := by simpa [Value.cells] using e
  exact ⟨c, e', ho, ha⟩
end
end Go.Proofs.YtjmnogpnjombgaaDoor
