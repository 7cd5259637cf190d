/- law08's worlds: a document's world while it is made: what lies where. -/
import Derived.Test.YtjmnogpnjombgaaDoorRefNew
namespace Go.Proofs.YtjmnogpnjombgaaDoor
open Go.ChangeShapes Go.WideShapes Go.ChangeAt Go.RowKit Go.Deep
set_option linter.unusedVariables false
set_option maxRecDepth 100000
set_option linter.unusedSimpArgs false

def thB : Th := ⟨0, fun _ => 0, 1⟩
/-- A world in the making. -/
def WIn (W : World) (base gb ib rb : Nat) (arr : Array Value) (c : Value) (t : Th) (nc nt nf nb ns m : Nat) (bl sl : List (Int × Int)) (ms : List Value) (room : Int) (cA : Option Addr) (cc : Nat) (tA : Option Addr) (tc fg fc : Nat) (bA : Option Addr) (bc : Nat) (mv : Value) (sA : Option Addr) (sc : Nat) : Prop :=
  Blk W gb 40 #[.slice cA (nc + 1) cc, .slice tA (nt + 1) tc, .slice (some ⟨fg, 0, none⟩) (nf + 1) fc, mv, .int .i64 room, .slice sA ns sc, .slice none 0 0, .bool false] ∧ Blk W ib 31 arr ∧ Blk W rb 40 wZ ∧ gb ≠ rb ∧
  W.ownsRow base 26 1 (.slice cA (nc + 1) cc) (nc + 1) (c :: List.replicate nc (.slice none 0 0)) ∧ W.ownsRow base 25 10 (.slice tA (nt + 1) tc) (nt + 1) ((t :: List.replicate nt thB).flatMap Th.cells) ∧
  W.ownsRow base 27 1 (.slice (some ⟨fg, 0, none⟩) (nf + 1) fc) (nf + 1) (.slice bA nb bc :: List.replicate nf (.slice none 0 0)) ∧ W.ownsRow base 96 2 (.slice bA nb bc) nb (bl.flatMap entc) ∧
  W.ownsRow base 22 1 mv m ms ∧ W.ownsRow base 98 2 (.slice sA ns sc) ns (sl.flatMap slpc)
theorem WIn.below {W : World} {base gb ib rb : Nat} {arr : Array Value} {c : Value} {t : Th} {nc nt nf nb ns m : Nat} {bl sl : List (Int × Int)} {ms : List Value} {room : Int} {cA : Option Addr} {cc : Nat} {tA : Option Addr} {tc fg fc : Nat} {bA : Option Addr} {bc : Nat} {mv : Value} {sA : Option Addr} {sc : Nat} {W' : World} (h : WIn W base gb ib rb arr c t nc nt nf nb ns m bl sl ms room cA cc tA tc fg fc bA bc mv sA sc) (hB : Below W.heap.size W W') : WIn W' base gb ib rb arr c t nc nt nf nb ns m bl sl ms room cA cc tA tc fg fc bA bc mv sA sc := by
  obtain ⟨h1, h2, h3, hne, r1, r2, r3, r4, r5, r6⟩ := h
  exact ⟨h1.below hB h1.lt, h2.below hB h2.lt, h3.below hB h3.lt, hne, own_below r1 (Nat.le_refl _) hB, own_below r2 (Nat.le_refl _) hB, own_below r3 (Nat.le_refl _) hB, own_below r4 (Nat.le_refl _) hB, own_below r5 (Nat.le_refl _) hB, own_below r6 (Nat.le_refl _) hB⟩
theorem WIn.drewN {W : World} {base gb ib rb : Nat} {arr : Array Value} {c : Value} {t : Th} {nc nt nf nb ns m : Nat} {bl sl : List (Int × Int)} {ms : List Value} {room : Int} {cA : Option Addr} {cc : Nat} {tA : Option Addr} {tc fg fc : Nat} {bA : Option Addr} {bc : Nat} {mv : Value} {sA : Option Addr} {sc : Nat} (h : WIn W base gb ib rb arr c t nc nt nf nb ns m bl sl ms room cA cc tA tc fg fc bA bc mv sA sc) (q : Nat) : WIn (W.drewN q) base gb ib rb arr c t nc nt nf nb ns m bl sl ms room cA cc tA tc fg fc bA bc mv sA sc := h
theorem WIn.drew {W : World} {base gb ib rb : Nat} {arr : Array Value} {c : Value} {t : Th} {nc nt nf nb ns m : Nat} {bl sl : List (Int × Int)} {ms : List Value} {room : Int} {cA : Option Addr} {cc : Nat} {tA : Option Addr} {tc fg fc : Nat} {bA : Option Addr} {bc : Nat} {mv : Value} {sA : Option Addr} {sc : Nat} (h : WIn W base gb ib rb arr c t nc nt nf nb ns m bl sl ms room cA cc tA tc fg fc bA bc mv sA sc) : WIn W.drew base gb ib rb arr c t nc nt nf nb ns m bl sl ms room cA cc tA tc fg fc bA bc mv sA sc := h

theorem WIn.addT {W : World} {base gb ib rb : Nat} {arr : Array Value} {c : Value} {t : Th} {nc nt nf nb ns m : Nat} {bl sl : List (Int × Int)} {ms : List Value} {room : Int} {cA : Option Addr} {cc : Nat} {tA : Option Addr} {tc fg fc : Nat} {bA : Option Addr} {bc : Nat} {mv : Value} {sA : Option Addr} {sc : Nat} {W' : World} {tA' : Option Addr} {tc' : Nat} (h : WIn W base gb ib rb arr c t nc nt nf nb ns m bl sl ms room cA cc tA tc fg fc bA bc mv sA sc) (hr : W'.ownsRow base 25 10 (.slice tA' (nt + 1 + 1) tc') (nt + 1 + 1) ((t :: List.replicate (nt + 1) thB).flatMap Th.cells)) (hg : W.grownBy W' (Value.slice tA (nt + 1) tc).ownBlock) : WIn (W'.setCell ⟨gb, 1, none⟩ (.slice tA' (nt + 1 + 1) tc')) base gb ib rb arr c t nc (nt + 1) nf nb ns m bl sl ms room cA cc tA' tc' fg fc bA bc mv sA sc := by
  obtain ⟨h1, h2, h3, hne, r1, r2, r3, r4, r5, r6⟩ := h
  have hgs := set_only (w := W') (g := gb) (j := 1) (.slice tA' (nt + 1 + 1) tc')
  have b1 := h1.grown hg (row_ne h1 r2 (by decide))
  have b2 := h2.grown hg (row_ne h2 r2 (by decide))
  have b3 := h3.grown hg (row_ne h3 r2 (by decide))
  have kp : ∀ {e : TypeId} {size n : Nat} {v : Value} {xs : List Value}, W.ownsRow base e size v n xs → e ≠ 25 ∧ 40 ≠ e → (W'.setCell ⟨gb, 1, none⟩ (.slice tA' (nt + 1 + 1) tc')).ownsRow base e size v n xs := fun h hn =>
    row_grown (own_apart h r2 hn.1 hg) hgs (row_ne b1 (own_apart h r2 hn.1 hg) hn.2)
  have k0 := row_grown hr hgs (row_ne b1 hr (by decide))
  exact ⟨b1.set_ 1 _, b2.far (h2.ne h1 (by decide)) _, b3.far (Ne.symm hne) _, hne, kp r1 (by decide), k0, kp r3 (by decide), kp r4 (by decide), kp r5 (by decide), kp r6 (by decide)⟩

theorem WIn.addC {W : World} {base gb ib rb : Nat} {arr : Array Value} {c : Value} {t : Th} {nc nt nf nb ns m : Nat} {bl sl : List (Int × Int)} {ms : List Value} {room : Int} {cA : Option Addr} {cc : Nat} {tA : Option Addr} {tc fg fc : Nat} {bA : Option Addr} {bc : Nat} {mv : Value} {sA : Option Addr} {sc : Nat} {W' : World} {cA' : Option Addr} {cc' : Nat} (h : WIn W base gb ib rb arr c t nc nt nf nb ns m bl sl ms room cA cc tA tc fg fc bA bc mv sA sc) (hr : W'.ownsRow base 26 1 (.slice cA' (nc + 1 + 1) cc') (nc + 1 + 1) (c :: List.replicate (nc + 1) (.slice none 0 0))) (hg : W.grownBy W' (Value.slice cA (nc + 1) cc).ownBlock) : WIn (W'.setCell ⟨gb, 0, none⟩ (.slice cA' (nc + 1 + 1) cc')) base gb ib rb arr c t (nc + 1) nt nf nb ns m bl sl ms room cA' cc' tA tc fg fc bA bc mv sA sc := by
  obtain ⟨h1, h2, h3, hne, r1, r2, r3, r4, r5, r6⟩ := h
  have hgs := set_only (w := W') (g := gb) (j := 0) (.slice cA' (nc + 1 + 1) cc')
  have b1 := h1.grown hg (row_ne h1 r1 (by decide))
  have b2 := h2.grown hg (row_ne h2 r1 (by decide))
  have b3 := h3.grown hg (row_ne h3 r1 (by decide))
  have kp : ∀ {e : TypeId} {size n : Nat} {v : Value} {xs : List Value}, W.ownsRow base e size v n xs → e ≠ 26 ∧ 40 ≠ e → (W'.setCell ⟨gb, 0, none⟩ (.slice cA' (nc + 1 + 1) cc')).ownsRow base e size v n xs := fun h hn =>
    row_grown (own_apart h r1 hn.1 hg) hgs (row_ne b1 (own_apart h r1 hn.1 hg) hn.2)
  have k0 := row_grown hr hgs (row_ne b1 hr (by decide))
  exact ⟨b1.set_ 0 _, b2.far (h2.ne h1 (by decide)) _, b3.far (Ne.symm hne) _, hne, k0, kp r2 (by decide), kp r3 (by decide), kp r4 (by decide), kp r5 (by decide), kp r6 (by decide)⟩

theorem WIn.addF {W : World} {base gb ib rb : Nat} {arr : Array Value} {c : Value} {t : Th} {nc nt nf nb ns m : Nat} {bl sl : List (Int × Int)} {ms : List Value} {room : Int} {cA : Option Addr} {cc : Nat} {tA : Option Addr} {tc fg fc : Nat} {bA : Option Addr} {bc : Nat} {mv : Value} {sA : Option Addr} {sc : Nat} {W' : World} {fg' fc' : Nat} (h : WIn W base gb ib rb arr c t nc nt nf nb ns m bl sl ms room cA cc tA tc fg fc bA bc mv sA sc) (hr : W'.ownsRow base 27 1 (.slice (some ⟨fg', 0, none⟩) (nf + 1 + 1) fc') (nf + 1 + 1) (.slice bA nb bc :: List.replicate (nf + 1) (.slice none 0 0))) (hg : W.grownBy W' (Value.slice (some ⟨fg, 0, none⟩) (nf + 1) fc).ownBlock) : WIn (W'.setCell ⟨gb, 2, none⟩ (.slice (some ⟨fg', 0, none⟩) (nf + 1 + 1) fc')) base gb ib rb arr c t nc nt (nf + 1) nb ns m bl sl ms room cA cc tA tc fg' fc' bA bc mv sA sc := by
  obtain ⟨h1, h2, h3, hne, r1, r2, r3, r4, r5, r6⟩ := h
  have hgs := set_only (w := W') (g := gb) (j := 2) (.slice (some ⟨fg', 0, none⟩) (nf + 1 + 1) fc')
  have b1 := h1.grown hg (row_ne h1 r3 (by decide))
  have b2 := h2.grown hg (row_ne h2 r3 (by decide))
  have b3 := h3.grown hg (row_ne h3 r3 (by decide))
  have kp : ∀ {e : TypeId} {size n : Nat} {v : Value} {xs : List Value}, W.ownsRow base e size v n xs → e ≠ 27 ∧ 40 ≠ e → (W'.setCell ⟨gb, 2, none⟩ (.slice (some ⟨fg', 0, none⟩) (nf + 1 + 1) fc')).ownsRow base e size v n xs := fun h hn =>
    row_grown (own_apart h r3 hn.1 hg) hgs (row_ne b1 (own_apart h r3 hn.1 hg) hn.2)
  have k0 := row_grown hr hgs (row_ne b1 hr (by decide))
  exact ⟨b1.set_ 2 _, b2.far (h2.ne h1 (by decide)) _, b3.far (Ne.symm hne) _, hne, kp r1 (by decide), kp r2 (by decide), k0, kp r4 (by decide), kp r5 (by decide), kp r6 (by decide)⟩

theorem WIn.addS {W : World} {base gb ib rb : Nat} {arr : Array Value} {c : Value} {t : Th} {nc nt nf nb ns m : Nat} {bl sl : List (Int × Int)} {ms : List Value} {room : Int} {cA : Option Addr} {cc : Nat} {tA : Option Addr} {tc fg fc : Nat} {bA : Option Addr} {bc : Nat} {mv : Value} {sA : Option Addr} {sc : Nat} {W' : World} {sA' : Option Addr} {sc' : Nat} {x : Int × Int} (h : WIn W base gb ib rb arr c t nc nt nf nb ns m bl sl ms room cA cc tA tc fg fc bA bc mv sA sc) (hr : W'.ownsRow base 98 2 (.slice sA' (ns + 1) sc') (ns + 1) ((sl ++ [x]).flatMap slpc)) (hg : W.grownBy W' (Value.slice sA ns sc).ownBlock) : WIn (W'.setCell ⟨gb, 5, none⟩ (.slice sA' (ns + 1) sc')) base gb ib rb arr c t nc nt nf nb (ns + 1) m bl (sl ++ [x]) ms room cA cc tA tc fg fc bA bc mv sA' sc' := by
  obtain ⟨h1, h2, h3, hne, r1, r2, r3, r4, r5, r6⟩ := h
  have hgs := set_only (w := W') (g := gb) (j := 5) (.slice sA' (ns + 1) sc')
  have b1 := h1.grown hg (row_ne h1 r6 (by decide))
  have b2 := h2.grown hg (row_ne h2 r6 (by decide))
  have b3 := h3.grown hg (row_ne h3 r6 (by decide))
  have kp : ∀ {e : TypeId} {size n : Nat} {v : Value} {xs : List Value}, W.ownsRow base e size v n xs → e ≠ 98 ∧ 40 ≠ e → (W'.setCell ⟨gb, 5, none⟩ (.slice sA' (ns + 1) sc')).ownsRow base e size v n xs := fun h hn =>
    row_grown (own_apart h r6 hn.1 hg) hgs (row_ne b1 (own_apart h r6 hn.1 hg) hn.2)
  have k0 := row_grown hr hgs (row_ne b1 hr (by decide))
  exact ⟨b1.set_ 5 _, b2.far (h2.ne h1 (by decide)) _, b3.far (Ne.symm hne) _, hne, kp r1 (by decide), kp r2 (by decide), kp r3 (by decide), kp r4 (by decide), kp r5 (by decide), k0⟩

theorem WIn.addB {W : World} {base gb ib rb : Nat} {arr : Array Value} {c : Value} {t : Th} {nc nt nf nb ns m : Nat} {bl sl : List (Int × Int)} {ms : List Value} {room : Int} {cA : Option Addr} {cc : Nat} {tA : Option Addr} {tc fg fc : Nat} {bA : Option Addr} {bc : Nat} {mv : Value} {sA : Option Addr} {sc : Nat} {W' : World} {bA' : Option Addr} {bc' : Nat} {x : Int × Int} (h : WIn W base gb ib rb arr c t nc nt nf nb ns m bl sl ms room cA cc tA tc fg fc bA bc mv sA sc) (hr : W'.ownsRow base 96 2 (.slice bA' (nb + 1) bc') (nb + 1) ((bl ++ [x]).flatMap entc)) (hg : W.grownBy W' (Value.slice bA nb bc).ownBlock) :
    WIn (W'.setCell ⟨fg, 0, none⟩ (.slice bA' (nb + 1) bc')) base gb ib rb arr c t nc nt nf (nb + 1) ns m (bl ++ [x]) sl ms room cA cc tA tc fg fc bA' bc' mv sA sc := by
  obtain ⟨h1, h2, h3, hne, r1, r2, r3, r4, r5, r6⟩ := h
  have b1 := h1.grown hg (row_ne h1 r4 (by decide))
  have b2 := h2.grown hg (row_ne h2 r4 (by decide))
  have b3 := h3.grown hg (row_ne h3 r4 (by decide))
  obtain ⟨g, cap, e, _, _, ⟨cur, hb⟩, _, hrow, hgs⟩ := row_set (own_apart r3 r4 (by decide) hg) (i := 0) (by omega) (.slice bA' (nb + 1) bc')
  injection e with e _ e3
  injection e with e
  injection e with e _ _
  subst e e3
  have kp : ∀ {e : TypeId} {size n : Nat} {v : Value} {xs : List Value}, W.ownsRow base e size v n xs → e ≠ 96 ∧ 27 ≠ e → (W'.setCell ⟨fg, 0, none⟩ (.slice bA' (nb + 1) bc')).ownsRow base e size v n xs := fun h hn =>
    row_grown (own_apart h r4 hn.1 hg) hgs (row_ne hb (own_apart h r4 hn.1 hg) hn.2)
  have k0 := row_grown hr hgs (row_ne hb hr (by decide))
  exact ⟨b1.far (b1.ne hb (by decide)) _, b2.far (b2.ne hb (by decide)) _, b3.far (b3.ne hb (by decide)) _, hne, kp r1 (by decide), kp r2 (by decide), hrow, k0, kp r5 (by decide), kp r6 (by decide)⟩
theorem WIn.f0 {W : World} {base gb ib rb : Nat} {arr : Array Value} {c : Value} {t : Th} {nc nt nf nb ns m : Nat} {bl sl : List (Int × Int)} {ms : List Value} {room : Int} {cA : Option Addr} {cc : Nat} {tA : Option Addr} {tc fg fc : Nat} {bA : Option Addr} {bc : Nat} {mv : Value} {sA : Option Addr} {sc : Nat} (h : WIn W base gb ib rb arr c t nc nt nf nb ns m bl sl ms room cA cc tA tc fg fc bA bc mv sA sc) : W.cell? ⟨fg, 0, none⟩ = some (.slice bA nb bc) ∧ W.frozen? ⟨fg, 0, none⟩ = false := by
  obtain ⟨h1, h2, h3, hne, r1, r2, r3, r4, r5, r6⟩ := h
  obtain ⟨g, cap, e, _, _, ⟨cur, hb⟩, hc, _, _⟩ := row_set r3 (i := 0) (by omega) (.slice none 0 0)
  injection e with e _ e3
  injection e with e
  injection e with e _ _
  subst e e3
  exact ⟨hc _ rfl, hb.frozen 0⟩
/-- Cells put into the midst of an owned row. -/
theorem own_putW {w : World} {base g len cap s : Nat} {e : TypeId} {xs news : List Value} {p : Nat} (h : w.ownsRow base e s (.slice (some ⟨g, 0, none⟩) len cap) len xs) (hp : p + news.length ≤ len * s) :
    (w.setCells g p news).ownsRow base e s (.slice (some ⟨g, 0, none⟩) len cap) len (xs.take p ++ news ++ xs.drop (p + news.length)) ∧ w.grownBy (w.setCells g p news) (some g) := by
  obtain ⟨h1, h2⟩ := h
  rcases h2 with ⟨h', _⟩ | ⟨g', cap', cur, h', hb, hg, hnc, hcm, hcs, htake⟩
  · simp at h'
  · simp only [Value.slice.injEq, Option.some.injEq, Addr.mk.injEq, and_true, true_and] at h'
    obtain ⟨rfl, rfl⟩ := h'
    have hls : len * s ≤ cap * s := Nat.mul_le_mul_right _ hnc
    obtain ⟨cs', q1, q2, q3, q4, q5⟩ := setCells_row g e news p w cur hg (by rw [hcs]; omega)
    refine ⟨⟨by simp [h1]; omega, .inr ⟨g, cap, cs', rfl, hb, q1, hnc, hcm, by omega, ?_⟩⟩, q5⟩
    apply List.ext_getElem?
    intro k
    have hx : ∀ k, k < len * s → xs[k]? = cur.toList[k]? := fun k hk => by rw [← htake, List.getElem?_take_of_lt hk]
    by_cases hk : k < len * s
    · rw [List.getElem?_take_of_lt hk, Array.getElem?_toList]
      by_cases k1 : k < p
      · rw [q4 k (.inl k1), List.append_assoc, List.getElem?_append_left (by simp; omega), List.getElem?_take_of_lt k1, hx k hk, Array.getElem?_toList]
      · by_cases k2 : k < p + news.length
        · have := q3 (k - p) (by omega)
          rw [show p + (k - p) = k from by omega] at this
          rw [this, List.getElem?_append_left (by simp; omega), List.getElem?_append_right (by simp; omega)]
          congr 1
          simp
          omega
        · rw [q4 k (.inr (by omega)), List.getElem?_append_right (by simp; omega), List.getElem?_drop]
          have e1 : p + news.length + (k - (xs.take p ++ news).length) = k := by simp; omega
          rw [e1, hx k hk, Array.getElem?_toList]
    · rw [List.getElem?_eq_none (by simp; omega), List.getElem?_eq_none (by simp; omega)]
theorem own_there {w : World} {base g len cap s : Nat} {e : TypeId} {xs : List Value} {p k : Nat} (h : w.ownsRow base e s (.slice (some ⟨g, 0, none⟩) len cap) len xs) (hp : p + k ≤ len * s) : w.there g p k := by
  obtain ⟨h1, h2⟩ := h
  rcases h2 with ⟨h', _⟩ | ⟨g', cap', cur, h', hb, hg, hnc, hcm, hcs, htake⟩
  · simp at h'
  · simp only [Value.slice.injEq, Option.some.injEq, Addr.mk.injEq, and_true, true_and] at h'
    obtain ⟨rfl, rfl⟩ := h'
    have hls : len * s ≤ cap * s := Nat.mul_le_mul_right _ hnc
    exact Blk.there (show Blk w g e cur from hg) p k (by omega)
theorem own_some {w : World} {base len s : Nat} {e : TypeId} {v : Value} {xs : List Value} (h : w.ownsRow base e s v len xs) (hl : 0 < len) : ∃ g cap, v = .slice (some ⟨g, 0, none⟩) len cap ∧ base ≤ g ∧ g < w.heap.size ∧ len ≤ cap := by
  rcases h.2 with ⟨_, h0⟩ | ⟨g, cap, cur, rfl, hg, hh, hc, _⟩
  · omega
  · refine ⟨g, cap, rfl, hg, ?_, hc⟩
    rcases Nat.lt_or_ge g w.heap.size with hlt | hge
    · exact hlt
    · rw [Array.getElem?_eq_none hge] at hh; cases hh
theorem WIn.setT {W : World} {base gb ib rb : Nat} {arr : Array Value} {c : Value} {t : Th} {nc nt nf nb ns m : Nat} {bl sl : List (Int × Int)} {ms : List Value} {room : Int} {cA : Option Addr} {cc : Nat} {tA : Option Addr} {tc fg fc : Nat} {bA : Option Addr} {bc : Nat} {mv : Value} {sA : Option Addr} {sc : Nat} {tg : Nat} {t' : Th} (h : WIn W base gb ib rb arr c t nc 0 nf nb ns m bl sl ms room cA cc (some ⟨tg, 0, none⟩) tc fg fc bA bc mv sA sc) : WIn (W.setCells tg 0 t'.cells) base gb ib rb arr c t' nc 0 nf nb ns m bl sl ms room cA cc (some ⟨tg, 0, none⟩) tc fg fc bA bc mv sA sc ∧ W.grownBy (W.setCells tg 0 t'.cells) (some tg) := by
  obtain ⟨h1, h2, h3, hne, r1, r2, r3, r4, r5, r6⟩ := h
  have hg := (row_ne h1 r2 (by decide))
  obtain ⟨k0, hgs⟩ := own_putW (p := 0) (news := t'.cells) r2 (by rw [th_len]; decide)
  refine ⟨⟨h1.grown hgs (row_ne h1 r2 (by decide)), h2.grown hgs (row_ne h2 r2 (by decide)), h3.grown hgs (row_ne h3 r2 (by decide)), hne, own_apart r1 r2 (by decide) hgs, ?_, own_apart r3 r2 (by decide) hgs, own_apart r4 r2 (by decide) hgs, own_apart r5 r2 (by decide) hgs, own_apart r6 r2 (by decide) hgs⟩, hgs⟩
  exact k0
end Go.Proofs.YtjmnogpnjombgaaDoor
