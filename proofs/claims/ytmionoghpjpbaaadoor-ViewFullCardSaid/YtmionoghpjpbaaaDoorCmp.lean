/-
  keys.Cmp and the comparison of keys.Sorted.
-/
import Derived.Test.YtmionoghpjpbaaaDoorRunes
import Derived.Test.YtmionoghpjpbaaaDoorOrder
import Derived.Shelf.Small.Strs
namespace Go.Proofs.YtmionoghpjpbaaaDoor
open Go.RowKit Go.Proofs.YtmionoghpjpbaaaDoorW.PrintWords Go.Proofs.YtmionoghpjpbaaaDoorW.PrintLast Go.Proofs.YtmionoghpjpbaaaDoorW.PrintMore
open Go.Proofs.YtmionoghpjpbaaaDoorM
set_option linter.unusedVariables false
set_option linter.unusedSimpArgs false

theorem cmpRune (a b : Int) : Pr.cmp_Compare_rune.f a b = some (if a < b then -1 else if b < a then 1 else 0) := by
  have h : ∀ x, Pr.cmp_isNaN_rune.f x = some false := fun x => by simp [Pr.cmp_isNaN_rune.f]
  unfold Pr.cmp_Compare_rune.f
  rw [h, h]
  simp only [Option.bind_some]
  rw [if_neg (by simp), if_neg (by simp)]
  split
  · rfl
  · split
    · rfl
    · rfl

theorem cmpSlices_at (x y : List Int) (hx : x.length ≤ 1000000000) : ∀ (d : Nat) (i : Nat), i + d = x.length → Pr.slices_Compare_rune_rune.l0 (d + 1) x y x (x.length : Int) i = some (cmpL (x.drop i) (y.drop i)) ∨ y.length < i
  | 0, i, h => by
    by_cases hy : y.length < i
    · exact .inr hy
    · refine .inl ?_
      unfold Pr.slices_Compare_rune_rune.l0
      rw [if_neg (by omega), List.drop_eq_nil_of_le (by omega : x.length ≤ i)]
      by_cases hl : x.length < y.length
      · rw [if_pos (by omega), List.drop_eq_getElem_cons (by omega : i < y.length)]
        rfl
      · rw [if_neg (by omega), List.drop_eq_nil_of_le (by omega : y.length ≤ i)]
        rfl
  | d + 1, i, h => by
    by_cases hy : y.length < i
    · exact .inr hy
    · refine .inl ?_
      unfold Pr.slices_Compare_rune_rune.l0
      have hix : i < x.length := by omega
      rw [if_pos (by omega), if_pos (by omega), if_pos (by omega), List.drop_eq_getElem_cons hix]
      by_cases hl : y.length ≤ i
      · rw [if_pos (by omega), List.drop_eq_nil_of_le hl]
        rfl
      · have hiy : i < y.length := by omega
        rw [if_neg (by omega), if_pos (by omega), cmpRune, List.drop_eq_getElem_cons hiy]
        have e1 : rd x (i : Int) = x[i] := by simp [rd, List.getD_eq_getElem?_getD, List.getElem?_eq_getElem hix]
        have e2 : rd y (i : Int) = y[i] := by simp [rd, List.getD_eq_getElem?_getD, List.getElem?_eq_getElem hiy]
        rw [e1, e2]
        simp only [Option.bind_some, cmpL, lexC]
        by_cases h1 : x[i] < y[i]
        · rw [if_pos h1, if_neg (by omega), if_pos h1]
        · by_cases h2 : y[i] < x[i]
          · rw [if_neg h1, if_pos h2, if_neg (by omega), if_neg h1, if_pos h2]
          · rw [if_neg h1, if_neg h2, if_pos rfl, if_neg h1, if_neg h2]
            have ew : wrap64 ((i : Int) + 1) = ((i + 1 : Nat) : Int) := by unfold wrap64; omega
            rw [ew]
            rcases cmpSlices_at x y hx d (i + 1) (by omega) with h3 | h3
            · exact h3
            · omega

theorem cmpSlices (x y : List Int) (hx : x.length ≤ 1000000000) : Pr.slices_Compare_rune_rune.f (x.length + 1) x y = some (cmpL x y) := by
  rcases cmpSlices_at x y hx x.length 0 (by omega) with h | h
  · simpa [Pr.slices_Compare_rune_rune.f] using h
  · omega

theorem runesOf_le (s : ByteArray) : (runesOf s).length ≤ s.size := runesFrom_len s s.size 0

theorem drawn_le {w w' : World} (h : Drawn0 w w') : w.drawn ≤ w'.drawn := by
  obtain ⟨n, rfl⟩ := h.out
  exact Nat.le_add_right _ _

set_option maxHeartbeats 1000000 in
set_option maxRecDepth 100000 in
theorem keysCmp_any (a b : ByteArray) (ha : a.size ≤ 1000000000) (hb : b.size ≤ 1000000000) (w : World) : Calls Tryd.prog 109 #[.string a, .string b] w fun e w' =>
    e = .returned (.int .i64 (cmpL (runesOf a) (runesOf b))) ∧ Below w.heap.size w w' ∧ w.drawn ≤ w'.drawn := by
  have HA := Aside0.mk ha
  have HB := Aside0.mk hb
  clear ha hb
  go_enter Tryd.func109, Tryd.ntmps109
  go_wp2_with fail
  refine (runes_any a HA.out _).mono ?_
  rintro e w1 ⟨v1, rfl, ho1, hb1, hd1⟩
  have H1 := Aside0.mk (And.intro ho1 (And.intro hb1 hd1))
  clear ho1 hb1 hd1
  go_wp2_with fail
  refine (runes_any b HB.out _).mono ?_
  rintro e w2 ⟨v2, rfl, ho2, hb2, hd2⟩
  have R1 : Kd.R (Kd.int .i32) 21 w2 w.heap.size (fun _ => True) v1 (runesOf a) := Kd.R_of_own (pw_own_below H1.out.1 hb2) (fun _ _ => trivial)
  have R2 : Kd.R (Kd.int .i32) 21 w2 w1.heap.size (fun _ => True) v2 (runesOf b) := Kd.R_of_own ho2 (fun _ _ => trivial)
  obtain ⟨A1, c1, rfl, hc1, hr1⟩ := Kd.R_reads R1
  obtain ⟨A2, c2, rfl, hc2, hr2⟩ := Kd.R_reads R2
  have H2 : Aside0 (Below w.heap.size w w2 ∧ w.drawn ≤ w2.drawn) := ⟨below_then H1.out.2.1 (below_size H1.out.2.1) hb2, Nat.le_trans H1.out.2.2 hd2⟩
  have HC1 := Aside0.mk (And.intro hc1 hr1)
  have HC2 := Aside0.mk (And.intro hc2 hr2)
  clear hc1 hr1 hc2 hr2 R1 R2 ho2 hb2 hd2 H1
  go_wp2_with fail
  refine (Pr.slices_Compare_rune_rune.calls ((runesOf a).length + 1) A1 c1 (runesOf a) A2 c2 (runesOf b) (cmpL (runesOf a) (runesOf b)) w2 HC1.out.2 HC1.out.1 HC2.out.2 HC2.out.1 (cmpSlices _ _ (by have := runesOf_le a; have := HA.out; omega))).mono ?_
  rintro e w3 ⟨rfl, hd⟩
  have HD := Aside0.mk hd
  clear hd
  go_wp2_with fail
  go_ret
  exact ⟨rfl, below_then H2.out.1 (below_size H2.out.1) HD.out.below, Nat.le_trans H2.out.2 (drawn_le HD.out)⟩

set_option maxHeartbeats 1000000 in
set_option maxRecDepth 100000 in
/-- The comparison: what the closure answers; nothing that was there turns. -/
theorem sortedCmp_any (hcmp : ∀ (a b : ByteArray) (w : World), Calls Tryd.prog 110 #[.string a, .string b] w fun e w' => e = .returned (.int .i64 (Lib.compareBytes a.data.toList b.data.toList)) ∧ w' = w)
    (a b : ByteArray) (ha : a.size ≤ 1000000000) (hb : b.size ≤ 1000000000) (w : World) : Calls Tryd.prog 108 #[.string a, .string b] w fun e w' =>
    e = .returned (.int .i64 (cmpF a b)) ∧ Below w.heap.size w w' ∧ w.drawn ≤ w'.drawn := by
  have HC := Aside0.mk (hcmp a b)
  have HA := Aside0.mk ha
  have HB := Aside0.mk hb
  clear ha hb hcmp
  by_cases h0 : cmpL (runesOf a) (runesOf b) = 0
  · have e1 : cmpF a b = Lib.compareBytes a.data.toList b.data.toList := by unfold cmpF; rw [if_pos h0]
    rw [e1]
    have H0 := Aside0.mk h0
    clear h0 e1
    go_enter Tryd.func108, Tryd.ntmps108
    go_wp2_with fail
    refine (keysCmp_any a b HA.out HB.out _).mono ?_
    rintro e w1 ⟨rfl, hb1, hd1⟩
    rw [H0.out]
    have H1 := Aside0.mk (And.intro hb1 hd1)
    clear hb1 hd1
    go_wp2_with fail
    refine (HC.out _).mono ?_
    rintro e w2 ⟨rfl, rfl⟩
    go_wp2_with fail
    go_ret
    exact ⟨rfl, H1.out.1, H1.out.2⟩
  · have e1 : cmpF a b = cmpL (runesOf a) (runesOf b) := by unfold cmpF; rw [if_neg h0]
    rw [e1]
    have hne : (cmpL (runesOf a) (runesOf b) != 0) = true := by rw [bne_iff_ne]; exact h0
    clear e1 h0
    go_enter Tryd.func108, Tryd.ntmps108
    go_wp2_with fail
    refine (keysCmp_any a b HA.out HB.out _).mono ?_
    rintro e w1 ⟨rfl, hb1, hd1⟩
    have H1 := Aside0.mk (And.intro hb1 hd1)
    clear hb1 hd1
    go_wp2_with fail
    go_ret
    exact ⟨rfl, H1.out.1, H1.out.2⟩

end Go.Proofs.YtmionoghpjpbaaaDoor
