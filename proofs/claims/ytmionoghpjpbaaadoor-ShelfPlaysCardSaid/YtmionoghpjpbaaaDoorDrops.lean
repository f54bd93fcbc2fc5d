/-
  The law ShelfDrops: it returns true.
-/
import Derived.Test.YtmionoghpjpbaaaDoorMade
namespace Go.Proofs.YtmionoghpjpbaaaDoor
open Go.RowKit Go.Proofs.YtmionoghpjpbaaaDoorW.PrintWords Go.Proofs.YtmionoghpjpbaaaDoorW.PrintLast Go.Proofs.YtmionoghpjpbaaaDoorW.PrintMore
open Go.Proofs.YtmionoghpjpbaaaDoorM
set_option linter.unusedVariables false
set_option linter.unusedSimpArgs false
attribute [local go_sem] max2_int min2_int max_two min_two
attribute [local go_sem high] eqvCell

/-! ### plain -/
theorem dropsC_get : ∀ (out : List ByteArray) (s : ShS) (k : ByteArray), (k ∈ out → (dropsC s out).1 k = none) ∧ (k ∉ out → (dropsC s out).1 k = s.1 k)
  | [], s, k => ⟨fun h => absurd h (List.not_mem_nil), fun _ => rfl⟩
  | x :: out, s, k => by
    obtain ⟨i1, i2⟩ := dropsC_get out (del s.1 x, delN s.1 x s.2) k
    have e : dropsC s (x :: out) = dropsC (del s.1 x, delN s.1 x s.2) out := rfl
    rw [e]
    constructor
    · intro h
      by_cases h1 : k ∈ out
      · exact i1 h1
      · rcases List.mem_cons.1 h with h2 | h2
        · rw [i2 h1]; simp [del, h2]
        · exact absurd h2 h1
    · intro h
      rw [List.mem_cons, not_or] at h
      rw [i2 h.2]
      simp [del, h.1]
theorem dropsC_num : ∀ (out : List ByteArray) (s : ShS), out.Nodup → (∀ k ∈ out, (s.1 k).isSome = true) → out.length ≤ s.2 → (dropsC s out).2 + out.length = s.2
  | [], s, _, _, _ => by simp [dropsC]
  | x :: out, s, hn, h, hl => by
    obtain ⟨h1, h2⟩ := List.nodup_cons.1 hn
    have hx := h x (by simp)
    have e : dropsC s (x :: out) = dropsC (del s.1 x, delN s.1 x s.2) out := rfl
    have hd : delN s.1 x s.2 = s.2 - 1 := by unfold delN; rw [if_pos hx]
    simp only [List.length_cons] at hl ⊢
    have ih := dropsC_num out (del s.1 x, delN s.1 x s.2) h2 (fun k hk => by
      have : k ≠ x := fun e => h1 (e ▸ hk)
      simp only [del, if_neg this]
      exact h k (List.mem_cons_of_mem _ hk)) (by simp only [hd]; omega)
    rw [hd] at ih
    rw [e, hd]
    simp only at ih
    omega
theorem pickN_small (i : Nat) (h : i < 12) : pickN (i : Int) = i := by
  have : ∀ i : Fin 12, pickN ((i.val : Nat) : Int) = i.val := by decide
  exact this ⟨i, h⟩
theorem nameL_nodup : nameL.Nodup := by decide
/-- How many of the first i names are so. -/
def countN (p : ByteArray → Bool) (i : Nat) : Nat := ((nameL.take i).filter p).length
theorem countN_succ (p : ByteArray → Bool) (i : Nat) (h : i < 12) : countN p (i + 1) = countN p i + (if p (nameAt i) then 1 else 0) := by
  unfold countN
  have hl : i < nameL.length := h
  have e : nameAt i = nameL[i] := by unfold nameAt; rw [List.getD_eq_getElem?_getD, List.getElem?_eq_getElem hl]; rfl
  rw [List.take_succ_eq_append_getElem hl, List.filter_append, List.length_append, e]
  by_cases hp : p nameL[i]
  · simp [hp]
  · simp [hp]
theorem countN_le (p : ByteArray → Bool) (i : Nat) : countN p i ≤ i := by
  unfold countN
  exact Nat.le_trans (List.length_filter_le _ _) (by rw [List.length_take]; omega)
/-- A list without doubles of just the names that are so has as many. -/
theorem countN_all (p : ByteArray → Bool) (out : List ByteArray) (hn : out.Nodup) (h : ∀ k, k ∈ out ↔ k ∈ nameL ∧ p k = true) : out.length = countN p 12 := by
  have e : countN p 12 = (nameL.filter p).length := by unfold countN; rw [List.take_of_length_le (by simp [nameL])]
  rw [e]
  have a := nodup_le out (nameL.filter p) hn fun k hk => List.mem_filter.2 ((h k).1 hk)
  have b := nodup_le (nameL.filter p) out (nameL_nodup.filter _) fun k hk => (h k).2 (List.mem_filter.1 hk)
  omega

theorem box_left' {w W : World} {cs : Array Value} {e : TypeId} (h : Below (w.alloc (.cells cs e)).heap.size (w.alloc (.cells cs e)) W) : W.heap[w.heap.size]? = some (.cells cs e (0, 0)) := by
  have h1 : (w.alloc (.cells cs e)).heap[w.heap.size]? = some (.cells cs e (0, 0)) := heap_alloc_new w _
  exact (h.block _ (Array.getElem?_eq_some_iff.1 h1).1).trans h1
def isOut (f : ByteArray → Option Cell) (seq from_ : Int) (k : ByteArray) : Bool := match f k with | some c => outP seq from_ c | none => false

set_option maxHeartbeats 8000000 in
set_option maxRecDepth 100000 in
theorem shelfDrops_any (A : Option Addr) (c : Nat) (l : List (List Raw)) (seq from_ : Int) (h0s : 0 ≤ seq) (h0f : 0 ≤ from_) (w : World) (hN : Names w) (hC : Kd.C kRows w A l.length l) (hs : ∀ r ∈ l, ∀ x ∈ r, x.f2.size ≤ 4611686018427387904) :
    Calls Tryd.prog 6 #[.slice A l.length c, .int .u32 seq, .int .u32 from_] w fun e w' => e = .returned (.bool true) ∧ Below w.heap.size w w' := by
  have HC := Aside0.mk hC
  have HN := Aside0.mk hN
  have HS := Aside0.mk hs
  clear hC hs hN
  go_enter Tryd.func6, Tryd.ntmps6
  go_wp2_with fail
  refine (made_any A c l w HN.out HC.out HS.out).mono ?_
  rintro e w1 ⟨s, rfl, hA, hM, hb⟩
  have HM := Aside0.mk hM
  have HA := Aside0.mk hA
  have HB1 := Aside0.mk hb
  have HN1 : Aside0 (Names w1) := ⟨HN.out.below hb HN.out.lt⟩
  have HC1 : Aside0 (Kd.C kRows w1 A l.length l) := ⟨Kd.C_below HC.out hb⟩
  clear hA hM hb
  go_wp2_with fail
  refine (made_any A c l w1 HN1.out HC1.out HS.out).mono ?_
  rintro e w2 ⟨s', rfl, hA, hM, hb⟩
  obtain rfl := hM.unique HM.out
  have HA2 : Aside0 (ShelfIs w2 (w.heap.size + 1) w.heap.size s'.2 s'.1 ∧ ShelfIs w2 (w1.heap.size + 1) w1.heap.size s'.2 s'.1) := ⟨HA.out.below hb, hA⟩
  have HB2 : Aside0 (Below w.heap.size w w2) := ⟨below_then HB1.out HB1.out.size hb⟩
  have HG := Aside0.mk hM.good
  have HLT : Aside0 (w.heap.size + 1 < w1.heap.size) := ⟨HA.out.lt⟩
  clear hA hM hb HA HM
  go_wp2_with fail
  refine (alive15_any _).mono ?_
  rintro e w3 ⟨rfl, hb⟩
  have HA3 : Aside0 (ShelfIs w3 (w.heap.size + 1) w.heap.size s'.2 s'.1 ∧ ShelfIs w3 (w1.heap.size + 1) w1.heap.size s'.2 s'.1) := ⟨HA2.out.1.below hb, HA2.out.2.below hb⟩
  have HB3 : Aside0 (Below w.heap.size w w3) := ⟨below_then HB2.out HB2.out.size hb⟩
  clear hb HA2 HB2
  go_wp2_with fail
  obtain ⟨sq, hsq⟩ : ∃ sq : Int, Aside0 (seq % 22 = sq) := ⟨_, ⟨rfl⟩⟩
  obtain ⟨fr, hfr⟩ : ∃ fr : Int, Aside0 (from_ % 22 = fr) := ⟨_, ⟨rfl⟩⟩
  rw [hsq.out, hfr.out]
  have HSZ : Aside0 (∀ k, (s'.1 k).isSome = true → k.size ≤ 1000000000) := ⟨fun k hk => Nat.le_trans (HG.out.small k hk) (by omega)⟩
  refine (shelfDrop_any w3 (w.heap.size + 1) w.heap.size s'.2 s'.1 sq fr HA3.out.1 (by have := HG.out.le; omega) HSZ.out).mono ?_
  rintro e w4 ⟨v9, out, rfl, hR, hri, hm, hA, hg⟩
  obtain ⟨A9, c9, rfl⟩ := Kd.R_slice hR
  have HO := Aside0.mk (And.intro hri hm)
  have HA4 : Aside0 (ShelfIs w4 (w.heap.size + 1) w.heap.size (dropsC s' out).2 (dropsC s' out).1 ∧ ShelfIs w4 (w1.heap.size + 1) w1.heap.size s'.2 s'.1) := ⟨hA, HA3.out.2.kept hg (fun e => by injection e with e; have := HLT.out; omega) (fun e => by injection e with e; have := HLT.out; omega)⟩
  have HB4 : Aside0 (Below w.heap.size w w4) := ⟨HB3.out.grown hg HB3.out.size (fun k hk => by cases hk; exact Nat.le_refl _)⟩
  clear hR hri hm hA hg HA3 HB3
  go_wp2
  go_loopg [10, 11] 12 (fun kq v10 v11 w' => ∃ (i : Nat), v11 = .int .i64 i ∧ v10 = .int .i64 (countN (isOut s'.1 sq fr) i : Nat) ∧ Aside0 (i + kq = 12) ∧ Aside0 (ShelfIs w' (w.heap.size + 1) w.heap.size (dropsC s' out).2 (dropsC s' out).1 ∧ ShelfIs w' (w1.heap.size + 1) w1.heap.size s'.2 s'.1) ∧ Aside0 (Below w.heap.size w w'))
  case atStart => exact ⟨0, rfl, rfl, ⟨rfl⟩, HA4, HB4⟩
  case round =>
    obtain ⟨i, rfl, rfl, HK, HAr, HB⟩ := hrel
    by_cases q : i < 12
    · have q' : (i : Int) < 12 := by omega
      obtain ⟨g1, rfl⟩ : ∃ g1, gk = g1 + 1 := ⟨gk - 1, by have := HK.out; omega⟩
      have HNr : Aside0 (Names wr) := ⟨HN.out.below HB.out HN.out.lt⟩
      go_wp2_with fail
      refine (handKey_any (i : Int) wr HNr.out).mono ?_
      rintro e w5 ⟨rfl, hb⟩
      have HKK : Aside0 (keyN (i : Int) = nameAt i ∧ (nameAt i).size ≤ maxLen) := ⟨by unfold keyN; rw [pickN_small i q], Nat.le_trans (nameAt_size i) (by simp [maxLen])⟩
      rw [HKK.out.1]
      have HA5 : Aside0 (ShelfIs w5 (w.heap.size + 1) w.heap.size (dropsC s' out).2 (dropsC s' out).1 ∧ ShelfIs w5 (w1.heap.size + 1) w1.heap.size s'.2 s'.1) := ⟨HAr.out.1.below hb, HAr.out.2.below hb⟩
      have HB5 : Aside0 (Below w.heap.size w w5) := ⟨below_then HB.out HB.out.size hb⟩
      clear hb HAr HB
      obtain ⟨k, hk⟩ : ∃ k, Aside0 (nameAt i = k) := ⟨_, ⟨rfl⟩⟩
      rw [hk.out] at HKK ⊢
      go_wp2_with fail
      refine (shelfGet_any w5 (w.heap.size + 1) w.heap.size _ _ k HA5.out.1 HKK.out.2).mono ?_
      rintro e w6 ⟨rfl, hb⟩
      have HA6 : Aside0 (ShelfIs w6 (w.heap.size + 1) w.heap.size (dropsC s' out).2 (dropsC s' out).1 ∧ ShelfIs w6 (w1.heap.size + 1) w1.heap.size s'.2 s'.1) := ⟨HA5.out.1.below hb, HA5.out.2.below hb⟩
      have HB6 : Aside0 (Below w.heap.size w w6) := ⟨below_then HB5.out HB5.out.size hb⟩
      clear hb HA5 HB5
      cases hf : s'.1 k with
      | none =>
        have HF : Aside0 ((dropsC s' out).1 k = none ∧ countN (isOut s'.1 sq fr) (i + 1) = countN (isOut s'.1 sq fr) i) := ⟨by
          rw [(dropsC_get out s' k).2 (fun h => by obtain ⟨c, hc, _⟩ := (HO.out.2 k).1 h; rw [hf] at hc; cases hc), hf], by
          rw [countN_succ _ i q, hk.out]; simp [isOut, hf]⟩
        have HFf := Aside0.mk hf
        clear hf
        rw [HF.out.1]
        rw [show eCell.enc ((none : Option Cell).getD zCell) = .agg #[.string ⟨#[]⟩, .int .u32 0, .int .u32 0] from rfl, show (none : Option Cell).isSome = false from rfl]
        go_wp2_with fail
        refine (shelfGet_any _ (w1.heap.size + 1) w1.heap.size _ _ k (HA6.out.2.alloc _) HKK.out.2).mono ?_
        rintro e w7 ⟨rfl, hb⟩
        rw [HFf.out]
        rw [show eCell.enc ((none : Option Cell).getD zCell) = .agg #[.string ⟨#[]⟩, .int .u32 0, .int .u32 0] from rfl, show (none : Option Cell).isSome = false from rfl]
        have HA7 : Aside0 (ShelfIs w7 (w.heap.size + 1) w.heap.size (dropsC s' out).2 (dropsC s' out).1 ∧ ShelfIs w7 (w1.heap.size + 1) w1.heap.size s'.2 s'.1) := ⟨(HA6.out.1.alloc _).below hb, (HA6.out.2.alloc _).below hb⟩
        have HB7 : Aside0 (Below w.heap.size w w7) := ⟨below_then (below_alloc HB6.out _) (below_size (below_alloc HB6.out _)) hb⟩
        clear hb HA6 HB6
        go_wp2
        go_roundg g1
        case measure => omega
        case rel => exact ⟨i + 1, rfl, by rw [HF.out.2], ⟨by have := HK.out; omega⟩, ⟨HA7.out.1.alloc _, HA7.out.2.alloc _⟩, ⟨below_alloc HB7.out _⟩⟩
      | some c =>
        by_cases ho : c.f1 ≤ sq ∨ c.f2 ≤ fr
        · have HP : Aside0 (outP sq fr c = true) := ⟨by unfold outP; simpa using ho⟩
          have HF : Aside0 ((dropsC s' out).1 k = none ∧ countN (isOut s'.1 sq fr) (i + 1) = countN (isOut s'.1 sq fr) i + 1) := ⟨
            (dropsC_get out s' k).1 ((HO.out.2 k).2 ⟨c, hf, HP.out⟩), by
            rw [countN_succ _ i q, hk.out]; simp [isOut, hf, HP.out]⟩
          have HFf := Aside0.mk hf
          clear hf
          rw [HF.out.1]
          rw [show eCell.enc ((none : Option Cell).getD zCell) = .agg #[.string ⟨#[]⟩, .int .u32 0, .int .u32 0] from rfl, show (none : Option Cell).isSome = false from rfl]
          have HCL : Aside0 (countN (isOut s'.1 sq fr) i ≤ 12) := ⟨by have := countN_le (isOut s'.1 sq fr) i; omega⟩
          obtain ⟨cn, hcn⟩ : ∃ cn, Aside0 (countN (isOut s'.1 sq fr) i = cn) := ⟨_, ⟨rfl⟩⟩
          rw [hcn.out] at HCL HF ⊢
          have hsplit : c.f1 ≤ sq ∨ (¬ c.f1 ≤ sq ∧ c.f2 ≤ fr) := by
            by_cases h : c.f1 ≤ sq
            · exact .inl h
            · exact .inr ⟨h, by rcases ho with h' | h'; exact absurd h' h; exact h'⟩
          clear ho
          rcases hsplit with h1 | ⟨h1, h2⟩
          all_goals
            go_wp2_with fail
            refine (shelfGet_any _ (w1.heap.size + 1) w1.heap.size _ _ k (HA6.out.2.alloc _) HKK.out.2).mono ?_
            rintro e w7 ⟨rfl, hb⟩
            rw [HFf.out]
            rw [show eCell.enc ((some c : Option Cell).getD zCell) = .agg #[.string c.f0, .int .u32 c.f1, .int .u32 c.f2] from rfl, show (some c : Option Cell).isSome = true from rfl]
            have HA7 : Aside0 (ShelfIs w7 (w.heap.size + 1) w.heap.size (dropsC s' out).2 (dropsC s' out).1 ∧ ShelfIs w7 (w1.heap.size + 1) w1.heap.size s'.2 s'.1) := ⟨(HA6.out.1.alloc _).below hb, (HA6.out.2.alloc _).below hb⟩
            have HB7 : Aside0 (Below w.heap.size w w7) := ⟨below_then (below_alloc HB6.out _) (below_size (below_alloc HB6.out _)) hb⟩
            clear hb HA6 HB6
            go_wp2
            go_roundg g1
            case measure => omega
            case rel => exact ⟨i + 1, rfl, by rw [HF.out.2, wsucc cn (by have := HCL.out; omega)], ⟨by have := HK.out; omega⟩, ⟨HA7.out.1.alloc _, HA7.out.2.alloc _⟩, ⟨below_alloc HB7.out _⟩⟩
        · have HP : Aside0 (outP sq fr c = false) := ⟨by unfold outP; simp at ho ⊢; omega⟩
          have HF : Aside0 ((dropsC s' out).1 k = some c ∧ countN (isOut s'.1 sq fr) (i + 1) = countN (isOut s'.1 sq fr) i) := ⟨by
            rw [(dropsC_get out s' k).2 (fun h => by obtain ⟨c', hc, hp⟩ := (HO.out.2 k).1 h; rw [hf] at hc; cases hc; rw [HP.out] at hp; cases hp), hf], by
            rw [countN_succ _ i q, hk.out]; simp [isOut, hf, HP.out]⟩
          have HFf := Aside0.mk hf
          have h1 : ¬ c.f1 ≤ sq := fun h => ho (.inl h)
          have h2 : ¬ c.f2 ≤ fr := fun h => ho (.inr h)
          clear hf ho
          rw [HF.out.1]
          rw [show eCell.enc ((some c : Option Cell).getD zCell) = .agg #[.string c.f0, .int .u32 c.f1, .int .u32 c.f2] from rfl, show (some c : Option Cell).isSome = true from rfl]
          go_wp2_with fail
          refine (shelfGet_any _ (w1.heap.size + 1) w1.heap.size _ _ k (HA6.out.2.alloc _) HKK.out.2).mono ?_
          rintro e w7 ⟨rfl, hb⟩
          rw [HFf.out]
          rw [show eCell.enc ((some c : Option Cell).getD zCell) = .agg #[.string c.f0, .int .u32 c.f1, .int .u32 c.f2] from rfl, show (some c : Option Cell).isSome = true from rfl]
          have HA7 : Aside0 (ShelfIs w7 (w.heap.size + 1) w.heap.size (dropsC s' out).2 (dropsC s' out).1 ∧ ShelfIs w7 (w1.heap.size + 1) w1.heap.size s'.2 s'.1) := ⟨(HA6.out.1.alloc _).below hb, (HA6.out.2.alloc _).below hb⟩
          have HB7 : Aside0 (Below w.heap.size w w7) := ⟨below_then (below_alloc HB6.out _) (below_size (below_alloc HB6.out _)) hb⟩
          have hbx := box_left' hb
          have hbo : ∀ o, (w7.alloc o).heap[w6.heap.size]? = some (.cells #[.string c.f0, .int .u32 c.f1, .int .u32 c.f2] 57 (0, 0)) := fun o => ((below_alloc (Below.refl w7.heap.size w7) o).block _ (Array.getElem?_eq_some_iff.1 hbx).1).trans hbx
          have hx0 : ∀ o, (w7.alloc o).cell? ⟨w6.heap.size, 0, none⟩ = some (.string c.f0) := fun o => (box_cell3 (hbo o)).1
          have hx1 : ∀ o, (w7.alloc o).cell? ⟨w6.heap.size, 1, none⟩ = some (.int .u32 c.f1) := fun o => (box_cell3 (hbo o)).2.1
          have hx2 : ∀ o, (w7.alloc o).cell? ⟨w6.heap.size, 2, none⟩ = some (.int .u32 c.f2) := fun o => (box_cell3 (hbo o)).2.2.1
          clear hb HA6 HB6 hbx hbo
          go_wp2
          go_roundg g1
          case measure => omega
          case rel => exact ⟨i + 1, rfl, by rw [HF.out.2], ⟨by have := HK.out; omega⟩, ⟨HA7.out.1.alloc _, HA7.out.2.alloc _⟩, ⟨below_alloc HB7.out _⟩⟩
    · obtain rfl : i = 12 := by have := HK.out; omega
      have hcnt : countN (isOut s'.1 sq fr) 12 = out.length := (countN_all _ out HO.out.1.nodup fun k => by
        rw [HO.out.2 k]
        constructor
        · rintro ⟨c, h1, h2⟩
          exact ⟨(HG.out.named k c h1).1, by simp [isOut, h1, h2]⟩
        · rintro ⟨_, h2⟩
          unfold isOut at h2
          cases hc : s'.1 k with
          | none => rw [hc] at h2; cases h2
          | some c => rw [hc] at h2; exact ⟨c, rfl, h2⟩).symm
      rw [hcnt]
      have hisS : ∀ k ∈ out, (s'.1 k).isSome = true := fun k hk => by obtain ⟨c, hc, _⟩ := (HO.out.2 k).1 hk; rw [hc]; rfl
      have hle : out.length ≤ s'.2 := by
        obtain ⟨K, k1, k2, k3⟩ := HG.out.cnt
        rw [← k2]
        exact nodup_le out K HO.out.1.nodup fun k hk => (k3 k).2 (hisS k hk)
      have hnum := dropsC_num out s' HO.out.1.nodup hisS hle
      have hN12 := HG.out.le
      have HFK : Aside0 (∀ k c, (dropsC s' out).1 k = some c → s'.1 k = some c ∧ outP sq fr c = false) := ⟨fun k c hc => by
        by_cases hm : k ∈ out
        · rw [(dropsC_get out s' k).1 hm] at hc; cases hc
        · rw [(dropsC_get out s' k).2 hm] at hc
          refine ⟨hc, ?_⟩
          cases ho : outP sq fr c
          · rfl
          · exact absurd ((HO.out.2 k).2 ⟨c, hc, ho⟩) hm⟩
      obtain ⟨f2, hf2⟩ : ∃ f2, Aside0 ((dropsC s' out).1 = f2) := ⟨_, ⟨rfl⟩⟩
      obtain ⟨n2, hn2⟩ : ∃ n2, Aside0 ((dropsC s' out).2 = n2) := ⟨_, ⟨rfl⟩⟩
      rw [hf2.out, hn2.out] at HAr
      rw [hf2.out] at HFK
      rw [hn2.out] at hnum
      obtain ⟨N1, hN1⟩ : ∃ N1, Aside0 (s'.2 = N1) := ⟨_, ⟨rfl⟩⟩
      rw [hN1.out] at hnum hN12 HAr
      have hz1 : (n2 : Int) + (out.length : Int) = (N1 : Int) := by omega
      have hz2 : (N1 : Int) ≤ 12 := by omega
      have hz3 : (0 : Int) ≤ (n2 : Int) := by omega
      have hz4 : (0 : Int) ≤ (out.length : Int) := by omega
      have HZ : Aside0 (n2 ≤ 12) := ⟨by omega⟩
      have HSZ2 : Aside0 (∀ k, (f2 k).isSome = true → k.size ≤ 1000000000) := ⟨fun k hk => by
        obtain ⟨c, hc⟩ := Option.isSome_iff_exists.1 hk
        exact HSZ.out k (by rw [(HFK.out k c hc).1]; rfl)⟩
      clear hcnt hisS hle hnum hN12 q hf2 hn2 hN1
      go_wp2_with fail
      refine (shelfLen_any wr (w.heap.size + 1) w.heap.size n2 f2 HAr.out.1).mono ?_
      rintro e w' ⟨rfl, rfl⟩
      go_wp2_with fail
      refine (shelfLen_any wr (w1.heap.size + 1) w1.heap.size N1 s'.1 HAr.out.2).mono ?_
      rintro e w' ⟨rfl, rfl⟩
      go_wp2_with fail
      refine (shelfDrop_any wr (w.heap.size + 1) w.heap.size n2 f2 sq fr HAr.out.1 (by have := HZ.out; omega) HSZ2.out).mono ?_
      rintro e w5 ⟨v, out2, rfl, hR, hri, hm, hA, hg⟩
      obtain rfl : out2 = [] := List.eq_nil_iff_forall_not_mem.2 fun k hk => by
        obtain ⟨c, h1, h2⟩ := (hm k).1 hk
        rw [(HFK.out k c h1).2] at h2
        cases h2
      obtain ⟨A5, c5, rfl⟩ := Kd.R_slice hR
      have HA5 : Aside0 (ShelfIs w5 (w.heap.size + 1) w.heap.size n2 f2) := ⟨hA⟩
      have HB5 : Aside0 (Below w.heap.size w w5) := ⟨HB.out.grown hg HB.out.size (fun k hk => by cases hk; exact Nat.le_refl _)⟩
      clear hR hri hm hA hg
      rw [List.length_nil]
      have HT : Aside0 (∀ m t, (m = sq ∨ m = fr) → IsTop f2 m t → t = 0) := ⟨fun m t hm ⟨_, _, ht⟩ => by
        rcases ht with ht | ⟨k, c, hc, hle, _⟩
        · exact ht
        · obtain ⟨h1, h2⟩ := HFK.out k c hc
          have h3 := (HG.out.named k c h1).2.2.1
          simp [outP] at h2
          rcases hm with rfl | rfl <;> omega⟩
      go_wp2_with fail
      all_goals
        refine (shelfTop_any w5 (w.heap.size + 1) w.heap.size n2 f2 _ HA5.out).mono ?_
        rintro e w6 ⟨⟨t, rfl, ht⟩, hb⟩
        obtain rfl := HT.out _ t (by first | exact .inl rfl | exact .inr rfl) ht
        have HB6 : Aside0 (Below w.heap.size w w6) := ⟨below_then HB5.out HB5.out.size hb⟩
        clear hb ht
        go_wp2
        go_ret
        exact ⟨rfl, HB6.out⟩
end Go.Proofs.YtmionoghpjpbaaaDoor
