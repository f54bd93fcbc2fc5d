/-
  keys.Right; the document's KeyRight is the same.
-/
import Derived.Test.YtmionoghpjpbaaaDoorAhead
import Derived.Test.YtmionoghpjpbaaaDoorSh
import Derived.Test.YtmionoghpjpbaaaDoorPrV0
import Derived.Lib.TrimUEq
namespace Go.Proofs.YtmionoghpjpbaaaDoor
open Go.RowKit Go.Proofs.YtmionoghpjpbaaaDoorW.PrintWords Go.Proofs.YtmionoghpjpbaaaDoorW.PrintLast Go.Proofs.YtmionoghpjpbaaaDoorW.PrintMore
open Go.Proofs.YtmionoghpjpbaaaDoorM
set_option linter.unusedVariables false
set_option linter.unusedSimpArgs false

/-- May a rune of a width stand in a key? -/
def plainR (r z : Int) : Bool := decide (33 ≤ r) && !(decide (127 ≤ r) && decide (r ≤ 160)) && !(decide (r = 65533) && decide (z = 1))
def plainAll : List Int → List Int → Bool
  | r :: rs, z :: zs => plainR r z && plainAll rs zs
  | _, _ => true
/-- May a text be a key? -/
def keyR (s : ByteArray) : Bool := plainAll (runesOf s) (sizesOf s) && decide (1 ≤ (runesOf s).length) && decide ((runesOf s).length ≤ 12)
def keyRL (s : ByteArray) (n : Nat) (rs zs : List Int) : Prop := keyR s = (plainAll rs zs && decide (1 ≤ n + rs.length) && decide (n + rs.length ≤ 12))
theorem keyRL.start (s : ByteArray) : keyRL s 0 (runesOf s) (sizesOf s) := by simp [keyRL, keyR]
theorem keyRL.done {s : ByteArray} {n : Nat} (h : keyRL s n [] []) (hn : n ≤ 12) : keyR s = decide (1 ≤ n) := by
  rw [h]; simp [plainAll, hn]
theorem keyRL.bad {s : ByteArray} {n : Nat} {r z : Int} {rs zs : List Int} (h : keyRL s n (r :: rs) (z :: zs)) (hp : plainR r z = false) : keyR s = false := by
  rw [h]; simp [plainAll, hp]
theorem keyRL.long {s : ByteArray} {n : Nat} {r z : Int} {rs zs : List Int} (h : keyRL s n (r :: rs) (z :: zs)) (hp : 12 < n + 1) : keyR s = false := by
  rw [h]
  have : ¬ n + (r :: rs).length ≤ 12 := by simp only [List.length_cons]; omega
  rw [decide_eq_false this, Bool.and_false]
theorem keyRL.next {s : ByteArray} {n : Nat} {r z : Int} {rs zs : List Int} (h : keyRL s n (r :: rs) (z :: zs)) (hp : plainR r z = true) : keyRL s (n + 1) rs zs := by
  unfold keyRL at h ⊢
  rw [h]
  simp only [plainAll, hp, Bool.true_and, List.length_cons]
  have e : n + (rs.length + 1) = n + 1 + rs.length := by omega
  simp only [e]
theorem decodeGo_from (s : ByteArray) (pos : Nat) (h : pos < s.size) : Lib.decodeGo (s.extract pos s.size) = Utf8.decode s pos := by
  have hx : (s.extract pos s.size).data.toList = s.data.toList.drop pos := by
    rw [Lib.extract_data, List.take_of_length_le (by rw [List.length_drop, ← Lib.size_eq]; omega)]
  have hsz : (s.extract pos s.size).size ≠ 0 := by rw [Lib.size_eq, hx, List.length_drop, ← Lib.size_eq]; omega
  unfold Lib.decodeGo
  rw [if_neg hsz, ← Lib.decodeL_drop s pos, ← hx]
  rfl

set_option maxHeartbeats 2000000 in
set_option maxRecDepth 100000 in
theorem keysRight_any (s : ByteArray) (hs : s.size ≤ 1000000000) (w : World) (hT : Lib.Utf8Tabs 2 3 w) :
    Calls Tryd.prog 114 #[.string s] w fun e w' => e = .returned (.bool (keyR s)) ∧ Below w.heap.size w w' := by
  have HS := Aside0.mk hs
  have HT := Aside0.mk hT
  clear hs hT
  go_enter Tryd.func114, Tryd.ntmps114
  go_wp2
  go_loopg [3] s.size (fun kq v3 w' => ∃ (pos n : Nat), v3 = .int .i64 n ∧ Aside0 (w'.heap[w.heap.size]? = some (.stringIter s pos)) ∧ Aside0 (keyRL s n (runesFrom s kq pos) (sizesFrom s kq pos)) ∧ Aside0 (s.size ≤ pos + kq ∧ n ≤ 12) ∧ Aside0 (Below w.heap.size w w'))
  case atStart => exact ⟨0, 0, rfl, ⟨World.iter_heap w s 0⟩, ⟨keyRL.start s⟩, ⟨by simp⟩, ⟨(Below.refl _ _).alloc (Nat.le_refl _) _⟩⟩
  case round =>
    obtain ⟨pos, n, rfl, HI, HA, HK, HB⟩ := hrel
    go_wp2_with (at_next; refine wp_nextS _ rfl (.tmp 9) rfl w.heap.size s pos rfl HI.out ?_ ?_)
    · intro hdone
      have hdone' : ¬ pos < s.size := by omega
      have e1 : keyR s = decide (0 < n) := by
        have h := HA.out
        rw [runesFrom_end s _ _ hdone', show sizesFrom s gk pos = [] from by cases gk <;> simp [sizesFrom, hdone]] at h
        exact h.done HK.out.2
      have HE := Aside0.mk e1
      clear hdone hdone' e1
      go_wp2
      go_ret
      rw [HE.out]
      exact ⟨rfl, HB.out⟩
    · intro hlt w2 hit hgr hsz hdr
      obtain ⟨k1, rfl⟩ : ∃ k1, gk = k1 + 1 := ⟨gk - 1, by have := HK.out; omega⟩
      have HI2 := Aside0.mk hit
      have HB2 : Aside0 (Below w.heap.size w w2) := ⟨HB.out.grown hgr HB.out.size (fun k hk => by cases hk; exact Nat.le_refl _)⟩
      have HA2 : Aside0 (keyRL s n (((Utf8.decode s pos).1 : Int) :: runesFrom s k1 (pos + (Utf8.decode s pos).2)) (((Utf8.decode s pos).2 : Int) :: sizesFrom s k1 (pos + (Utf8.decode s pos).2))) := ⟨by
        have h := HA.out
        rw [runesFrom, sizesFrom, if_pos hlt, if_pos hlt] at h
        exact h⟩
      have hwd := Lib.decode_width_pos s pos hlt
      have HK2 : Aside0 (s.size ≤ pos + (Utf8.decode s pos).2 + k1 ∧ n ≤ 12) := ⟨by have := HK.out; omega⟩
      have HD : Aside0 (Lib.decodeGo (s.extract pos s.size) = ((Utf8.decode s pos).1, (Utf8.decode s pos).2)) := ⟨decodeGo_from s pos hlt⟩
      generalize (Utf8.decode s pos).1 = r at *
      generalize (Utf8.decode s pos).2 = wd at *
      clear hit hgr hsz hdr HI HB HA hwd
      have hn12 : n ≤ 12 := HK.out.2
      have hw1 : IntKind.i64.wrap ((n : Int) + 1) = ((n + 1 : Nat) : Int) := by rw [IntKind.wrap_i64]; omega
      have hs62 : s.size ≤ 9223372036854775807 := by have := HS.out; omega
      have hps : (pos : Int) ≤ (s.size : Int) := by omega
      have HTW : Aside0 (Lib.Utf8Tabs 2 3 w2) := ⟨Utf8Tabs_below HT.out HB2.out⟩
      have hsp : 12 < (n : Int) + 1 ∨ (¬ 12 < (n : Int) + 1 ∧ (r : Int) < 33) ∨ (¬ 12 < (n : Int) + 1 ∧ ¬ (r : Int) < 33 ∧ 127 ≤ (r : Int) ∧ (r : Int) ≤ 160) ∨ (¬ 12 < (n : Int) + 1 ∧ ¬ (r : Int) < 33 ∧ (127 ≤ (r : Int) ∧ ¬ (r : Int) ≤ 160) ∧ ((¬ (r : Int) = 65533) ∨ ((r : Int) = 65533 ∧ (wd : Int) = 1) ∨ ((r : Int) = 65533 ∧ ¬ (wd : Int) = 1))) ∨ (¬ 12 < (n : Int) + 1 ∧ ¬ (r : Int) < 33 ∧ ¬ 127 ≤ (r : Int) ∧ ¬ (r : Int) = 65533) := by omega
      rcases hsp with h1 | ⟨h1, h2⟩ | ⟨h1, h2, h3, h4⟩ | ⟨h1, h2, ⟨h3, h4⟩, h5⟩ | ⟨h1, h2, h3, h5⟩
      · have HF : Aside0 (keyR s = false) := ⟨HA2.out.long (by omega)⟩
        go_wp2
        go_ret
        rw [HF.out]
        exact ⟨rfl, HB2.out⟩
      · have HF : Aside0 (keyR s = false) := ⟨HA2.out.bad (by simp [plainR]; omega)⟩
        go_wp2
        go_ret
        rw [HF.out]
        exact ⟨rfl, HB2.out⟩
      · have HF : Aside0 (keyR s = false) := ⟨HA2.out.bad (by simp [plainR]; omega)⟩
        go_wp2
        go_ret
        rw [HF.out]
        exact ⟨rfl, HB2.out⟩
      · rcases h5 with h5 | ⟨h5, h6⟩ | ⟨h5, h6⟩
        · have HP := Aside0.mk (HA2.out.next (by simp [plainR]; omega))
          go_wp2_with fail
          refine (Tryd.utf8_DecodeRuneInString (s.extract pos s.size) w2 HTW.out).mono ?_
          rw [HD.out]
          rintro e w3 ⟨rfl, hb⟩
          have HB3 : Aside0 (Below w.heap.size w w3) := ⟨below_then HB2.out HB2.out.size hb⟩
          have HI3 : Aside0 (w3.heap[w.heap.size]? = some (.stringIter s (pos + wd))) := ⟨(hb.block _ (Array.getElem?_eq_some_iff.1 HI2.out).1).trans HI2.out⟩
          clear hb
          go_wp2
          go_roundg k1
          case measure => omega
          case rel => exact ⟨pos + wd, n + 1, by first | rfl | go_num, HI3, HP, ⟨by have := HK2.out; omega⟩, HB3⟩
        · have HF : Aside0 (keyR s = false) := ⟨HA2.out.bad (by simp [plainR]; omega)⟩
          go_wp2_with fail
          refine (Tryd.utf8_DecodeRuneInString (s.extract pos s.size) w2 HTW.out).mono ?_
          rw [HD.out]
          rintro e w3 ⟨rfl, hb⟩
          have HB3 : Aside0 (Below w.heap.size w w3) := ⟨below_then HB2.out HB2.out.size hb⟩
          have HI3 : Aside0 (w3.heap[w.heap.size]? = some (.stringIter s (pos + wd))) := ⟨(hb.block _ (Array.getElem?_eq_some_iff.1 HI2.out).1).trans HI2.out⟩
          clear hb
          go_wp2
          go_ret
          rw [HF.out]
          exact ⟨rfl, HB3.out⟩
        · have HP := Aside0.mk (HA2.out.next (by simp [plainR]; omega))
          go_wp2_with fail
          refine (Tryd.utf8_DecodeRuneInString (s.extract pos s.size) w2 HTW.out).mono ?_
          rw [HD.out]
          rintro e w3 ⟨rfl, hb⟩
          have HB3 : Aside0 (Below w.heap.size w w3) := ⟨below_then HB2.out HB2.out.size hb⟩
          have HI3 : Aside0 (w3.heap[w.heap.size]? = some (.stringIter s (pos + wd))) := ⟨(hb.block _ (Array.getElem?_eq_some_iff.1 HI2.out).1).trans HI2.out⟩
          clear hb
          go_wp2
          go_roundg k1
          case measure => omega
          case rel => exact ⟨pos + wd, n + 1, by first | rfl | go_num, HI3, HP, ⟨by have := HK2.out; omega⟩, HB3⟩
      · have HP := Aside0.mk (HA2.out.next (by simp [plainR]; omega))
        go_wp2_with fail
        refine (Tryd.utf8_DecodeRuneInString (s.extract pos s.size) w2 HTW.out).mono ?_
        rw [HD.out]
        rintro e w3 ⟨rfl, hb⟩
        have HB3 : Aside0 (Below w.heap.size w w3) := ⟨below_then HB2.out HB2.out.size hb⟩
        have HI3 : Aside0 (w3.heap[w.heap.size]? = some (.stringIter s (pos + wd))) := ⟨(hb.block _ (Array.getElem?_eq_some_iff.1 HI2.out).1).trans HI2.out⟩
        clear hb
        go_wp2
        go_roundg k1
        case measure => omega
        case rel => exact ⟨pos + wd, n + 1, by first | rfl | go_num, HI3, HP, ⟨by have := HK2.out; omega⟩, HB3⟩

/-! ### the document's -/
theorem plain_f (r z : Int) : Pr.cachepotref1_Plain.f r z = some (plainR r z) := by
  unfold Pr.cachepotref1_Plain.f plainR
  by_cases h1 : r ≥ 33
  · by_cases h2 : r ≥ 127
    · by_cases h3 : r ≤ 160
      · simp [h1, h2, h3]
      · by_cases h4 : r = 65533
        · by_cases h5 : z = 1 <;> simp [h1, h2, h3, h4, h5]
        · simp [h1, h2, h3, h4]
    · have h4 : ¬ r = 65533 := by omega
      simp [h1, h2, h4]
  · simp [h1]
theorem sizes_len (s : ByteArray) : ∀ b pos, (sizesFrom s b pos).length = (runesFrom s b pos).length
  | 0, _ => rfl
  | b + 1, pos => by
    unfold sizesFrom runesFrom
    split
    · simp [sizes_len s b]
    · rfl
theorem keyRight_at (rs zs : List Int) (hl : zs.length = rs.length) (hb : rs.length ≤ 1000000000) (d : Nat) : ∀ m i : Nat, i + m = rs.length →
    Pr.cachepotref1_KeyRight.l0 (m + d + 1) rs zs (i : Int) = some (plainAll (rs.drop i) (zs.drop i) && decide (1 ≤ rs.length) && decide (rs.length ≤ 12))
  | 0, i, h => by
    unfold Pr.cachepotref1_KeyRight.l0
    rw [if_neg (by omega), List.drop_of_length_le (by omega)]
    by_cases h1 : 1 ≤ rs.length
    · rw [if_pos (by omega)]
      have : decide ((rs.length : Int) ≤ 12) = decide (rs.length ≤ 12) := by
        by_cases h2 : rs.length ≤ 12
        · rw [decide_eq_true h2, decide_eq_true (by omega)]
        · rw [decide_eq_false h2, decide_eq_false (by omega)]
      rw [this]
      simp [plainAll, h1]
    · rw [if_neg (by omega)]
      simp [plainAll, h1]
  | m + 1, i, h => by
    rw [show m + 1 + d + 1 = (m + d + 1) + 1 by omega]
    unfold Pr.cachepotref1_KeyRight.l0
    have hi : i < rs.length := by omega
    have hz : i < zs.length := by omega
    have e1 : rd rs (i : Int) = rs[i] := by simp [rd, hi]
    have e2 : rd zs (i : Int) = zs[i] := by simp [rd, hz]
    have e3 : wrap64 ((i : Int) + 1) = ((i + 1 : Nat) : Int) := by rw [w64 _ (by omega) (by omega)]; omega
    rw [if_pos (by omega), if_pos (by omega), if_pos (by omega), e1, e2, plain_f, Option.bind_some, e3, keyRight_at rs zs hl hb d m (i + 1) (by omega), List.drop_eq_getElem_cons hi, List.drop_eq_getElem_cons hz]
    cases hp : plainR rs[i] zs[i] <;> simp [plainAll, hp]
theorem keyRight_f (s : ByteArray) (hs : s.size ≤ 1000000000) : Pr.cachepotref1_KeyRight.f (s.size + (runesOf s).length + 4) s = some (keyR s) := by
  unfold Pr.cachepotref1_KeyRight.f
  rw [runes_f s hs, Option.bind_some]
  have hz : (sizesOf s).length = (runesOf s).length := sizes_len s _ _
  have hl : (runesOf s).length ≤ s.size := runesFrom_len s _ _
  have := keyRight_at (runesOf s) (sizesOf s) hz (by omega) (s.size + 3) (runesOf s).length 0 (by omega)
  rw [show (runesOf s).length + (s.size + 3) + 1 = s.size + (runesOf s).length + 4 by omega] at this
  simpa [keyR] using this
theorem keyRight_any (s : ByteArray) (hs : s.size ≤ 1000000000) (w : World) : Calls Tryd.prog 59 #[.string s] w fun e w' => e = .returned (.bool (keyR s)) ∧ Below w.heap.size w w' :=
  Pr.cachepotref1_KeyRight.calls _ s _ w (keyRight_f s hs)
end Go.Proofs.YtmionoghpjpbaaaDoor
