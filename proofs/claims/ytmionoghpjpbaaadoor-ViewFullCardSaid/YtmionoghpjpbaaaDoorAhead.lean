/-
  The document's runes are those that range tells; its order of keys is that of keys.Sorted. Plain Lean over the printed functions.
-/
import Derived.Test.YtmionoghpjpbaaaDoorCmp
import Derived.Lib.DecodeN
import Derived.Laws.BitsAllLaws
import Derived.Laws.BitsLemmas
import Derived.Lib.MinMaxS
namespace Go.Proofs.YtmionoghpjpbaaaDoor
open Go.RowKit Go.Proofs.YtmionoghpjpbaaaDoorW.PrintWords Go.Proofs.YtmionoghpjpbaaaDoorW.PrintLast Go.Proofs.YtmionoghpjpbaaaDoorW.PrintMore
open Go.Proofs.YtmionoghpjpbaaaDoorM
set_option linter.unusedVariables false
set_option linter.unusedSimpArgs false

theorem and7_ (x : Int) (h0 : 0 ≤ x) (h1 : x < 256) : Go.bits .and .u8 x 7 = x % 8 := by
  obtain ⟨n, rfl⟩ : ∃ n : Nat, x = n := ⟨x.toNat, by omega⟩
  have : ∀ n : Fin 256, Go.bits .and .u8 (n.val : Int) 7 = (n.val : Int) % 8 := by decide +kernel
  exact this ⟨n, by omega⟩
theorem and15_ (x : Int) (h0 : 0 ≤ x) (h1 : x < 256) : Go.bits .and .u8 x 15 = x % 16 := by
  obtain ⟨n, rfl⟩ : ∃ n : Nat, x = n := ⟨x.toNat, by omega⟩
  have : ∀ n : Fin 256, Go.bits .and .u8 (n.val : Int) 15 = (n.val : Int) % 16 := by decide +kernel
  exact this ⟨n, by omega⟩
theorem and31_ (x : Int) (h0 : 0 ≤ x) (h1 : x < 256) : Go.bits .and .u8 x 31 = x % 32 := by
  obtain ⟨n, rfl⟩ : ∃ n : Nat, x = n := ⟨x.toNat, by omega⟩
  have : ∀ n : Fin 256, Go.bits .and .u8 (n.val : Int) 31 = (n.val : Int) % 32 := by decide +kernel
  exact this ⟨n, by omega⟩
theorem and63_ (x : Int) (h0 : 0 ≤ x) (h1 : x < 256) : Go.bits .and .u8 x 63 = x % 64 := by
  obtain ⟨n, rfl⟩ : ∃ n : Nat, x = n := ⟨x.toNat, by omega⟩
  have : ∀ n : Fin 256, Go.bits .and .u8 (n.val : Int) 63 = (n.val : Int) % 64 := by decide +kernel
  exact this ⟨n, by omega⟩

theorem bt_nat (s : ByteArray) (i : Nat) : bt s (i : Int) = if i < s.size then ((s.get! i).toNat : Int) else 0 := by
  unfold bt
  by_cases h : i < s.size
  · rw [dif_pos (by simpa using h), if_pos h]
    simp only [Int.toNat_natCast]
    rw [show s.get! i = s[i] from by
      simp [ByteArray.get!, getElem!_pos, h]
      rfl]
  · rw [dif_neg (by simpa using h), if_neg h]

theorem follows_eq (s : ByteArray) (i : Nat) (lo hi : Int) : Pr.cachepotref1_follows.f s (i : Int) lo hi = some (decide (i < s.size ∧ lo ≤ ((s.get! i).toNat : Int) ∧ ((s.get! i).toNat : Int) ≤ hi)) := by
  unfold Pr.cachepotref1_follows.f
  rw [bt_nat]
  by_cases h : i < s.size
  · rw [if_pos (by omega), if_pos (by omega), if_pos h]
    by_cases h2 : lo ≤ ((s.get! i).toNat : Int)
    · rw [if_pos h2]; simp [h, h2]
    · rw [if_neg h2]; simp [h, h2]
  · rw [if_neg (by omega)]; simp [h]

/-- Rune, of four bytes. -/
def runeN (n b0 b1 b2 b3 : Nat) : Nat × Nat :=
  if b0 < 128 then (b0, 1)
  else if 194 ≤ b0 ∧ b0 ≤ 223 ∧ (1 < n ∧ 128 ≤ b1 ∧ b1 ≤ 191) then (b0 % 32 * 64 + b1 % 64, 2)
  else
    let lo := if b0 = 224 then 160 else if b0 = 240 then 144 else 128
    let hi := if b0 = 237 then 159 else if b0 = 244 then 143 else 191
    if 224 ≤ b0 ∧ b0 ≤ 239 ∧ (1 < n ∧ lo ≤ b1 ∧ b1 ≤ hi) ∧ (2 < n ∧ 128 ≤ b2 ∧ b2 ≤ 191) then (b0 % 16 * 4096 + b1 % 64 * 64 + b2 % 64, 3)
    else if 240 ≤ b0 ∧ b0 ≤ 244 ∧ (1 < n ∧ lo ≤ b1 ∧ b1 ≤ hi) ∧ (2 < n ∧ 128 ≤ b2 ∧ b2 ≤ 191) ∧ (3 < n ∧ 128 ≤ b3 ∧ b3 ≤ 191) then (b0 % 8 * 262144 + b1 % 64 * 4096 + b2 % 64 * 64 + b3 % 64, 4)
    else (65533, 1)

set_option maxRecDepth 100000 in
set_option maxHeartbeats 8000000 in
theorem runeN_eq (n b0 b1 b2 b3 : Nat) (h0 : b0 < 256) (h1 : b1 < 256) (h2 : b2 < 256) (h3 : b3 < 256) : runeN n b0 b1 b2 b3 = Lib.decodeN n b0 b1 b2 b3 := by
  unfold runeN Lib.decodeN
  simp only
  by_cases c0 : b0 < 128
  · rw [if_pos c0, if_pos c0]
  rw [if_neg c0, if_neg c0]
  by_cases c1 : b0 < 224
  · rw [if_neg (by omega : ¬ (224 ≤ b0 ∧ _)), if_neg (by omega : ¬ (240 ≤ b0 ∧ _)), if_neg (by omega : ¬ (b0 / 16 = 14 ∧ _)), if_neg (by omega : ¬ (b0 / 8 = 30 ∧ _))]
    repeat' split
    all_goals first | rfl | (exfalso; omega)
  rw [if_neg (by omega : ¬ (194 ≤ b0 ∧ b0 ≤ 223 ∧ _)), if_neg (by omega : ¬ (b0 / 32 = 6 ∧ _))]
  by_cases c2 : b0 < 240
  · rw [if_neg (by omega : ¬ (240 ≤ b0 ∧ _)), if_neg (by omega : ¬ (b0 / 8 = 30 ∧ _)), if_neg (by omega : ¬ b0 = 240), if_neg (by omega : ¬ b0 = 244)]
    by_cases c3 : b0 = 224
    · rw [if_pos c3, if_neg (by omega : ¬ b0 = 237)]
      repeat' split
      all_goals first | rfl | (exfalso; omega)
    · rw [if_neg c3]
      by_cases c4 : b0 = 237
      · rw [if_pos c4]
        repeat' split
        all_goals first | rfl | (exfalso; omega)
      · rw [if_neg c4]
        repeat' split
        all_goals first | rfl | (exfalso; omega)
  · rw [if_neg (by omega : ¬ (224 ≤ b0 ∧ b0 ≤ 239 ∧ _)), if_neg (by omega : ¬ (b0 / 16 = 14 ∧ _)), if_neg (by omega : ¬ b0 = 224), if_neg (by omega : ¬ b0 = 237)]
    by_cases c3 : b0 = 240
    · rw [if_pos c3, if_neg (by omega : ¬ b0 = 244)]
      repeat' split
      all_goals first | rfl | (exfalso; omega)
    · rw [if_neg c3]
      by_cases c4 : b0 = 244
      · rw [if_pos c4]
        repeat' split
        all_goals first | rfl | (exfalso; omega)
      · rw [if_neg c4]
        repeat' split
        all_goals first | rfl | (exfalso; omega)

theorem w64 (x : Int) (h0 : 0 ≤ x) (h1 : x < 1000000000000) : wrap64 x = x := by unfold wrap64; omega

theorem v2 (b0 b1 : Nat) (g0 : b0 < 256) (g1 : b1 < 256) : wrap64 (wrap64 (wrap64 (Go.bits .and .u8 (b0 : Int) 31) * 64) + wrap64 (Go.bits .and .u8 (b1 : Int) 63)) = ((b0 % 32 * 64 + b1 % 64 : Nat) : Int) := by
  rw [and31_ _ (by omega) (by omega), and63_ _ (by omega) (by omega)]
  rw [show ((b0 % 32 * 64 + b1 % 64 : Nat) : Int) = (b0 : Int) % 32 * 64 + (b1 : Int) % 64 by omega]
  generalize h0 : (b0 : Int) % 32 = x0
  generalize h1 : (b1 : Int) % 64 = x1
  rw [w64 x0 (by omega) (by omega), w64 x1 (by omega) (by omega), w64 (x0 * 64) (by omega) (by omega), w64 _ (by omega) (by omega)]
theorem v3 (b0 b1 b2 : Nat) (g0 : b0 < 256) (g1 : b1 < 256) (g2 : b2 < 256) : wrap64 (wrap64 (wrap64 (wrap64 (Go.bits .and .u8 (b0 : Int) 15) * 4096) + wrap64 (wrap64 (Go.bits .and .u8 (b1 : Int) 63) * 64)) + wrap64 (Go.bits .and .u8 (b2 : Int) 63)) = ((b0 % 16 * 4096 + b1 % 64 * 64 + b2 % 64 : Nat) : Int) := by
  rw [and15_ _ (by omega) (by omega), and63_ _ (by omega) (by omega), and63_ _ (by omega) (by omega)]
  rw [show ((b0 % 16 * 4096 + b1 % 64 * 64 + b2 % 64 : Nat) : Int) = (b0 : Int) % 16 * 4096 + (b1 : Int) % 64 * 64 + (b2 : Int) % 64 by omega]
  generalize h0 : (b0 : Int) % 16 = x0
  generalize h1 : (b1 : Int) % 64 = x1
  generalize h2 : (b2 : Int) % 64 = x2
  rw [w64 x0 (by omega) (by omega), w64 x1 (by omega) (by omega), w64 x2 (by omega) (by omega), w64 (x0 * 4096) (by omega) (by omega), w64 (x1 * 64) (by omega) (by omega), w64 (x0 * 4096 + x1 * 64) (by omega) (by omega), w64 _ (by omega) (by omega)]
theorem v4 (b0 b1 b2 b3 : Nat) (g0 : b0 < 256) (g1 : b1 < 256) (g2 : b2 < 256) (g3 : b3 < 256) : wrap64 (wrap64 (wrap64 (wrap64 (wrap64 (Go.bits .and .u8 (b0 : Int) 7) * 262144) + wrap64 (wrap64 (Go.bits .and .u8 (b1 : Int) 63) * 4096)) + wrap64 (wrap64 (Go.bits .and .u8 (b2 : Int) 63) * 64)) + wrap64 (Go.bits .and .u8 (b3 : Int) 63)) = ((b0 % 8 * 262144 + b1 % 64 * 4096 + b2 % 64 * 64 + b3 % 64 : Nat) : Int) := by
  rw [and7_ _ (by omega) (by omega), and63_ _ (by omega) (by omega), and63_ _ (by omega) (by omega), and63_ _ (by omega) (by omega)]
  rw [show ((b0 % 8 * 262144 + b1 % 64 * 4096 + b2 % 64 * 64 + b3 % 64 : Nat) : Int) = (b0 : Int) % 8 * 262144 + (b1 : Int) % 64 * 4096 + (b2 : Int) % 64 * 64 + (b3 : Int) % 64 by omega]
  generalize h0 : (b0 : Int) % 8 = x0
  generalize h1 : (b1 : Int) % 64 = x1
  generalize h2 : (b2 : Int) % 64 = x2
  generalize h3 : (b3 : Int) % 64 = x3
  rw [w64 x0 (by omega) (by omega), w64 x1 (by omega) (by omega), w64 x2 (by omega) (by omega), w64 x3 (by omega) (by omega), w64 (x0 * 262144) (by omega) (by omega), w64 (x1 * 4096) (by omega) (by omega), w64 (x2 * 64) (by omega) (by omega), w64 (x0 * 262144 + x1 * 4096) (by omega) (by omega), w64 (x0 * 262144 + x1 * 4096 + x2 * 64) (by omega) (by omega), w64 _ (by omega) (by omega)]
theorem v1 (b0 : Nat) (g0 : b0 < 256) : wrap64 (b0 : Int) = (b0 : Int) := w64 _ (by omega) (by omega)

theorem ci0 (b : Nat) : ((b : Int) < 128) = (b < 128) := propext (by omega)
theorem ci1 (b : Nat) : ((b : Int) ≥ 194) = (194 ≤ b) := propext (by omega)
theorem ci2 (b : Nat) : ((b : Int) ≤ 223) = (b ≤ 223) := propext (by omega)
theorem ci3 (b : Nat) : ((b : Int) = 224) = (b = 224) := propext (by omega)
theorem ci4 (b : Nat) : ((b : Int) = 237) = (b = 237) := propext (by omega)
theorem ci5 (b : Nat) : ((b : Int) = 240) = (b = 240) := propext (by omega)
theorem ci6 (b : Nat) : ((b : Int) = 244) = (b = 244) := propext (by omega)
theorem ci7 (b : Nat) : ((b : Int) ≥ 224) = (224 ≤ b) := propext (by omega)
theorem ci8 (b : Nat) : ((b : Int) ≤ 239) = (b ≤ 239) := propext (by omega)
theorem ci9 (b : Nat) : ((b : Int) ≥ 240) = (240 ≤ b) := propext (by omega)
theorem ci10 (b : Nat) : ((b : Int) ≤ 244) = (b ≤ 244) := propext (by omega)
theorem ci11 (b : Nat) : ((128 : Int) ≤ (b : Int)) = (128 ≤ b) := propext (by omega)
theorem ci12 (b : Nat) : ((144 : Int) ≤ (b : Int)) = (144 ≤ b) := propext (by omega)
theorem ci13 (b : Nat) : ((160 : Int) ≤ (b : Int)) = (160 ≤ b) := propext (by omega)
theorem ci14 (b : Nat) : ((b : Int) ≤ 143) = (b ≤ 143) := propext (by omega)
theorem ci15 (b : Nat) : ((b : Int) ≤ 159) = (b ≤ 159) := propext (by omega)
theorem ci16 (b : Nat) : ((b : Int) ≤ 191) = (b ≤ 191) := propext (by omega)

set_option maxRecDepth 100000 in
set_option maxHeartbeats 8000000 in
theorem rune_f (s : ByteArray) (i k : Nat) (h : i < s.size) (hs : s.size ≤ 1000000000) : Pr.cachepotref1_Rune.f (k + 3) s (i : Int) = some (((Utf8.decode s i).1 : Int), ((Utf8.decode s i).2 : Int)) := by
  rw [Lib.decode_at, ← runeN_eq _ _ _ _ _ (UInt8.toNat_lt _) (UInt8.toNat_lt _) (UInt8.toNat_lt _) (UInt8.toNat_lt _)]
  have e1 : wrap64 ((i : Int) + 1) = ((i + 1 : Nat) : Int) := by rw [w64 _ (by omega) (by omega)]; omega
  have e2 : wrap64 ((i : Int) + 2) = ((i + 2 : Nat) : Int) := by rw [w64 _ (by omega) (by omega)]; omega
  have e3 : wrap64 ((i : Int) + 3) = ((i + 3 : Nat) : Int) := by rw [w64 _ (by omega) (by omega)]; omega
  have c1 : (i + 1 < s.size) = (1 < s.size - i) := propext ⟨fun h => by omega, fun h => by omega⟩
  have c2 : (i + 2 < s.size) = (2 < s.size - i) := propext ⟨fun h => by omega, fun h => by omega⟩
  have c3 : (i + 3 < s.size) = (3 < s.size - i) := propext ⟨fun h => by omega, fun h => by omega⟩
  have g0 := UInt8.toNat_lt (s.get! i)
  have g1 := UInt8.toNat_lt (s.get! (i + 1))
  have g2 := UInt8.toNat_lt (s.get! (i + 2))
  have g3 := UInt8.toNat_lt (s.get! (i + 3))
  have p0 : (0 : Int) ≤ ((i + 1 : Nat) : Int) := by omega
  have p1 : (0 : Int) ≤ ((i + 2 : Nat) : Int) := by omega
  have p2 : (0 : Int) ≤ ((i + 3 : Nat) : Int) := by omega
  simp only [Pr.cachepotref1_Rune.f, Pr.cachepotref1_Rune.j0, Pr.cachepotref1_Rune.j1, Pr.cachepotref1_Rune.j2, e1, e2, e3, follows_eq, bt_nat, if_pos h, Option.bind_some, if_pos p0, if_pos p1, if_pos p2, if_pos (show (0 : Int) ≤ (i : Int) by omega), if_pos (show (i : Int) < (s.size : Int) by omega), Int.ofNat_lt, c1, c2, c3, decide_eq_true_eq]
  generalize (s.get! i).toNat = b0 at *
  generalize (s.get! (i + 1)).toNat = b1 at *
  generalize (s.get! (i + 2)).toNat = b2 at *
  generalize (s.get! (i + 3)).toNat = b3 at *
  generalize s.size - i = n at *
  clear e1 e2 e3 c1 c2 c3 p0 p1 p2 h hs
  have hv1 := v1 b0 g0
  have hv2 := v2 b0 b1 g0 g1
  have hv3 := v3 b0 b1 b2 g0 g1 g2
  have hv4 := v4 b0 b1 b2 b3 g0 g1 g2 g3
  have hn : n ≤ 1 ∨ n = 2 ∨ n = 3 ∨ 4 ≤ n := by omega
  rcases hn with hn | hn | hn | hn
  · have n1 : ¬ 1 < n := by omega
    have n2 : ¬ 2 < n := by omega
    have n3 : ¬ 3 < n := by omega
    simp only [runeN, n1, n2, n3, true_and, and_true, if_true, false_and, and_false, if_false, Bool.false_eq_true, ite_self, hv1, hv2, hv3, hv4, ci0, ci1, ci2, ci3, ci4, ci5, ci6, ci7, ci8, ci9, ci10, ci11, ci12, ci13, ci14, ci15, ci16]
    clear n1 n2 n3 hn hv1 hv2 hv3 hv4 n
    have hc : (b0 < 128) ∨ (128 ≤ b0 ∧ b0 < 194) ∨ (194 ≤ b0 ∧ b0 ≤ 223) ∨ (b0 = 224) ∨ (225 ≤ b0 ∧ b0 ≤ 236) ∨ (b0 = 237) ∨ (238 ≤ b0 ∧ b0 ≤ 239) ∨ (b0 = 240) ∨ (241 ≤ b0 ∧ b0 ≤ 243) ∨ (b0 = 244) ∨ (245 ≤ b0) := by omega
    rcases hc with hc | hc | hc | hc | hc | hc | hc | hc | hc | hc | hc
    · simp only [show (b0 < 128) = True from eq_true (by omega), show (194 ≤ b0) = False from eq_false (by omega), show (b0 ≤ 223) = True from eq_true (by omega), show (b0 = 224) = False from eq_false (by omega), show (b0 = 237) = False from eq_false (by omega), show (b0 = 240) = False from eq_false (by omega), show (b0 = 244) = False from eq_false (by omega), show (224 ≤ b0) = False from eq_false (by omega), show (b0 ≤ 239) = True from eq_true (by omega), show (240 ≤ b0) = False from eq_false (by omega), show (b0 ≤ 244) = True from eq_true (by omega), if_true, if_false, true_and, false_and, and_true, and_false]
      try (repeat' split)
      all_goals try first | rfl | (exfalso; omega)
    · simp only [show (b0 < 128) = False from eq_false (by omega), show (194 ≤ b0) = False from eq_false (by omega), show (b0 ≤ 223) = True from eq_true (by omega), show (b0 = 224) = False from eq_false (by omega), show (b0 = 237) = False from eq_false (by omega), show (b0 = 240) = False from eq_false (by omega), show (b0 = 244) = False from eq_false (by omega), show (224 ≤ b0) = False from eq_false (by omega), show (b0 ≤ 239) = True from eq_true (by omega), show (240 ≤ b0) = False from eq_false (by omega), show (b0 ≤ 244) = True from eq_true (by omega), if_true, if_false, true_and, false_and, and_true, and_false]
      try (repeat' split)
      all_goals try first | rfl | (exfalso; omega)
    · simp only [show (b0 < 128) = False from eq_false (by omega), show (194 ≤ b0) = True from eq_true (by omega), show (b0 ≤ 223) = True from eq_true (by omega), show (b0 = 224) = False from eq_false (by omega), show (b0 = 237) = False from eq_false (by omega), show (b0 = 240) = False from eq_false (by omega), show (b0 = 244) = False from eq_false (by omega), show (224 ≤ b0) = False from eq_false (by omega), show (b0 ≤ 239) = True from eq_true (by omega), show (240 ≤ b0) = False from eq_false (by omega), show (b0 ≤ 244) = True from eq_true (by omega), if_true, if_false, true_and, false_and, and_true, and_false]
      try (repeat' split)
      all_goals try first | rfl | (exfalso; omega)
    · simp only [show (b0 < 128) = False from eq_false (by omega), show (194 ≤ b0) = True from eq_true (by omega), show (b0 ≤ 223) = False from eq_false (by omega), show (b0 = 224) = True from eq_true (by omega), show (b0 = 237) = False from eq_false (by omega), show (b0 = 240) = False from eq_false (by omega), show (b0 = 244) = False from eq_false (by omega), show (224 ≤ b0) = True from eq_true (by omega), show (b0 ≤ 239) = True from eq_true (by omega), show (240 ≤ b0) = False from eq_false (by omega), show (b0 ≤ 244) = True from eq_true (by omega), if_true, if_false, true_and, false_and, and_true, and_false]
      try (repeat' split)
      all_goals try first | rfl | (exfalso; omega)
    · simp only [show (b0 < 128) = False from eq_false (by omega), show (194 ≤ b0) = True from eq_true (by omega), show (b0 ≤ 223) = False from eq_false (by omega), show (b0 = 224) = False from eq_false (by omega), show (b0 = 237) = False from eq_false (by omega), show (b0 = 240) = False from eq_false (by omega), show (b0 = 244) = False from eq_false (by omega), show (224 ≤ b0) = True from eq_true (by omega), show (b0 ≤ 239) = True from eq_true (by omega), show (240 ≤ b0) = False from eq_false (by omega), show (b0 ≤ 244) = True from eq_true (by omega), if_true, if_false, true_and, false_and, and_true, and_false]
      try (repeat' split)
      all_goals try first | rfl | (exfalso; omega)
    · simp only [show (b0 < 128) = False from eq_false (by omega), show (194 ≤ b0) = True from eq_true (by omega), show (b0 ≤ 223) = False from eq_false (by omega), show (b0 = 224) = False from eq_false (by omega), show (b0 = 237) = True from eq_true (by omega), show (b0 = 240) = False from eq_false (by omega), show (b0 = 244) = False from eq_false (by omega), show (224 ≤ b0) = True from eq_true (by omega), show (b0 ≤ 239) = True from eq_true (by omega), show (240 ≤ b0) = False from eq_false (by omega), show (b0 ≤ 244) = True from eq_true (by omega), if_true, if_false, true_and, false_and, and_true, and_false]
      try (repeat' split)
      all_goals try first | rfl | (exfalso; omega)
    · simp only [show (b0 < 128) = False from eq_false (by omega), show (194 ≤ b0) = True from eq_true (by omega), show (b0 ≤ 223) = False from eq_false (by omega), show (b0 = 224) = False from eq_false (by omega), show (b0 = 237) = False from eq_false (by omega), show (b0 = 240) = False from eq_false (by omega), show (b0 = 244) = False from eq_false (by omega), show (224 ≤ b0) = True from eq_true (by omega), show (b0 ≤ 239) = True from eq_true (by omega), show (240 ≤ b0) = False from eq_false (by omega), show (b0 ≤ 244) = True from eq_true (by omega), if_true, if_false, true_and, false_and, and_true, and_false]
      try (repeat' split)
      all_goals try first | rfl | (exfalso; omega)
    · simp only [show (b0 < 128) = False from eq_false (by omega), show (194 ≤ b0) = True from eq_true (by omega), show (b0 ≤ 223) = False from eq_false (by omega), show (b0 = 224) = False from eq_false (by omega), show (b0 = 237) = False from eq_false (by omega), show (b0 = 240) = True from eq_true (by omega), show (b0 = 244) = False from eq_false (by omega), show (224 ≤ b0) = True from eq_true (by omega), show (b0 ≤ 239) = False from eq_false (by omega), show (240 ≤ b0) = True from eq_true (by omega), show (b0 ≤ 244) = True from eq_true (by omega), if_true, if_false, true_and, false_and, and_true, and_false]
      try (repeat' split)
      all_goals try first | rfl | (exfalso; omega)
    · simp only [show (b0 < 128) = False from eq_false (by omega), show (194 ≤ b0) = True from eq_true (by omega), show (b0 ≤ 223) = False from eq_false (by omega), show (b0 = 224) = False from eq_false (by omega), show (b0 = 237) = False from eq_false (by omega), show (b0 = 240) = False from eq_false (by omega), show (b0 = 244) = False from eq_false (by omega), show (224 ≤ b0) = True from eq_true (by omega), show (b0 ≤ 239) = False from eq_false (by omega), show (240 ≤ b0) = True from eq_true (by omega), show (b0 ≤ 244) = True from eq_true (by omega), if_true, if_false, true_and, false_and, and_true, and_false]
      try (repeat' split)
      all_goals try first | rfl | (exfalso; omega)
    · simp only [show (b0 < 128) = False from eq_false (by omega), show (194 ≤ b0) = True from eq_true (by omega), show (b0 ≤ 223) = False from eq_false (by omega), show (b0 = 224) = False from eq_false (by omega), show (b0 = 237) = False from eq_false (by omega), show (b0 = 240) = False from eq_false (by omega), show (b0 = 244) = True from eq_true (by omega), show (224 ≤ b0) = True from eq_true (by omega), show (b0 ≤ 239) = False from eq_false (by omega), show (240 ≤ b0) = True from eq_true (by omega), show (b0 ≤ 244) = True from eq_true (by omega), if_true, if_false, true_and, false_and, and_true, and_false]
      try (repeat' split)
      all_goals try first | rfl | (exfalso; omega)
    · simp only [show (b0 < 128) = False from eq_false (by omega), show (194 ≤ b0) = True from eq_true (by omega), show (b0 ≤ 223) = False from eq_false (by omega), show (b0 = 224) = False from eq_false (by omega), show (b0 = 237) = False from eq_false (by omega), show (b0 = 240) = False from eq_false (by omega), show (b0 = 244) = False from eq_false (by omega), show (224 ≤ b0) = True from eq_true (by omega), show (b0 ≤ 239) = False from eq_false (by omega), show (240 ≤ b0) = True from eq_true (by omega), show (b0 ≤ 244) = False from eq_false (by omega), if_true, if_false, true_and, false_and, and_true, and_false]
      try (repeat' split)
      all_goals try first | rfl | (exfalso; omega)
  · have n1 : 1 < n := by omega
    have n2 : ¬ 2 < n := by omega
    have n3 : ¬ 3 < n := by omega
    simp only [runeN, n1, n2, n3, true_and, and_true, if_true, false_and, and_false, if_false, Bool.false_eq_true, ite_self, hv1, hv2, hv3, hv4, ci0, ci1, ci2, ci3, ci4, ci5, ci6, ci7, ci8, ci9, ci10, ci11, ci12, ci13, ci14, ci15, ci16]
    clear n1 n2 n3 hn hv1 hv2 hv3 hv4 n
    have hc : (b0 < 128) ∨ (128 ≤ b0 ∧ b0 < 194) ∨ (194 ≤ b0 ∧ b0 ≤ 223) ∨ (b0 = 224) ∨ (225 ≤ b0 ∧ b0 ≤ 236) ∨ (b0 = 237) ∨ (238 ≤ b0 ∧ b0 ≤ 239) ∨ (b0 = 240) ∨ (241 ≤ b0 ∧ b0 ≤ 243) ∨ (b0 = 244) ∨ (245 ≤ b0) := by omega
    rcases hc with hc | hc | hc | hc | hc | hc | hc | hc | hc | hc | hc
    · simp only [show (b0 < 128) = True from eq_true (by omega), show (194 ≤ b0) = False from eq_false (by omega), show (b0 ≤ 223) = True from eq_true (by omega), show (b0 = 224) = False from eq_false (by omega), show (b0 = 237) = False from eq_false (by omega), show (b0 = 240) = False from eq_false (by omega), show (b0 = 244) = False from eq_false (by omega), show (224 ≤ b0) = False from eq_false (by omega), show (b0 ≤ 239) = True from eq_true (by omega), show (240 ≤ b0) = False from eq_false (by omega), show (b0 ≤ 244) = True from eq_true (by omega), if_true, if_false, true_and, false_and, and_true, and_false]
      try (repeat' split)
      all_goals try first | rfl | (exfalso; omega)
    · simp only [show (b0 < 128) = False from eq_false (by omega), show (194 ≤ b0) = False from eq_false (by omega), show (b0 ≤ 223) = True from eq_true (by omega), show (b0 = 224) = False from eq_false (by omega), show (b0 = 237) = False from eq_false (by omega), show (b0 = 240) = False from eq_false (by omega), show (b0 = 244) = False from eq_false (by omega), show (224 ≤ b0) = False from eq_false (by omega), show (b0 ≤ 239) = True from eq_true (by omega), show (240 ≤ b0) = False from eq_false (by omega), show (b0 ≤ 244) = True from eq_true (by omega), if_true, if_false, true_and, false_and, and_true, and_false]
      try (repeat' split)
      all_goals try first | rfl | (exfalso; omega)
    · simp only [show (b0 < 128) = False from eq_false (by omega), show (194 ≤ b0) = True from eq_true (by omega), show (b0 ≤ 223) = True from eq_true (by omega), show (b0 = 224) = False from eq_false (by omega), show (b0 = 237) = False from eq_false (by omega), show (b0 = 240) = False from eq_false (by omega), show (b0 = 244) = False from eq_false (by omega), show (224 ≤ b0) = False from eq_false (by omega), show (b0 ≤ 239) = True from eq_true (by omega), show (240 ≤ b0) = False from eq_false (by omega), show (b0 ≤ 244) = True from eq_true (by omega), if_true, if_false, true_and, false_and, and_true, and_false]
      try (repeat' split)
      all_goals try first | rfl | (exfalso; omega)
    · simp only [show (b0 < 128) = False from eq_false (by omega), show (194 ≤ b0) = True from eq_true (by omega), show (b0 ≤ 223) = False from eq_false (by omega), show (b0 = 224) = True from eq_true (by omega), show (b0 = 237) = False from eq_false (by omega), show (b0 = 240) = False from eq_false (by omega), show (b0 = 244) = False from eq_false (by omega), show (224 ≤ b0) = True from eq_true (by omega), show (b0 ≤ 239) = True from eq_true (by omega), show (240 ≤ b0) = False from eq_false (by omega), show (b0 ≤ 244) = True from eq_true (by omega), if_true, if_false, true_and, false_and, and_true, and_false]
      try (repeat' split)
      all_goals try first | rfl | (exfalso; omega)
    · simp only [show (b0 < 128) = False from eq_false (by omega), show (194 ≤ b0) = True from eq_true (by omega), show (b0 ≤ 223) = False from eq_false (by omega), show (b0 = 224) = False from eq_false (by omega), show (b0 = 237) = False from eq_false (by omega), show (b0 = 240) = False from eq_false (by omega), show (b0 = 244) = False from eq_false (by omega), show (224 ≤ b0) = True from eq_true (by omega), show (b0 ≤ 239) = True from eq_true (by omega), show (240 ≤ b0) = False from eq_false (by omega), show (b0 ≤ 244) = True from eq_true (by omega), if_true, if_false, true_and, false_and, and_true, and_false]
      try (repeat' split)
      all_goals try first | rfl | (exfalso; omega)
    · simp only [show (b0 < 128) = False from eq_false (by omega), show (194 ≤ b0) = True from eq_true (by omega), show (b0 ≤ 223) = False from eq_false (by omega), show (b0 = 224) = False from eq_false (by omega), show (b0 = 237) = True from eq_true (by omega), show (b0 = 240) = False from eq_false (by omega), show (b0 = 244) = False from eq_false (by omega), show (224 ≤ b0) = True from eq_true (by omega), show (b0 ≤ 239) = True from eq_true (by omega), show (240 ≤ b0) = False from eq_false (by omega), show (b0 ≤ 244) = True from eq_true (by omega), if_true, if_false, true_and, false_and, and_true, and_false]
      try (repeat' split)
      all_goals try first | rfl | (exfalso; omega)
    · simp only [show (b0 < 128) = False from eq_false (by omega), show (194 ≤ b0) = True from eq_true (by omega), show (b0 ≤ 223) = False from eq_false (by omega), show (b0 = 224) = False from eq_false (by omega), show (b0 = 237) = False from eq_false (by omega), show (b0 = 240) = False from eq_false (by omega), show (b0 = 244) = False from eq_false (by omega), show (224 ≤ b0) = True from eq_true (by omega), show (b0 ≤ 239) = True from eq_true (by omega), show (240 ≤ b0) = False from eq_false (by omega), show (b0 ≤ 244) = True from eq_true (by omega), if_true, if_false, true_and, false_and, and_true, and_false]
      try (repeat' split)
      all_goals try first | rfl | (exfalso; omega)
    · simp only [show (b0 < 128) = False from eq_false (by omega), show (194 ≤ b0) = True from eq_true (by omega), show (b0 ≤ 223) = False from eq_false (by omega), show (b0 = 224) = False from eq_false (by omega), show (b0 = 237) = False from eq_false (by omega), show (b0 = 240) = True from eq_true (by omega), show (b0 = 244) = False from eq_false (by omega), show (224 ≤ b0) = True from eq_true (by omega), show (b0 ≤ 239) = False from eq_false (by omega), show (240 ≤ b0) = True from eq_true (by omega), show (b0 ≤ 244) = True from eq_true (by omega), if_true, if_false, true_and, false_and, and_true, and_false]
      try (repeat' split)
      all_goals try first | rfl | (exfalso; omega)
    · simp only [show (b0 < 128) = False from eq_false (by omega), show (194 ≤ b0) = True from eq_true (by omega), show (b0 ≤ 223) = False from eq_false (by omega), show (b0 = 224) = False from eq_false (by omega), show (b0 = 237) = False from eq_false (by omega), show (b0 = 240) = False from eq_false (by omega), show (b0 = 244) = False from eq_false (by omega), show (224 ≤ b0) = True from eq_true (by omega), show (b0 ≤ 239) = False from eq_false (by omega), show (240 ≤ b0) = True from eq_true (by omega), show (b0 ≤ 244) = True from eq_true (by omega), if_true, if_false, true_and, false_and, and_true, and_false]
      try (repeat' split)
      all_goals try first | rfl | (exfalso; omega)
    · simp only [show (b0 < 128) = False from eq_false (by omega), show (194 ≤ b0) = True from eq_true (by omega), show (b0 ≤ 223) = False from eq_false (by omega), show (b0 = 224) = False from eq_false (by omega), show (b0 = 237) = False from eq_false (by omega), show (b0 = 240) = False from eq_false (by omega), show (b0 = 244) = True from eq_true (by omega), show (224 ≤ b0) = True from eq_true (by omega), show (b0 ≤ 239) = False from eq_false (by omega), show (240 ≤ b0) = True from eq_true (by omega), show (b0 ≤ 244) = True from eq_true (by omega), if_true, if_false, true_and, false_and, and_true, and_false]
      try (repeat' split)
      all_goals try first | rfl | (exfalso; omega)
    · simp only [show (b0 < 128) = False from eq_false (by omega), show (194 ≤ b0) = True from eq_true (by omega), show (b0 ≤ 223) = False from eq_false (by omega), show (b0 = 224) = False from eq_false (by omega), show (b0 = 237) = False from eq_false (by omega), show (b0 = 240) = False from eq_false (by omega), show (b0 = 244) = False from eq_false (by omega), show (224 ≤ b0) = True from eq_true (by omega), show (b0 ≤ 239) = False from eq_false (by omega), show (240 ≤ b0) = True from eq_true (by omega), show (b0 ≤ 244) = False from eq_false (by omega), if_true, if_false, true_and, false_and, and_true, and_false]
      try (repeat' split)
      all_goals try first | rfl | (exfalso; omega)
  · have n1 : 1 < n := by omega
    have n2 : 2 < n := by omega
    have n3 : ¬ 3 < n := by omega
    simp only [runeN, n1, n2, n3, true_and, and_true, if_true, false_and, and_false, if_false, Bool.false_eq_true, ite_self, hv1, hv2, hv3, hv4, ci0, ci1, ci2, ci3, ci4, ci5, ci6, ci7, ci8, ci9, ci10, ci11, ci12, ci13, ci14, ci15, ci16]
    clear n1 n2 n3 hn hv1 hv2 hv3 hv4 n
    have hc : (b0 < 128) ∨ (128 ≤ b0 ∧ b0 < 194) ∨ (194 ≤ b0 ∧ b0 ≤ 223) ∨ (b0 = 224) ∨ (225 ≤ b0 ∧ b0 ≤ 236) ∨ (b0 = 237) ∨ (238 ≤ b0 ∧ b0 ≤ 239) ∨ (b0 = 240) ∨ (241 ≤ b0 ∧ b0 ≤ 243) ∨ (b0 = 244) ∨ (245 ≤ b0) := by omega
    rcases hc with hc | hc | hc | hc | hc | hc | hc | hc | hc | hc | hc
    · simp only [show (b0 < 128) = True from eq_true (by omega), show (194 ≤ b0) = False from eq_false (by omega), show (b0 ≤ 223) = True from eq_true (by omega), show (b0 = 224) = False from eq_false (by omega), show (b0 = 237) = False from eq_false (by omega), show (b0 = 240) = False from eq_false (by omega), show (b0 = 244) = False from eq_false (by omega), show (224 ≤ b0) = False from eq_false (by omega), show (b0 ≤ 239) = True from eq_true (by omega), show (240 ≤ b0) = False from eq_false (by omega), show (b0 ≤ 244) = True from eq_true (by omega), if_true, if_false, true_and, false_and, and_true, and_false]
      try (repeat' split)
      all_goals try first | rfl | (exfalso; omega)
    · simp only [show (b0 < 128) = False from eq_false (by omega), show (194 ≤ b0) = False from eq_false (by omega), show (b0 ≤ 223) = True from eq_true (by omega), show (b0 = 224) = False from eq_false (by omega), show (b0 = 237) = False from eq_false (by omega), show (b0 = 240) = False from eq_false (by omega), show (b0 = 244) = False from eq_false (by omega), show (224 ≤ b0) = False from eq_false (by omega), show (b0 ≤ 239) = True from eq_true (by omega), show (240 ≤ b0) = False from eq_false (by omega), show (b0 ≤ 244) = True from eq_true (by omega), if_true, if_false, true_and, false_and, and_true, and_false]
      try (repeat' split)
      all_goals try first | rfl | (exfalso; omega)
    · simp only [show (b0 < 128) = False from eq_false (by omega), show (194 ≤ b0) = True from eq_true (by omega), show (b0 ≤ 223) = True from eq_true (by omega), show (b0 = 224) = False from eq_false (by omega), show (b0 = 237) = False from eq_false (by omega), show (b0 = 240) = False from eq_false (by omega), show (b0 = 244) = False from eq_false (by omega), show (224 ≤ b0) = False from eq_false (by omega), show (b0 ≤ 239) = True from eq_true (by omega), show (240 ≤ b0) = False from eq_false (by omega), show (b0 ≤ 244) = True from eq_true (by omega), if_true, if_false, true_and, false_and, and_true, and_false]
      try (repeat' split)
      all_goals try first | rfl | (exfalso; omega)
    · simp only [show (b0 < 128) = False from eq_false (by omega), show (194 ≤ b0) = True from eq_true (by omega), show (b0 ≤ 223) = False from eq_false (by omega), show (b0 = 224) = True from eq_true (by omega), show (b0 = 237) = False from eq_false (by omega), show (b0 = 240) = False from eq_false (by omega), show (b0 = 244) = False from eq_false (by omega), show (224 ≤ b0) = True from eq_true (by omega), show (b0 ≤ 239) = True from eq_true (by omega), show (240 ≤ b0) = False from eq_false (by omega), show (b0 ≤ 244) = True from eq_true (by omega), if_true, if_false, true_and, false_and, and_true, and_false]
      try (repeat' split)
      all_goals try first | rfl | (exfalso; omega)
    · simp only [show (b0 < 128) = False from eq_false (by omega), show (194 ≤ b0) = True from eq_true (by omega), show (b0 ≤ 223) = False from eq_false (by omega), show (b0 = 224) = False from eq_false (by omega), show (b0 = 237) = False from eq_false (by omega), show (b0 = 240) = False from eq_false (by omega), show (b0 = 244) = False from eq_false (by omega), show (224 ≤ b0) = True from eq_true (by omega), show (b0 ≤ 239) = True from eq_true (by omega), show (240 ≤ b0) = False from eq_false (by omega), show (b0 ≤ 244) = True from eq_true (by omega), if_true, if_false, true_and, false_and, and_true, and_false]
      try (repeat' split)
      all_goals try first | rfl | (exfalso; omega)
    · simp only [show (b0 < 128) = False from eq_false (by omega), show (194 ≤ b0) = True from eq_true (by omega), show (b0 ≤ 223) = False from eq_false (by omega), show (b0 = 224) = False from eq_false (by omega), show (b0 = 237) = True from eq_true (by omega), show (b0 = 240) = False from eq_false (by omega), show (b0 = 244) = False from eq_false (by omega), show (224 ≤ b0) = True from eq_true (by omega), show (b0 ≤ 239) = True from eq_true (by omega), show (240 ≤ b0) = False from eq_false (by omega), show (b0 ≤ 244) = True from eq_true (by omega), if_true, if_false, true_and, false_and, and_true, and_false]
      try (repeat' split)
      all_goals try first | rfl | (exfalso; omega)
    · simp only [show (b0 < 128) = False from eq_false (by omega), show (194 ≤ b0) = True from eq_true (by omega), show (b0 ≤ 223) = False from eq_false (by omega), show (b0 = 224) = False from eq_false (by omega), show (b0 = 237) = False from eq_false (by omega), show (b0 = 240) = False from eq_false (by omega), show (b0 = 244) = False from eq_false (by omega), show (224 ≤ b0) = True from eq_true (by omega), show (b0 ≤ 239) = True from eq_true (by omega), show (240 ≤ b0) = False from eq_false (by omega), show (b0 ≤ 244) = True from eq_true (by omega), if_true, if_false, true_and, false_and, and_true, and_false]
      try (repeat' split)
      all_goals try first | rfl | (exfalso; omega)
    · simp only [show (b0 < 128) = False from eq_false (by omega), show (194 ≤ b0) = True from eq_true (by omega), show (b0 ≤ 223) = False from eq_false (by omega), show (b0 = 224) = False from eq_false (by omega), show (b0 = 237) = False from eq_false (by omega), show (b0 = 240) = True from eq_true (by omega), show (b0 = 244) = False from eq_false (by omega), show (224 ≤ b0) = True from eq_true (by omega), show (b0 ≤ 239) = False from eq_false (by omega), show (240 ≤ b0) = True from eq_true (by omega), show (b0 ≤ 244) = True from eq_true (by omega), if_true, if_false, true_and, false_and, and_true, and_false]
      try (repeat' split)
      all_goals try first | rfl | (exfalso; omega)
    · simp only [show (b0 < 128) = False from eq_false (by omega), show (194 ≤ b0) = True from eq_true (by omega), show (b0 ≤ 223) = False from eq_false (by omega), show (b0 = 224) = False from eq_false (by omega), show (b0 = 237) = False from eq_false (by omega), show (b0 = 240) = False from eq_false (by omega), show (b0 = 244) = False from eq_false (by omega), show (224 ≤ b0) = True from eq_true (by omega), show (b0 ≤ 239) = False from eq_false (by omega), show (240 ≤ b0) = True from eq_true (by omega), show (b0 ≤ 244) = True from eq_true (by omega), if_true, if_false, true_and, false_and, and_true, and_false]
      try (repeat' split)
      all_goals try first | rfl | (exfalso; omega)
    · simp only [show (b0 < 128) = False from eq_false (by omega), show (194 ≤ b0) = True from eq_true (by omega), show (b0 ≤ 223) = False from eq_false (by omega), show (b0 = 224) = False from eq_false (by omega), show (b0 = 237) = False from eq_false (by omega), show (b0 = 240) = False from eq_false (by omega), show (b0 = 244) = True from eq_true (by omega), show (224 ≤ b0) = True from eq_true (by omega), show (b0 ≤ 239) = False from eq_false (by omega), show (240 ≤ b0) = True from eq_true (by omega), show (b0 ≤ 244) = True from eq_true (by omega), if_true, if_false, true_and, false_and, and_true, and_false]
      try (repeat' split)
      all_goals try first | rfl | (exfalso; omega)
    · simp only [show (b0 < 128) = False from eq_false (by omega), show (194 ≤ b0) = True from eq_true (by omega), show (b0 ≤ 223) = False from eq_false (by omega), show (b0 = 224) = False from eq_false (by omega), show (b0 = 237) = False from eq_false (by omega), show (b0 = 240) = False from eq_false (by omega), show (b0 = 244) = False from eq_false (by omega), show (224 ≤ b0) = True from eq_true (by omega), show (b0 ≤ 239) = False from eq_false (by omega), show (240 ≤ b0) = True from eq_true (by omega), show (b0 ≤ 244) = False from eq_false (by omega), if_true, if_false, true_and, false_and, and_true, and_false]
      try (repeat' split)
      all_goals try first | rfl | (exfalso; omega)
  · have n1 : 1 < n := by omega
    have n2 : 2 < n := by omega
    have n3 : 3 < n := by omega
    simp only [runeN, n1, n2, n3, true_and, and_true, if_true, false_and, and_false, if_false, Bool.false_eq_true, ite_self, hv1, hv2, hv3, hv4, ci0, ci1, ci2, ci3, ci4, ci5, ci6, ci7, ci8, ci9, ci10, ci11, ci12, ci13, ci14, ci15, ci16]
    clear n1 n2 n3 hn hv1 hv2 hv3 hv4 n
    have hc : (b0 < 128) ∨ (128 ≤ b0 ∧ b0 < 194) ∨ (194 ≤ b0 ∧ b0 ≤ 223) ∨ (b0 = 224) ∨ (225 ≤ b0 ∧ b0 ≤ 236) ∨ (b0 = 237) ∨ (238 ≤ b0 ∧ b0 ≤ 239) ∨ (b0 = 240) ∨ (241 ≤ b0 ∧ b0 ≤ 243) ∨ (b0 = 244) ∨ (245 ≤ b0) := by omega
    rcases hc with hc | hc | hc | hc | hc | hc | hc | hc | hc | hc | hc
    · simp only [show (b0 < 128) = True from eq_true (by omega), show (194 ≤ b0) = False from eq_false (by omega), show (b0 ≤ 223) = True from eq_true (by omega), show (b0 = 224) = False from eq_false (by omega), show (b0 = 237) = False from eq_false (by omega), show (b0 = 240) = False from eq_false (by omega), show (b0 = 244) = False from eq_false (by omega), show (224 ≤ b0) = False from eq_false (by omega), show (b0 ≤ 239) = True from eq_true (by omega), show (240 ≤ b0) = False from eq_false (by omega), show (b0 ≤ 244) = True from eq_true (by omega), if_true, if_false, true_and, false_and, and_true, and_false]
      try (repeat' split)
      all_goals try first | rfl | (exfalso; omega)
    · simp only [show (b0 < 128) = False from eq_false (by omega), show (194 ≤ b0) = False from eq_false (by omega), show (b0 ≤ 223) = True from eq_true (by omega), show (b0 = 224) = False from eq_false (by omega), show (b0 = 237) = False from eq_false (by omega), show (b0 = 240) = False from eq_false (by omega), show (b0 = 244) = False from eq_false (by omega), show (224 ≤ b0) = False from eq_false (by omega), show (b0 ≤ 239) = True from eq_true (by omega), show (240 ≤ b0) = False from eq_false (by omega), show (b0 ≤ 244) = True from eq_true (by omega), if_true, if_false, true_and, false_and, and_true, and_false]
      try (repeat' split)
      all_goals try first | rfl | (exfalso; omega)
    · simp only [show (b0 < 128) = False from eq_false (by omega), show (194 ≤ b0) = True from eq_true (by omega), show (b0 ≤ 223) = True from eq_true (by omega), show (b0 = 224) = False from eq_false (by omega), show (b0 = 237) = False from eq_false (by omega), show (b0 = 240) = False from eq_false (by omega), show (b0 = 244) = False from eq_false (by omega), show (224 ≤ b0) = False from eq_false (by omega), show (b0 ≤ 239) = True from eq_true (by omega), show (240 ≤ b0) = False from eq_false (by omega), show (b0 ≤ 244) = True from eq_true (by omega), if_true, if_false, true_and, false_and, and_true, and_false]
      try (repeat' split)
      all_goals try first | rfl | (exfalso; omega)
    · simp only [show (b0 < 128) = False from eq_false (by omega), show (194 ≤ b0) = True from eq_true (by omega), show (b0 ≤ 223) = False from eq_false (by omega), show (b0 = 224) = True from eq_true (by omega), show (b0 = 237) = False from eq_false (by omega), show (b0 = 240) = False from eq_false (by omega), show (b0 = 244) = False from eq_false (by omega), show (224 ≤ b0) = True from eq_true (by omega), show (b0 ≤ 239) = True from eq_true (by omega), show (240 ≤ b0) = False from eq_false (by omega), show (b0 ≤ 244) = True from eq_true (by omega), if_true, if_false, true_and, false_and, and_true, and_false]
      try (repeat' split)
      all_goals try first | rfl | (exfalso; omega)
    · simp only [show (b0 < 128) = False from eq_false (by omega), show (194 ≤ b0) = True from eq_true (by omega), show (b0 ≤ 223) = False from eq_false (by omega), show (b0 = 224) = False from eq_false (by omega), show (b0 = 237) = False from eq_false (by omega), show (b0 = 240) = False from eq_false (by omega), show (b0 = 244) = False from eq_false (by omega), show (224 ≤ b0) = True from eq_true (by omega), show (b0 ≤ 239) = True from eq_true (by omega), show (240 ≤ b0) = False from eq_false (by omega), show (b0 ≤ 244) = True from eq_true (by omega), if_true, if_false, true_and, false_and, and_true, and_false]
      try (repeat' split)
      all_goals try first | rfl | (exfalso; omega)
    · simp only [show (b0 < 128) = False from eq_false (by omega), show (194 ≤ b0) = True from eq_true (by omega), show (b0 ≤ 223) = False from eq_false (by omega), show (b0 = 224) = False from eq_false (by omega), show (b0 = 237) = True from eq_true (by omega), show (b0 = 240) = False from eq_false (by omega), show (b0 = 244) = False from eq_false (by omega), show (224 ≤ b0) = True from eq_true (by omega), show (b0 ≤ 239) = True from eq_true (by omega), show (240 ≤ b0) = False from eq_false (by omega), show (b0 ≤ 244) = True from eq_true (by omega), if_true, if_false, true_and, false_and, and_true, and_false]
      try (repeat' split)
      all_goals try first | rfl | (exfalso; omega)
    · simp only [show (b0 < 128) = False from eq_false (by omega), show (194 ≤ b0) = True from eq_true (by omega), show (b0 ≤ 223) = False from eq_false (by omega), show (b0 = 224) = False from eq_false (by omega), show (b0 = 237) = False from eq_false (by omega), show (b0 = 240) = False from eq_false (by omega), show (b0 = 244) = False from eq_false (by omega), show (224 ≤ b0) = True from eq_true (by omega), show (b0 ≤ 239) = True from eq_true (by omega), show (240 ≤ b0) = False from eq_false (by omega), show (b0 ≤ 244) = True from eq_true (by omega), if_true, if_false, true_and, false_and, and_true, and_false]
      try (repeat' split)
      all_goals try first | rfl | (exfalso; omega)
    · simp only [show (b0 < 128) = False from eq_false (by omega), show (194 ≤ b0) = True from eq_true (by omega), show (b0 ≤ 223) = False from eq_false (by omega), show (b0 = 224) = False from eq_false (by omega), show (b0 = 237) = False from eq_false (by omega), show (b0 = 240) = True from eq_true (by omega), show (b0 = 244) = False from eq_false (by omega), show (224 ≤ b0) = True from eq_true (by omega), show (b0 ≤ 239) = False from eq_false (by omega), show (240 ≤ b0) = True from eq_true (by omega), show (b0 ≤ 244) = True from eq_true (by omega), if_true, if_false, true_and, false_and, and_true, and_false]
      try (repeat' split)
      all_goals try first | rfl | (exfalso; omega)
    · simp only [show (b0 < 128) = False from eq_false (by omega), show (194 ≤ b0) = True from eq_true (by omega), show (b0 ≤ 223) = False from eq_false (by omega), show (b0 = 224) = False from eq_false (by omega), show (b0 = 237) = False from eq_false (by omega), show (b0 = 240) = False from eq_false (by omega), show (b0 = 244) = False from eq_false (by omega), show (224 ≤ b0) = True from eq_true (by omega), show (b0 ≤ 239) = False from eq_false (by omega), show (240 ≤ b0) = True from eq_true (by omega), show (b0 ≤ 244) = True from eq_true (by omega), if_true, if_false, true_and, false_and, and_true, and_false]
      try (repeat' split)
      all_goals try first | rfl | (exfalso; omega)
    · simp only [show (b0 < 128) = False from eq_false (by omega), show (194 ≤ b0) = True from eq_true (by omega), show (b0 ≤ 223) = False from eq_false (by omega), show (b0 = 224) = False from eq_false (by omega), show (b0 = 237) = False from eq_false (by omega), show (b0 = 240) = False from eq_false (by omega), show (b0 = 244) = True from eq_true (by omega), show (224 ≤ b0) = True from eq_true (by omega), show (b0 ≤ 239) = False from eq_false (by omega), show (240 ≤ b0) = True from eq_true (by omega), show (b0 ≤ 244) = True from eq_true (by omega), if_true, if_false, true_and, false_and, and_true, and_false]
      try (repeat' split)
      all_goals try first | rfl | (exfalso; omega)
    · simp only [show (b0 < 128) = False from eq_false (by omega), show (194 ≤ b0) = True from eq_true (by omega), show (b0 ≤ 223) = False from eq_false (by omega), show (b0 = 224) = False from eq_false (by omega), show (b0 = 237) = False from eq_false (by omega), show (b0 = 240) = False from eq_false (by omega), show (b0 = 244) = False from eq_false (by omega), show (224 ≤ b0) = True from eq_true (by omega), show (b0 ≤ 239) = False from eq_false (by omega), show (240 ≤ b0) = True from eq_true (by omega), show (b0 ≤ 244) = False from eq_false (by omega), if_true, if_false, true_and, false_and, and_true, and_false]
      try (repeat' split)
      all_goals try first | rfl | (exfalso; omega)

/-! ### Runes -/
theorem decode_w (s : ByteArray) (i : Nat) (h : i < s.size) : 1 ≤ (Utf8.decode s i).2 ∧ (Utf8.decode s i).2 ≤ 4 := by
  refine ⟨Lib.decode_width_pos s i h, ?_⟩
  rw [Lib.decode_at]
  unfold Lib.decodeN
  repeat' split
  all_goals simp
def sizesFrom (s : ByteArray) : Nat → Nat → List Int
  | 0, _ => []
  | b + 1, pos => if pos < s.size then ((Utf8.decode s pos).2 : Int) :: sizesFrom s b (pos + (Utf8.decode s pos).2) else []
def sizesOf (s : ByteArray) : List Int := sizesFrom s s.size 0

theorem runes_at (s : ByteArray) (hs : s.size ≤ 1000000000) : ∀ (b pos : Nat) (k : Nat) (xs ys : List Int), s.size ≤ pos + b → b + xs.length ≤ s.size → b + ys.length ≤ s.size → pos < s.size + 4 →
    Pr.cachepotref1_Runes.l0 (b + k + 4) s xs ys (pos : Int) = some (xs ++ runesFrom s b pos, ys ++ sizesFrom s b pos)
  | b, pos, k, xs, ys, h, hx, hy, hp => by
    rw [show b + k + 4 = (b + k + 3) + 1 from rfl]
    unfold Pr.cachepotref1_Runes.l0
    by_cases hlt : pos < s.size
    · obtain ⟨b, rfl⟩ : ∃ c, b = c + 1 := ⟨b - 1, by omega⟩
      obtain ⟨w1, w2⟩ := decode_w s pos hlt
      rw [if_pos (by omega), rune_f s pos _ hlt hs]
      simp only [Option.bind_some]
      rw [if_pos (by omega), if_pos (by omega)]
      have e : wrap64 ((pos : Int) + ((Utf8.decode s pos).2 : Int)) = ((pos + (Utf8.decode s pos).2 : Nat) : Int) := by rw [w64 _ (by omega) (by omega)]; omega
      rw [e, show b + 1 + k + 3 = b + k + 4 by omega, runes_at s hs b (pos + (Utf8.decode s pos).2) k _ _ (by omega) (by simp; omega) (by simp; omega) (by omega)]
      rw [runesFrom, sizesFrom, if_pos hlt, if_pos hlt]
      simp
    · rw [if_neg (by omega)]
      have e1 : runesFrom s b pos = [] := runesFrom_end s b pos (by omega)
      have e2 : sizesFrom s b pos = [] := by
        cases b with
        | zero => rfl
        | succ b => rw [sizesFrom, if_neg hlt]
      rw [e1, e2]
      simp
theorem runes_f (s : ByteArray) (hs : s.size ≤ 1000000000) (k : Nat) : Pr.cachepotref1_Runes.f (s.size + k + 4) s = some (runesOf s, sizesOf s) := by
  have := runes_at s hs s.size 0 k [] [] (by omega) (by simp) (by simp) (by omega)
  simpa [Pr.cachepotref1_Runes.f, runesOf, sizesOf] using this

/-! ### KeyCommon, KeyCmp, Ahead -/
def commonL : List Int → List Int → Nat
  | a :: x, b :: y => if a = b then commonL x y + 1 else 0
  | _, _ => 0
theorem commonL_le : ∀ x y : List Int, commonL x y ≤ x.length ∧ commonL x y ≤ y.length
  | [], y => by simp [commonL]
  | _ :: _, [] => by simp [commonL]
  | a :: x, b :: y => by
    unfold commonL
    split
    · have := commonL_le x y; simp; omega
    · simp

theorem common_at (x y : List Int) (hx : x.length ≤ 1000000000) : ∀ (d i k : Nat), i + d = x.length → i ≤ y.length → Pr.cachepotref1_KeyCommon.l0 (d + k + 1) x y (i : Int) = some ((i + commonL (x.drop i) (y.drop i) : Nat) : Int)
  | 0, i, k, h, hy => by
    unfold Pr.cachepotref1_KeyCommon.l0
    rw [if_neg (by omega), List.drop_eq_nil_of_le (by omega : x.length ≤ i)]
    simp [commonL]
  | d + 1, i, k, h, hy => by
    rw [show d + 1 + k + 1 = (d + k + 1) + 1 by omega]
    unfold Pr.cachepotref1_KeyCommon.l0
    have hix : i < x.length := by omega
    rw [if_pos (by omega)]
    by_cases hiy : i < y.length
    · have e1 : rd x (i : Int) = x[i] := by simp [rd, List.getD_eq_getElem?_getD, List.getElem?_eq_getElem hix]
      have e2 : rd y (i : Int) = y[i] := by simp [rd, List.getD_eq_getElem?_getD, List.getElem?_eq_getElem hiy]
      rw [if_pos (by omega), if_pos (by omega), e1, e2, List.drop_eq_getElem_cons hix, List.drop_eq_getElem_cons hiy, commonL]
      by_cases e : x[i] = y[i]
      · rw [if_pos e, if_pos e]
        have ew : wrap64 ((i : Int) + 1) = ((i + 1 : Nat) : Int) := by rw [w64 _ (by omega) (by omega)]; omega
        rw [ew, common_at x y hx d (i + 1) k (by omega) (by omega)]
        congr 1
        omega
      · rw [if_neg e, if_neg e]; rfl
    · rw [if_neg (by omega), List.drop_eq_nil_of_le (by omega : y.length ≤ i), List.drop_eq_getElem_cons hix]
      simp [commonL]

theorem cmpL_common : ∀ x y : List Int, cmpL x y = if commonL x y = x.length ∧ commonL x y = y.length then 0 else if commonL x y = x.length then -1 else if commonL x y = y.length then 1 else if x.getD (commonL x y) 0 < y.getD (commonL x y) 0 then -1 else 1
  | [], [] => by simp [cmpL, lexC, commonL]
  | [], b :: y => by simp [cmpL, lexC, commonL]
  | a :: x, [] => by simp [cmpL, lexC, commonL]
  | a :: x, b :: y => by
    have ih := cmpL_common x y
    unfold cmpL at ih ⊢
    unfold lexC commonL
    by_cases e : a = b
    · subst e
      rw [if_neg (by omega), if_neg (by omega), if_pos rfl, ih]
      simp
    · rw [if_neg e]
      by_cases h : a < b
      · rw [if_pos h]; simp [h]
      · rw [if_neg h, if_pos (by omega)]; simp [h]

theorem ahead_f (a b : ByteArray) (ha : a.size ≤ 1000000000) (hb : b.size ≤ 1000000000) : Pr.cachepotref1_Ahead.f (a.size + b.size + 4) a b = some (ltF a b) := by
  have r1 : Pr.cachepotref1_Runes.f (a.size + b.size + 4) a = some (runesOf a, sizesOf a) := runes_f a ha b.size
  have r2 : Pr.cachepotref1_Runes.f (a.size + b.size + 4) b = some (runesOf b, sizesOf b) := by rw [Nat.add_comm a.size]; exact runes_f b hb a.size
  have l1 := runesOf_le a
  have l2 := runesOf_le b
  have hc : Pr.cachepotref1_KeyCommon.f (a.size + b.size + 4) a b = some ((commonL (runesOf a) (runesOf b) : Nat) : Int) := by
    unfold Pr.cachepotref1_KeyCommon.f
    rw [r1, r2]
    simp only [Option.bind_some]
    have := common_at (runesOf a) (runesOf b) (by omega) (runesOf a).length 0 (a.size + b.size + 3 - (runesOf a).length) (by omega) (by omega)
    rw [show (runesOf a).length + (a.size + b.size + 3 - (runesOf a).length) + 1 = a.size + b.size + 4 by omega] at this
    simpa using this
  obtain ⟨m1, m2⟩ := commonL_le (runesOf a) (runesOf b)
  have hk : Pr.cachepotref1_KeyCmp.f (a.size + b.size + 4) a b = some (cmpL (runesOf a) (runesOf b)) := by
    unfold Pr.cachepotref1_KeyCmp.f
    rw [r1, r2, hc, cmpL_common]
    simp only [Option.bind_some]
    have hj : ∀ (x y : List Int) (m : Int) (t : Bool), Pr.cachepotref1_KeyCmp.j0 (a.size + b.size + 4) x y m t = (if t = true then (some 0) else (if m = (x.length : Int) then (some (-1)) else (if m = (y.length : Int) then (some 1) else (if 0 ≤ m then (if m < (x.length : Int) then (if m < (y.length : Int) then (if (rd x m) < (rd y m) then (some (-1)) else (some 1)) else (none)) else (none)) else (none))))) := fun x y m t => rfl
    simp only [hj]
    generalize commonL (runesOf a) (runesOf b) = m at *
    by_cases c1 : m = (runesOf a).length
    · rw [if_pos (by omega)]
      by_cases c2 : m = (runesOf b).length
      · rw [if_pos (beq_iff_eq.2 (by omega)), if_pos ⟨c1, c2⟩]
      · rw [if_neg (show ¬ (m = (runesOf a).length ∧ m = (runesOf b).length) from fun h => c2 h.2), if_pos c1, if_neg (fun h => c2 (by have := beq_iff_eq.1 h; omega)), if_pos (by omega)]
    · rw [if_neg (show ¬ (m = (runesOf a).length ∧ m = (runesOf b).length) from fun h => c1 h.1), if_neg c1, if_neg (by omega), if_neg (by simp), if_neg (by omega)]
      by_cases c2 : m = (runesOf b).length
      · rw [if_pos c2, if_pos (by omega)]
      · rw [if_neg c2, if_neg (by omega), if_pos (by omega), if_pos (by omega), if_pos (by omega)]
        have e1 : rd (runesOf a) (m : Int) = (runesOf a).getD m 0 := by simp [rd]
        have e2 : rd (runesOf b) (m : Int) = (runesOf b).getD m 0 := by simp [rd]
        rw [← e1, ← e2]
        by_cases h : rd (runesOf a) (m : Int) < rd (runesOf b) (m : Int)
        · rw [if_pos h, if_pos h]
        · rw [if_neg h, if_neg h]
  unfold Pr.cachepotref1_Ahead.f
  rw [hk]
  simp only [Option.bind_some]
  unfold ltF cmpF
  by_cases c0 : cmpL (runesOf a) (runesOf b) = 0
  · rw [if_neg (by omega), if_pos c0, if_pos c0]
    have e : Op.bytesLess a.toList b.toList = decide (Lib.compareBytes a.data.toList b.data.toList < 0) := by
      rw [Lib.toList_data, Lib.toList_data, bytes_lexC]
      generalize a.data.toList = x
      generalize b.data.toList = y
      induction x generalizing y with
      | nil => cases y <;> simp [Op.bytesLess, lexC]
      | cons a x ih =>
        cases y with
        | nil => simp [Op.bytesLess, lexC]
        | cons b y =>
          unfold Op.bytesLess lexC
          by_cases h1 : a < b
          · simp [h1]
          · by_cases h2 : b < a
            · have : a ≠ b := fun e => by subst e; exact h1 h2
              simp [h1, h2, this]
            · have : a = b := by rw [UInt8.lt_iff_toNat_lt] at *; exact UInt8.toNat_inj.1 (by omega)
              subst this
              simp [ih, UInt8.lt_irrefl]
    rw [e]
  · rw [if_neg c0, if_neg c0]
    by_cases c1 : cmpL (runesOf a) (runesOf b) < 0
    · rw [if_pos c1]; simp [c1]
    · rw [if_neg c1]; simp [c1]

/-- Ahead: what it answers. -/
theorem ahead_any (a b : ByteArray) (ha : a.size ≤ 1000000000) (hb : b.size ≤ 1000000000) (w : World) : Calls Tryd.prog 81 #[.string a, .string b] w fun e w' => e = .returned (.bool (ltF a b)) ∧ Below w.heap.size w w' :=
  Pr.cachepotref1_Ahead.calls _ a b _ w (ahead_f a b ha hb)
end Go.Proofs.YtmionoghpjpbaaaDoor
