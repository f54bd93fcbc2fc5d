/-
  cachepotbook.Texts, Writes, SameTexts, SameAnswers: what their printed functions tell.
-/
import Derived.Test.YtmionoghpjpbaaaDoorWrites
namespace Go.Proofs.YtmionoghpjpbaaaDoor
open Go.RowKit Go.Proofs.YtmionoghpjpbaaaDoorW.PrintWords Go.Proofs.YtmionoghpjpbaaaDoorW.PrintLast Go.Proofs.YtmionoghpjpbaaaDoorW.PrintMore
open Go.Proofs.YtmionoghpjpbaaaDoorM
set_option linter.unusedVariables false
set_option linter.unusedSimpArgs false

/-- A text's first bytes. -/
def shortT (n : Int) (s : ByteArray) : ByteArray := s.extract 0 (mn (s.size : Int) n).toNat
theorem shortT_size (n : Int) (s : ByteArray) : (shortT n s).size ≤ n.toNat := by
  unfold shortT mn
  rw [ByteArray.size_extract]
  split <;> omega
def shortW (x : Write) : Write := ⟨shortT 60 x.f0, x.f1, shortT 60 x.f2⟩

theorem texts_at (l : List ByteArray) (m n : Int) (hm : 0 ≤ m) (hm2 : m ≤ 1000000) (hn : 0 ≤ n) : ∀ (d i : Nat), (i : Int) + d = mn (l.length : Int) m →
    Pr.cachepotbook_Texts.l0 (d + 1) l m n ((l.take i).map (shortT n)) (i : Int) = some ((l.take m.toNat).map (shortT n)) := by
  intro d
  induction d with
  | zero =>
    intro i hi
    unfold Pr.cachepotbook_Texts.l0
    unfold mn at hi
    by_cases h1 : (i : Int) < (l.length : Int)
    · rw [if_pos h1, if_neg (by split at hi <;> omega)]
      have : m.toNat = i := by split at hi <;> omega
      rw [this]
    · rw [if_neg h1]
      have h3 : l.length ≤ i := by omega
      have h4 : l.length ≤ m.toNat := by split at hi <;> omega
      rw [List.take_of_length_le h3, List.take_of_length_le h4]
  | succ d ih =>
    intro i hi
    have h1 : (i : Int) < (l.length : Int) := by unfold mn at hi; split at hi <;> omega
    have h2 : (i : Int) < m := by unfold mn at hi; split at hi <;> omega
    have hlt : i < l.length := by omega
    unfold Pr.cachepotbook_Texts.l0
    rw [if_pos h1, if_pos h2, if_pos (by omega), short_f _ _ hn]
    simp only [Option.bind_some]
    rw [if_pos (by rw [List.length_map, List.length_take]; omega)]
    have e1 : rdOf ByteArray.empty l (i : Int) = l[i] := by rw [rdOf_get (by simpa using hlt)]; simp
    rw [e1, wsucc i (by omega)]
    have e2 : (l.take i).map (shortT n) ++ [l[i].extract 0 (mn (l[i].size : Int) n).toNat] = (l.take (i + 1)).map (shortT n) := by
      rw [List.take_succ_eq_append_getElem hlt, List.map_append]
      rfl
    rw [e2]
    exact ih (i + 1) (by omega)
theorem texts_f (l : List ByteArray) (m n : Int) (hm : 0 ≤ m) (hm2 : m ≤ 1000000) (hn : 0 ≤ n) : ∃ k, Pr.cachepotbook_Texts.f k l m n = some ((l.take m.toNat).map (shortT n)) :=
  ⟨(mn (l.length : Int) m).toNat + 1, texts_at l m n hm hm2 hn _ 0 (by unfold mn; split <;> omega)⟩

theorem writes_at (l : List Write) (m : Int) (hm : 0 ≤ m) (hm2 : m ≤ 1000000) : ∀ (d i : Nat), (i : Int) + d = mn (l.length : Int) m →
    Pr.cachepotbook_Writes.l0 (2 * d + 2) l m ((l.take i).map shortW) (i : Int) = some ((l.take m.toNat).map shortW) := by
  intro d
  induction d with
  | zero =>
    intro i hi
    unfold Pr.cachepotbook_Writes.l0
    unfold mn at hi
    by_cases h1 : (i : Int) < (l.length : Int)
    · rw [if_pos h1]
      unfold Pr.cachepotbook_Writes.j1
      rw [if_neg (by simp; split at hi <;> omega)]
      have : m.toNat = i := by split at hi <;> omega
      rw [this]
    · rw [if_neg h1]
      unfold Pr.cachepotbook_Writes.j1
      rw [if_neg (by simp)]
      have h3 : l.length ≤ i := by omega
      have h4 : l.length ≤ m.toNat := by split at hi <;> omega
      rw [List.take_of_length_le h3, List.take_of_length_le h4]
  | succ d ih =>
    intro i hi
    have h1 : (i : Int) < (l.length : Int) := by unfold mn at hi; split at hi <;> omega
    have h2 : (i : Int) < m := by unfold mn at hi; split at hi <;> omega
    have hlt : i < l.length := by omega
    rw [show 2 * (d + 1) + 2 = (2 * d + 2 + 1) + 1 by omega]
    unfold Pr.cachepotbook_Writes.l0
    rw [if_pos h1]
    unfold Pr.cachepotbook_Writes.j1
    rw [if_pos (by simpa using h2), if_pos (by omega), if_pos h1, short_f _ _ (by omega), short_f _ _ (by omega)]
    simp only [Option.bind_some]
    rw [if_pos (by rw [List.length_map, List.length_take]; omega)]
    have e1 : Pr.rd_T44 l (i : Int) = l[i] := by
      have := rdWrite_get (xs := l) (i := (i : Int)) (by simpa using hlt)
      simpa using this
    rw [e1, wsucc i (by omega)]
    have e2 : (l.take i).map shortW ++ [(⟨l[i].f0.extract 0 (mn (l[i].f0.size : Int) 60).toNat, l[i].f1, l[i].f2.extract 0 (mn (l[i].f2.size : Int) 60).toNat⟩ : Write)] = (l.take (i + 1)).map shortW := by
      rw [List.take_succ_eq_append_getElem hlt, List.map_append]
      rfl
    rw [e2]
    exact ih (i + 1) (by omega)
theorem writes_f (l : List Write) (m : Int) (hm : 0 ≤ m) (hm2 : m ≤ 1000000) : ∃ k, Pr.cachepotbook_Writes.f k l m = some ((l.take m.toNat).map shortW) :=
  ⟨2 * (mn (l.length : Int) m).toNat + 2, writes_at l m hm hm2 _ 0 (by unfold mn; split <;> omega)⟩

/-! ### what is the same is told so -/
theorem sameT_at (l : List ByteArray) (hl : l.length ≤ 1000000000) : ∀ (d i : Nat), i + d = l.length → Pr.cachepotbook_SameTexts.l0 (d + 1) l l (i : Int) = some true
  | 0, i, h => by
    unfold Pr.cachepotbook_SameTexts.l0
    rw [if_neg (by omega)]
  | d + 1, i, h => by
    unfold Pr.cachepotbook_SameTexts.l0
    rw [if_pos (by omega), if_pos (by omega), if_pos (by omega), if_pos rfl, wsucc i (by omega)]
    exact sameT_at l hl d (i + 1) (by omega)
theorem sameTexts_any (A B : Option Addr) (c c' : Nat) (l : List ByteArray) (w : World) (hA : Kd.C Kd.string w A l.length l) (hc : l.length ≤ c) (hB : Kd.C Kd.string w B l.length l) (hc' : l.length ≤ c') (hl : l.length ≤ 1000000000) :
    Calls Tryd.prog 29 #[.slice A l.length c, .slice B l.length c'] w fun e w' => e = .returned (.bool true) ∧ Below w.heap.size w w' :=
  (Pr.cachepotbook_SameTexts.calls (l.length + 1) A c l B c' l true w hA hc hB hc' (by unfold Pr.cachepotbook_SameTexts.f; rw [if_pos rfl]; exact sameT_at l hl l.length 0 (by omega))).mono fun e w' h => ⟨h.1, h.2.below⟩

theorem sameA_at (l : List Answer) (hl : l.length ≤ 1000000000) : ∀ (d i : Nat), i + d = l.length → Pr.cachepotbook_SameAnswers.l0 (d + 1) l l (i : Int) = some true
  | 0, i, h => by
    unfold Pr.cachepotbook_SameAnswers.l0
    rw [if_neg (by omega)]
  | d + 1, i, h => by
    unfold Pr.cachepotbook_SameAnswers.l0
    rw [if_pos (by omega), if_pos (by omega), if_pos (by omega), if_neg (by simp), wsucc i (by omega)]
    exact sameA_at l hl d (i + 1) (by omega)
theorem sameAnswers_any (A B : Option Addr) (c c' : Nat) (l : List Answer) (w : World) (hA : Kd.C kAnswer w A l.length l) (hc : l.length ≤ c) (hB : Kd.C kAnswer w B l.length l) (hc' : l.length ≤ c') (hl : l.length ≤ 1000000000) :
    Calls Tryd.prog 23 #[.slice A l.length c, .slice B l.length c'] w fun e w' => e = .returned (.bool true) ∧ Below w.heap.size w w' :=
  (Pr.cachepotbook_SameAnswers.calls (l.length + 1) A c l B c' l true w hA hc hB hc' (by unfold Pr.cachepotbook_SameAnswers.f; rw [if_pos rfl]; exact sameA_at l hl l.length 0 (by omega))).mono fun e w' h => ⟨h.1, h.2.below⟩

theorem textsB_any (A : Option Addr) (c : Nat) (l : List ByteArray) (m n : Int) (w : World) (hC : Kd.C Kd.string w A l.length l) (hc : l.length ≤ c) (hm : 0 ≤ m) (hm2 : m ≤ 1000000) (hn : 0 ≤ n) :
    Calls Tryd.prog 78 #[.slice A l.length c, .int .i64 m, .int .i64 n] w fun e w' => ∃ v, e = .returned v ∧ Kd.R Kd.string 9 w' w.heap.size (fun _ => True) v ((l.take m.toNat).map (shortT n)) ∧ Below w.heap.size w w' := by
  obtain ⟨k, hk⟩ := texts_f l m n hm hm2 hn
  exact Pr.cachepotbook_Texts.calls k A c l m n _ w hC hc hk
theorem writesB_any (A : Option Addr) (c : Nat) (l : List Write) (m : Int) (w : World) (hC : Kd.C kWrite w A l.length l) (hc : l.length ≤ c) (hm : 0 ≤ m) (hm2 : m ≤ 1000000) :
    Calls Tryd.prog 80 #[.slice A l.length c, .int .i64 m] w fun e w' => ∃ v, e = .returned v ∧ Kd.R kWrite 44 w' w.heap.size (fun _ => True) v ((l.take m.toNat).map shortW) ∧ Below w.heap.size w w' := by
  obtain ⟨k, hk⟩ := writes_f l m hm hm2
  exact Pr.cachepotbook_Writes.calls k A c l m _ w hC hc hk
/-- A number below m. -/
theorem pickB (n m : Int) (hm : 0 < m) (hm2 : m < 1000000) : ∃ p : Int, 0 ≤ p ∧ p < m ∧ Pr.cachepotbook_Pick.f n m = some p := by
  unfold Pr.cachepotbook_Pick.f
  have h1 := Int.tmod_lt_of_pos n hm
  have h2 : -m < Int.tmod n m := by
    have := Int.tmod_lt_of_pos (-n) hm
    rw [Int.neg_tmod] at this
    omega
  rw [if_neg (by omega)]
  by_cases h : Int.tmod n m < 0
  · rw [if_pos h, w64 _ (by omega) (by omega)]
    exact ⟨_, by omega, by omega, rfl⟩
  · rw [if_neg h]
    exact ⟨_, by omega, by omega, rfl⟩
theorem pickB_any (n m : Int) (hm : 0 < m) (hm2 : m < 1000000) (w : World) : ∃ p : Int, 0 ≤ p ∧ p < m ∧ Calls Tryd.prog 19 #[.int .i64 n, .int .i64 m] w fun e w' => e = .returned (.int .i64 p) ∧ Below w.heap.size w w' := by
  obtain ⟨p, h0, h1, hp⟩ := pickB n m hm hm2
  exact ⟨p, h0, h1, (Pr.cachepotbook_Pick.calls n m p w hp).mono fun e w' h => ⟨h.1, h.2.below⟩⟩
end Go.Proofs.YtmionoghpjpbaaaDoor
