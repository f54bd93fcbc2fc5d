/-
  The order of keys.Sorted: by runes, then by bytes: a total order. Sorted lists in which nothing stands twice. Plain Lean.
-/
import Derived.Test.YtmionoghpjpbaaaDoorStr
import Derived.Sort.Statements
import Derived.Lib.SlicesCompact
import Derived.Shelf.SlSortCmp.Insertion
namespace Go.Proofs.YtmionoghpjpbaaaDoorM
open Go.Sort (SWO)

/-! ### a list against a list -/
def lexC {α : Type} (lt : α → α → Prop) [DecidableRel lt] : List α → List α → Int
  | [], [] => 0
  | [], _ :: _ => -1
  | _ :: _, [] => 1
  | a :: x, b :: y => if lt a b then -1 else if lt b a then 1 else lexC lt x y

/-- What such a comparison is good for. -/
structure IsC {α : Type} (c : α → α → Int) : Prop where
  anti : ∀ a b, c b a = - c a b
  zero : ∀ a b, c a b = 0 → a = b
  trans : ∀ a b d, c a b < 0 → c b d < 0 → c a d < 0

theorem IsC.refl {α : Type} {c : α → α → Int} (h : IsC c) (a : α) : c a a = 0 := by have := h.anti a a; omega

section
variable {α : Type} {lt : α → α → Prop} [DecidableRel lt]
theorem lexC_val : ∀ x y : List α, lexC lt x y = -1 ∨ lexC lt x y = 0 ∨ lexC lt x y = 1
  | [], [] => by simp [lexC]
  | [], _ :: _ => by simp [lexC]
  | _ :: _, [] => by simp [lexC]
  | a :: x, b :: y => by
    unfold lexC
    split
    · simp
    · split
      · simp
      · exact lexC_val x y
theorem lexC_anti (asym : ∀ a b, lt a b → ¬ lt b a) : ∀ x y : List α, lexC lt y x = - lexC lt x y
  | [], [] => rfl
  | [], _ :: _ => rfl
  | _ :: _, [] => rfl
  | a :: x, b :: y => by
    unfold lexC
    by_cases h1 : lt a b
    · rw [if_neg (asym a b h1), if_pos h1, if_pos h1]; rfl
    · by_cases h2 : lt b a
      · rw [if_pos h2, if_neg h1, if_pos h2]
      · rw [if_neg h2, if_neg h1, if_neg h1, if_neg h2, lexC_anti asym x y]
theorem lexC_zero (tri : ∀ a b, ¬ lt a b → ¬ lt b a → a = b) : ∀ x y : List α, lexC lt x y = 0 → x = y
  | [], [], _ => rfl
  | [], _ :: _, h => by simp [lexC] at h
  | _ :: _, [], h => by simp [lexC] at h
  | a :: x, b :: y, h => by
    unfold lexC at h
    by_cases h1 : lt a b
    · rw [if_pos h1] at h; omega
    · by_cases h2 : lt b a
      · rw [if_neg h1, if_pos h2] at h; omega
      · rw [if_neg h1, if_neg h2] at h
        rw [tri a b h1 h2, lexC_zero tri x y h]
theorem lexC_trans (asym : ∀ a b, lt a b → ¬ lt b a) (tri : ∀ a b, ¬ lt a b → ¬ lt b a → a = b) (tr : ∀ a b d, lt a b → lt b d → lt a d) : ∀ x y z : List α, lexC lt x y < 0 → lexC lt y z < 0 → lexC lt x z < 0
  | [], [], _, h, _ => by simp [lexC] at h
  | [], _ :: _, [], _, h => by simp [lexC] at h
  | [], _ :: _, _ :: _, _, _ => by simp [lexC]
  | _ :: _, [], _, h, _ => by simp [lexC] at h
  | _ :: _, _ :: _, [], _, h => by simp [lexC] at h
  | a :: x, b :: y, d :: z, h1, h2 => by
    unfold lexC at h1 h2 ⊢
    by_cases e1 : lt a b
    · by_cases e2 : lt b d
      · rw [if_pos (tr a b d e1 e2)]; omega
      · by_cases e3 : lt d b
        · rw [if_neg e2, if_pos e3] at h2; omega
        · rw [← tri b d e2 e3, if_pos e1]; omega
    · by_cases e3 : lt b a
      · rw [if_neg e1, if_pos e3] at h1; omega
      · obtain rfl := tri a b e1 e3
        rw [if_neg e1, if_neg e1] at h1
        by_cases e2 : lt a d
        · rw [if_pos e2]; omega
        · by_cases e4 : lt d a
          · rw [if_neg e2, if_pos e4] at h2; omega
          · rw [if_neg e2, if_neg e4] at h2 ⊢
            exact lexC_trans asym tri tr x y z h1 h2
end

def cmpL (x y : List Int) : Int := lexC (fun a b : Int => a < b) x y
theorem cmpL_is : IsC cmpL :=
  ⟨lexC_anti (fun a b h => by omega), lexC_zero (fun a b h1 h2 => by omega), lexC_trans (fun a b h => by omega) (fun a b h1 h2 => by omega) (fun a b d h1 h2 => by omega)⟩
theorem bytes_lexC : ∀ x y : List UInt8, Lib.compareBytes x y = lexC (fun a b : UInt8 => a < b) x y
  | [], [] => rfl
  | [], _ :: _ => rfl
  | _ :: _, [] => rfl
  | a :: x, b :: y => by
    unfold Lib.compareBytes lexC
    rw [bytes_lexC x y]
theorem cmpB_is : IsC Lib.compareBytes := by
  have asym : ∀ a b : UInt8, a < b → ¬ b < a := fun a b h => by rw [UInt8.lt_iff_toNat_lt] at *; omega
  have tri : ∀ a b : UInt8, ¬ a < b → ¬ b < a → a = b := fun a b h1 h2 => by rw [UInt8.lt_iff_toNat_lt] at *; exact UInt8.toNat_inj.1 (by omega)
  have tr : ∀ a b d : UInt8, a < b → b < d → a < d := fun a b d h1 h2 => by rw [UInt8.lt_iff_toNat_lt] at *; omega
  refine ⟨fun a b => ?_, fun a b h => ?_, fun a b d h1 h2 => ?_⟩
  · rw [bytes_lexC, bytes_lexC]; exact lexC_anti asym a b
  · rw [bytes_lexC] at h; exact lexC_zero tri a b h
  · rw [bytes_lexC] at *; exact lexC_trans asym tri tr a b d h1 h2

/-! ### the order -/
def cmpF (a b : ByteArray) : Int := if cmpL (runesOf a) (runesOf b) = 0 then Lib.compareBytes a.data.toList b.data.toList else cmpL (runesOf a) (runesOf b)
theorem cmpF_is : IsC cmpF where
  anti a b := by
    have h1 := cmpL_is.anti (runesOf a) (runesOf b)
    have h2 := cmpB_is.anti a.data.toList b.data.toList
    unfold cmpF
    split <;> split <;> omega
  zero a b h := by
    unfold cmpF at h
    split at h
    · have := cmpB_is.zero _ _ h
      cases a; cases b
      simp only at this
      congr 1
      exact Array.toList_inj.1 this
    · omega
  trans a b d h1 h2 := by
    have t1 := cmpL_is.trans (runesOf a) (runesOf b) (runesOf d)
    have t2 := cmpB_is.trans a.data.toList b.data.toList d.data.toList
    unfold cmpF at *
    by_cases e1 : cmpL (runesOf a) (runesOf b) = 0
    · have r1 := cmpL_is.zero _ _ e1
      rw [if_pos e1] at h1
      by_cases e2 : cmpL (runesOf b) (runesOf d) = 0
      · rw [if_pos e2] at h2
        rw [r1, if_pos e2]
        exact t2 h1 h2
      · rw [if_neg e2] at h2
        rw [r1, if_neg e2]
        exact h2
    · rw [if_neg e1] at h1
      by_cases e2 : cmpL (runesOf b) (runesOf d) = 0
      · have r2 := cmpL_is.zero _ _ e2
        rw [← r2, if_neg e1]
        exact h1
      · rw [if_neg e2] at h2
        have := t1 h1 h2
        rw [if_neg (by omega)]
        exact this

def ltF (a b : ByteArray) : Bool := decide (cmpF a b < 0)
theorem ltF_irrefl (a : ByteArray) : ltF a a = false := by simp [ltF, cmpF_is.refl]
theorem ltF_trans {a b d : ByteArray} (h1 : ltF a b = true) (h2 : ltF b d = true) : ltF a d = true := by
  simp only [ltF, decide_eq_true_eq] at *
  exact cmpF_is.trans a b d h1 h2
theorem ltF_asym {a b : ByteArray} (h : ltF a b = true) : ltF b a = false := by
  have := cmpF_is.anti a b
  simp only [ltF, decide_eq_true_eq, decide_eq_false_iff_not] at *
  omega
theorem ltF_tri {a b : ByteArray} (h1 : ltF a b = false) (h2 : ltF b a = false) : a = b := by
  have := cmpF_is.anti a b
  simp only [ltF, decide_eq_false_iff_not] at *
  exact cmpF_is.zero a b (by omega)

/-! ### lists that rise -/
def Rises (l : List ByteArray) : Prop := l.Pairwise fun a b => ltF a b = true
theorem Rises.nodup {l : List ByteArray} (h : Rises l) : l.Nodup := List.Pairwise.imp (fun {a b} h e => by rw [e, ltF_irrefl] at h; cases h) h
/-- There is one rising list of given members. -/
theorem Rises.unique : ∀ {l k : List ByteArray}, Rises l → Rises k → (∀ s, s ∈ l ↔ s ∈ k) → l = k
  | [], [], _, _, _ => rfl
  | [], b :: k, _, _, h => by have := (h b).2 (by simp); simp at this
  | a :: l, [], _, _, h => by have := (h a).1 (by simp); simp at this
  | a :: l, b :: k, hl, hk, h => by
    obtain ⟨l1, l2⟩ := List.pairwise_cons.1 hl
    obtain ⟨k1, k2⟩ := List.pairwise_cons.1 hk
    have e : a = b := by
      rcases List.mem_cons.1 ((h a).1 (by simp)) with e | ha
      · exact e
      · rcases List.mem_cons.1 ((h b).2 (by simp)) with e | hb
        · exact e.symm
        · have := ltF_asym (l1 b hb)
          rw [k1 a ha] at this
          cases this
    subst e
    congr 1
    refine Rises.unique l2 k2 fun s => ⟨fun hs => ?_, fun hs => ?_⟩
    · rcases List.mem_cons.1 ((h s).1 (List.mem_cons_of_mem _ hs)) with e | hs'
      · have := l1 s hs
        rw [e, ltF_irrefl] at this
        cases this
      · exact hs'
    · rcases List.mem_cons.1 ((h s).2 (List.mem_cons_of_mem _ hs)) with e | hs'
      · have := k1 s hs
        rw [e, ltF_irrefl] at this
        cases this
      · exact hs'

end Go.Proofs.YtmionoghpjpbaaaDoorM
