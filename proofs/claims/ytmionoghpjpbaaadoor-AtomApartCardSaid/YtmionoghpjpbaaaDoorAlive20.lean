/-
  cachepotlaw20.alive returns true.
-/
import Derived.Test.YtmionoghpjpbaaaDoorAtom
namespace Go.Proofs.YtmionoghpjpbaaaDoor
open Go.RowKit Go.Proofs.YtmionoghpjpbaaaDoorW.PrintWords Go.Proofs.YtmionoghpjpbaaaDoorW.PrintLast Go.Proofs.YtmionoghpjpbaaaDoorW.PrintMore
open Go.Proofs.YtmionoghpjpbaaaDoorM
set_option linter.unusedVariables false
set_option linter.unusedSimpArgs false
attribute [local go_sem high] eqvAnswer

def sA : ByteArray := ⟨#[97]⟩
def sB : ByteArray := ⟨#[98]⟩
def s1 : ByteArray := ⟨#[49]⟩
def sE : ByteArray := ⟨#[]⟩

set_option maxHeartbeats 1000000 in
set_option maxRecDepth 100000 in
theorem alive20_any (w : World) : Calls Tryd.prog 18 #[] w fun e w' => e = .returned (.bool true) ∧ Below w.heap.size w w' := by
  go_enter Tryd.func18, Tryd.ntmps18
  go_wp2_with (go_at_call 17; refine (atomNew_any _).mono ?_; rintro e w1 ⟨rfl, hw1⟩; have HA := Aside0.mk (atomNew_is w); rw [← hw1] at HA; have HB1 : Aside0 (Below w.heap.size w w1) := ⟨by rw [hw1]; exact ((Below.refl _ _).alloc (Nat.le_refl _) _).alloc (by simp) _⟩; clear hw1)
  refine (atomCommit_any _ (w.heap.size + 1) w.heap.size 0 (fun _ => none) 3 _ 2 [⟨sA, false, s1⟩, ⟨sB, false, sE⟩] ?c ?h ?n ?s).mono ?_
  case c => exact C_lit kWrite w1 44 _ [.string sA, .bool false, .string s1, .string sB, .bool false, .string sE] (Reps.snoc (Reps.snoc (Reps.none _ _) (kWrite_mk _ ⟨sA, false, s1⟩) rfl) (kWrite_mk _ ⟨sB, false, sE⟩) rfl) (by simp [maxLen])
  case h => exact HA.out.alloc _
  case n => simp [maxLen]
  case s => intro x hx; simp at hx; rcases hx with rfl | rfl <;> simp [maxLen, sA, sB, ByteArray.size]
  rintro e w2 ⟨rfl, ha, hg⟩
  obtain ⟨s2, hs2⟩ : ∃ s, Aside0 (puts 3 ((fun _ => none), 0) [⟨sA, false, s1⟩, ⟨sB, false, sE⟩] = s) := ⟨_, ⟨rfl⟩⟩
  rw [hs2.out] at ha
  have HA2 := Aside0.mk ha
  have HB2 : Aside0 (Below w.heap.size w w2) := ⟨(below_alloc HB1.out _).grown hg (below_size (below_alloc HB1.out _)) (by intro k hk; cases hk; exact Nat.le_refl _)⟩
  clear ha hg HA HB1
  go_wp2_with fail
  refine (atomForget_any _ (w.heap.size + 1) w.heap.size s2.2 s2.1 _ 1 [sB] ?fc ?fh ?fs).mono ?_
  case fc => exact C_strs w2 9 [sB] (by simp [maxLen])
  case fh => exact HA2.out.alloc _
  case fs => intro x hx; simp at hx; subst hx; simp [maxLen, sB, ByteArray.size]
  rintro e w3 ⟨rfl, ha, hg⟩
  obtain ⟨s3, hs3⟩ : ∃ s, Aside0 (drops (s2.1, s2.2) [sB] = s) := ⟨_, ⟨rfl⟩⟩
  rw [hs3.out] at ha
  have HA3 := Aside0.mk ha
  have HB3 : Aside0 (Below w.heap.size w w3) := ⟨(below_alloc HB2.out _).grown hg (below_size (below_alloc HB2.out _)) (by intro k hk; cases hk; exact Nat.le_refl _)⟩
  clear ha hg HA2 HB2
  go_wp2_with fail
  refine (atomGet_any _ (w.heap.size + 1) w.heap.size s3.2 s3.1 _ 2 [sA, sB] ?gc ?gh ?gs ?gl).mono ?_
  case gc => exact C_strs w3 9 [sA, sB] (by simp [maxLen])
  case gh => exact HA3.out.alloc _
  case gs => intro x hx; simp at hx; rcases hx with rfl | rfl <;> simp [maxLen, sA, sB, ByteArray.size]
  case gl => simp
  rintro e w4 ⟨v, rfl, hR, hb⟩
  have hv : List.map (getF s3.1) [sA, sB] = [⟨sA, true, s1, 3⟩, ⟨sB, false, sE, 0⟩] := by
    have h1 : sA ≠ sB := by decide
    rw [← hs3.out, ← hs2.out]
    simp [puts, put1, put, drops, del, getF, h1, zAnswer_eq, sE]
  rw [hv] at hR
  have HB4 : Aside0 (Below w.heap.size w w4) := ⟨below_then (below_alloc HB3.out _) (below_size (below_alloc HB3.out _)) hb⟩
  clear HA3 HB3 hs2 hs3 hv hb
  obtain ⟨g, cap, rfl, _, _, _⟩ := Kd.R_form hR (by simp)
  obtain ⟨_, _, hC⟩ := Kd.R_reads' hR
  obtain ⟨ad, e0, a0, a1, a2, a3⟩ := atAnswer hC 0 (by omega) (by simp)
  obtain ⟨ad', e1, b0, b1, b2, b3⟩ := atAnswer hC 1 (by omega) (by simp)
  cases e0
  cases e1
  clear hR hC
  simp [rdAnswer_eq, Addr.add, sA, sB, s1, sE] at a0 a1 a2 a3 b0 b1 b2 b3
  go_wp2
  go_ret
  exact ⟨rfl, HB4.out⟩


/-! ### the law AtomNone -/

end Go.Proofs.YtmionoghpjpbaaaDoor
