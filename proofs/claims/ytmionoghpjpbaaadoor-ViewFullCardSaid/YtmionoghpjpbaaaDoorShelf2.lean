/-
  The package shelf: Top; the methods of a shelf that is none; cachepotlaw15.alive.
-/
import Derived.Test.YtmionoghpjpbaaaDoorShelf
namespace Go.Proofs.YtmionoghpjpbaaaDoor
open Go.RowKit Go.Proofs.YtmionoghpjpbaaaDoorW.PrintWords Go.Proofs.YtmionoghpjpbaaaDoorW.PrintLast Go.Proofs.YtmionoghpjpbaaaDoorW.PrintMore
open Go.Proofs.YtmionoghpjpbaaaDoorM
set_option linter.unusedVariables false
set_option linter.unusedSimpArgs false
attribute [local go_sem] max2_int min2_int max_two min_two

/-- What Top tells. -/
def IsTop (f : ByteArray → Option Cell) (seq t : Int) : Prop :=
  0 ≤ t ∧ (∀ s c, f s = some c → c.f1 ≤ seq → c.f2 ≤ t) ∧ (t = 0 ∨ ∃ s c, f s = some c ∧ c.f1 ≤ seq ∧ c.f2 = t)
/-- .. on the way. -/
def IsTopL (f : ByteArray → Option Cell) (left : ByteArray → Bool) (seq t : Int) : Prop :=
  0 ≤ t ∧ (∀ s c, f s = some c → left s = false → c.f1 ≤ seq → c.f2 ≤ t) ∧ (t = 0 ∨ ∃ s c, f s = some c ∧ c.f1 ≤ seq ∧ c.f2 = t)

theorem topL_step {f : ByteArray → Option Cell} {left : ByteArray → Bool} {seq t t' : Int} {s : ByteArray} {c : Cell} (h : IsTopL f left seq t) (hf : f s = some c) (h1 : t ≤ t') (h2 : c.f1 ≤ seq → c.f2 ≤ t') (h3 : t' = t ∨ (t' = c.f2 ∧ c.f1 ≤ seq)) :
    IsTopL f (fun x => left x && !decide (x = s)) seq t' := by
  obtain ⟨a0, a1, a2⟩ := h
  refine ⟨by omega, fun s' c' hf' hl hle => ?_, ?_⟩
  · by_cases e : s' = s
    · subst e
      rw [hf] at hf'
      cases hf'
      exact h2 hle
    · have : left s' = false := by simpa [e] using hl
      have := a1 s' c' hf' this hle
      omega
  · rcases h3 with rfl | ⟨rfl, hle⟩
    · exact a2
    · exact .inr ⟨s, c, hf, hle, rfl⟩

set_option maxHeartbeats 1000000 in
set_option maxRecDepth 100000 in
theorem shelfTop_any (w : World) (g b n : Nat) (f : ByteArray → Option Cell) (seq : Int) (h : ShelfIs w g b n f) :
    Calls Tryd.prog 43 #[.pointer (some ⟨g, 0, none⟩), .int .u32 seq] w fun e w' =>
      (∃ t, e = .returned (.int .u32 t) ∧ IsTop f seq t) ∧ Below w.heap.size w w' := by
  have hcell := h.cell
  have H := Aside0.mk h
  have HB0 := Aside0.mk (Below.refl w.heap.size w)
  clear h
  go_enter Tryd.func43, Tryd.ntmps43
  go_wp2_with (at_range; refine wp_range _ rfl (.tmp 13) 141 rfl eCell keyedS Tryd.underlying141 b n f rfl H.out.2 ?_; intro w0 hr0 hg0 _; have HR := Aside0.mk hr0; have HB : Aside0 (Below w.heap.size w w0) := ⟨(Below.refl _ _).grown hg0 (Nat.le_refl _) (fun k hk => by cases hk)⟩; clear hr0 hg0)
  go_frame
  go_loopg [5] n (fun kq v5 w' => ∃ t : Int, v5 = .int .u32 t ∧ Aside0 (∃ left, RangeIs Tryd.prog 9 eCell w' b w.heap.size n f left kq ∧ (∀ s, left s = true → (f s).isSome = true) ∧ IsTopL f left seq t) ∧ Aside0 (Below w.heap.size w w'))
  case atStart => exact ⟨0, rfl, ⟨_, HR.out, fun s hs => hs, Int.le_refl _, fun s c hf hl => by simp [hf] at hl, .inl rfl⟩, HB⟩
  case round =>
    obtain ⟨t, rfl, HL, HB1⟩ := hrel
    obtain ⟨left, hr, hs, ht⟩ := HL.out
    have HS := Aside0.mk hs
    have HT := Aside0.mk ht
    have HR1 := Aside0.mk hr
    clear hr hs ht HL
    go_wp2_with (at_next; refine wp_next _ rfl (.tmp 14) rfl eCell keyedS Tryd.underlying9 b w.heap.size n f left gk rfl HR1.out HS.out ?_ ?_)
    · intro _ hdone
      have HD := Aside0.mk hdone
      clear hdone
      go_wp2
      go_ret
      exact ⟨⟨t, rfl, HT.out.1, fun s c hf hle => HT.out.2.1 s c hf (HD.out s) hle, HT.out.2.2⟩, HB1.out⟩
    · intro s c w2 cnt hsz hls hf hrg hlt hgr hsz2 hen
      have hen' : (Instr.entry (.pointer (some ⟨w.heap.size, 0, none⟩))).run Tryd.prog w2 = .ok (.tuple #[.string s, .agg #[.string c.f0, .int .u32 c.f1, .int .u32 c.f2]]) w2 := hen
      have HB2 : Aside0 (Below w.heap.size w w2) := ⟨HB1.out.grown hgr HB1.out.size (fun k hk => by cases hk; exact Nat.le_refl _)⟩
      have HR2 := Aside0.mk hrg
      have HF := Aside0.mk hf
      have HLS := Aside0.mk hls
      have HLT := Aside0.mk hlt
      clear hsz hls hf hrg hlt hgr hen HB1 HR1
      rw [show eCell.enc c = .agg #[.string c.f0, .int .u32 c.f1, .int .u32 c.f2] from rfl]
      clear hsz2
      have HSS : Aside0 (∀ x, (left x && !decide (x = s)) = true → (f x).isSome = true) := ⟨fun x hx => HS.out x (by simp at hx; exact hx.1)⟩
      by_cases hle : c.f1 ≤ seq
      · go_wp2
        all_goals
          go_roundg cnt
          case measure => exact HLT.out
          case rel => exact ⟨_, rfl, ⟨_, RangeIs.alloc HR2.out _, HSS.out, topL_step HT.out HF.out (by omega) (fun _ => by omega) (by first | exact .inl rfl | exact .inr ⟨rfl, hle⟩)⟩, ⟨below_alloc HB2.out _⟩⟩
      · go_wp2
        go_roundg cnt
        case measure => exact HLT.out
        case rel => exact ⟨_, rfl, ⟨_, RangeIs.alloc HR2.out _, HSS.out, topL_step HT.out HF.out (by omega) (fun _ => by omega) (.inl rfl)⟩, ⟨below_alloc HB2.out _⟩⟩

theorem shelfTop_nil (w : World) (seq : Value) : Calls Tryd.prog 43 #[.pointer none, seq] w fun e w' => e = .returned (.int .u32 0) ∧ w = w' := by
  go_enter Tryd.func43, Tryd.ntmps43
  go_wp2
  go_ret
  exact ⟨rfl, rfl⟩
theorem shelfThose_nil (w : World) (f : Value) : Calls Tryd.prog 84 #[.pointer none, f] w fun e w' => e = .returned (.slice none 0 0) ∧ w = w' := by
  go_enter Tryd.func84, Tryd.ntmps84
  go_wp2
  go_ret
  exact ⟨rfl, rfl⟩
theorem shelfKeys_nil (w : World) : Calls Tryd.prog 48 #[.pointer none] w fun e w' => e = .returned (.slice none 0 0) ∧ Below w.heap.size w w' := by
  go_enter Tryd.func48, Tryd.ntmps48
  go_wp2_with (go_at_call 84; refine (shelfThose_nil _ _).mono ?_; rintro e w' ⟨rfl, rfl⟩)
  go_ret
  exact ⟨rfl, Below.refl _ _⟩
theorem shelfLive_nil (w : World) (seq : Int) : Calls Tryd.prog 40 #[.pointer none, .int .u32 seq] w fun e w' => e = .returned (.slice none 0 0) ∧ Below w.heap.size w w' := by
  go_enter Tryd.func40, Tryd.ntmps40
  go_wp2_with (go_at_call 84; refine (shelfThose_nil _ _).mono ?_; rintro e w' ⟨rfl, rfl⟩)
  go_ret
  exact ⟨rfl, by first | exact Below.refl _ _ | exact below_alloc (Below.refl _ _) _⟩
theorem shelfDrop_nil (w : World) (seq from_ : Int) : Calls Tryd.prog 41 #[.pointer none, .int .u32 seq, .int .u32 from_] w fun e w' => e = .returned (.slice none 0 0) ∧ Below w.heap.size w w' := by
  go_enter Tryd.func41, Tryd.ntmps41
  go_wp2_with (go_at_call 84; refine (shelfThose_nil _ _).mono ?_; rintro e w' ⟨rfl, rfl⟩)
  refine wp_loop_rounds 1 ?_
  rw [rounds_succ]
  go_wp2
  go_ret
  exact ⟨rfl, ((Below.refl _ _).alloc (by simp) _).alloc (by simp) _⟩

/-! ### cachepotlaw15.alive -/
def kA : ByteArray := ⟨#[97]⟩
def kB : ByteArray := ⟨#[98]⟩
def kV : ByteArray := ⟨#[118]⟩
theorem puts_ab : Pr.cachepotlaw15_puts.f 5 [kA, kB] = some [⟨kA, false, kV⟩, ⟨kB, false, kV⟩] := by kernel_rfl

theorem alive15_state : (lays 3 3 ((fun _ => none), 0) [⟨kA, false, kV⟩, ⟨kB, false, kV⟩]).1 kA = some ⟨kA, 3, 3⟩ ∧ (lays 3 3 ((fun _ => none), 0) [⟨kA, false, kV⟩, ⟨kB, false, kV⟩]).2 = 2 ∧
    IsTop (lays 3 3 ((fun _ => none), 0) [⟨kA, false, kV⟩, ⟨kB, false, kV⟩]).1 9 3 := by
  have h1 : kA ≠ kB := by decide
  simp only [lays, lay1, put, putN, List.foldl]
  refine ⟨by simp [put, h1], by simp [put, Ne.symm h1], by omega, fun s c hf _ => ?_, .inr ⟨kA, ⟨kA, 3, 3⟩, by simp [put, h1], by simp, rfl⟩⟩
  have hf' : (if s = kB then some (⟨kB, 3, 3⟩ : Cell) else if s = kA then some ⟨kA, 3, 3⟩ else none) = some c := hf
  by_cases e1 : s = kB
  · rw [if_pos e1] at hf'; cases hf'; simp
  · by_cases e2 : s = kA
    · rw [if_neg e1, if_pos e2] at hf'; cases hf'; simp
    · rw [if_neg e1, if_neg e2] at hf'; cases hf'

set_option maxHeartbeats 1000000 in
set_option maxRecDepth 100000 in
theorem alive15_any (w : World) : Calls Tryd.prog 36 #[] w fun e w' => e = .returned (.bool true) ∧ Below w.heap.size w w' := by
  go_enter Tryd.func36, Tryd.ntmps36
  go_wp2_with (go_at_call 44; refine (shelfNew_any _).mono ?_; rintro e w1 ⟨rfl, hw1⟩; have HA := Aside0.mk (shelfNew_is w); rw [← hw1] at HA; have HB1 : Aside0 (Below w.heap.size w w1) := ⟨by rw [hw1]; exact ((Below.refl _ _).alloc (Nat.le_refl _) _).alloc (by simp) _⟩; clear hw1)
  refine (Pr.cachepotlaw15_puts.calls 5 _ 2 [kA, kB] _ _ ?pc ?pl puts_ab).mono ?_
  case pc => exact C_strs w1 9 [kA, kB] (by simp [maxLen])
  case pl => simp
  rintro e w2 ⟨v, rfl, hR, hb⟩
  have HB2 : Aside0 (Below w.heap.size w w2) := ⟨below_then (below_alloc HB1.out _) (below_size (below_alloc HB1.out _)) hb⟩
  have HA2 : Aside0 (ShelfIs w2 (w.heap.size + 1) w.heap.size 0 (fun _ => none)) := ⟨(HA.out.alloc _).below hb⟩
  obtain ⟨g2, cap, rfl, _, _, _⟩ := Kd.R_form hR (by simp)
  obtain ⟨_, _, hC⟩ := Kd.R_reads' hR
  have HC := Aside0.mk hC
  clear hR hC hb HA HB1
  go_wp2_with fail
  refine (shelfApply_any _ (w.heap.size + 1) w.heap.size 0 (fun _ => none) 3 0 3 _ cap [⟨kA, false, kV⟩, ⟨kB, false, kV⟩] HC.out HA2.out ?anN ?anS).mono ?_
  case anN => simp [maxLen]
  case anS => intro x hx; simp at hx; rcases hx with rfl | rfl <;> simp [maxLen, kA, kB, ByteArray.size]
  rintro e w3 ⟨rfl, ha, hg⟩
  obtain ⟨s2, hs2⟩ : ∃ s, Aside0 (lays 3 3 ((fun _ => none), 0) [⟨kA, false, kV⟩, ⟨kB, false, kV⟩] = s) := ⟨_, ⟨rfl⟩⟩
  rw [hs2.out] at ha
  have hv := alive15_state
  rw [hs2.out] at hv
  have HA3 := Aside0.mk ha
  have HB3 : Aside0 (Below w.heap.size w w3) := ⟨HB2.out.grown hg (below_size HB2.out) (by intro k hk; cases hk; exact Nat.le_refl _)⟩
  have HV := Aside0.mk hv
  clear ha hg HA2 HB2 HC hs2 hv
  go_wp2_with fail
  refine (shelfGet_any _ (w.heap.size + 1) w.heap.size s2.2 s2.1 kA HA3.out (by simp [maxLen, kA, ByteArray.size])).mono ?_
  rintro e w4 ⟨rfl, hb⟩
  rw [HV.out.1]
  rw [show eCell.enc ((some (⟨kA, 3, 3⟩ : Cell)).getD zCell) = .agg #[.string ⟨#[97]⟩, .int .u32 3, .int .u32 3] from rfl, show (some (⟨kA, 3, 3⟩ : Cell)).isSome = true from rfl]
  have HA4 : Aside0 (ShelfIs w4 (w.heap.size + 1) w.heap.size s2.2 s2.1) := ⟨HA3.out.below hb⟩
  have HB4 : Aside0 (Below w.heap.size w w4) := ⟨below_then HB3.out (below_size HB3.out) hb⟩
  clear hb HA3 HB3
  go_wp2_with fail
  refine (shelfLen_any _ (w.heap.size + 1) w.heap.size s2.2 s2.1 (HA4.out.alloc _)).mono ?_
  rintro e w5 ⟨rfl, rfl⟩
  rw [HV.out.2.1]
  go_wp2_with fail
  refine (shelfTop_any _ (w.heap.size + 1) w.heap.size s2.2 s2.1 9 (HA4.out.alloc _)).mono ?_
  rintro e w6 ⟨⟨t, rfl, ht⟩, hb⟩
  have h3 : t = 3 := by
    obtain ⟨a0, a1, a2⟩ := ht
    obtain ⟨b0, b1, b2⟩ := HV.out.2.2
    rcases b2 with b2 | ⟨s, c, hf, hl, hc⟩
    · omega
    · have := a1 s c hf hl
      rcases a2 with a2 | ⟨s', c', hf', hl', hc'⟩
      · omega
      · have := b1 s' c' hf' hl'
        omega
  subst h3
  have HB6 : Aside0 (Below w.heap.size w w6) := ⟨below_then (below_alloc HB4.out _) (below_size (below_alloc HB4.out _)) hb⟩
  clear hb ht HA4 HB4 HV
  go_wp2
  go_ret
  exact ⟨rfl, HB6.out⟩

/-! ### the law ShelfNone -/

end Go.Proofs.YtmionoghpjpbaaaDoor
