/-
  cachepot/view: New, Put, Del, Look, Staged, Reads; alive of cachepotlaw22.
-/
import Derived.Test.YtmionoghpjpbaaaDoorView
namespace Go.Proofs.YtmionoghpjpbaaaDoor
open Go.RowKit Go.Proofs.YtmionoghpjpbaaaDoorW.PrintWords Go.Proofs.YtmionoghpjpbaaaDoorW.PrintLast Go.Proofs.YtmionoghpjpbaaaDoorW.PrintMore
open Go.Proofs.YtmionoghpjpbaaaDoorM
set_option linter.unusedVariables false
set_option linter.unusedSimpArgs false
attribute [local go_sem ↓] Go.wp_at_zero Go.wp_at_succ
attribute [local go_sem high] eqvWrite
set_option maxHeartbeats 2000000
set_option maxRecDepth 100000

theorem viewNew_any (w : World) : Calls Tryd.prog 50 #[] w fun e w' => e = .returned (.pointer (some ⟨w.heap.size, 0, none⟩)) ∧ w' = w.alloc (.cells #[.slice none 0 0, .slice none 0 0] 147) := by
  go_enter Tryd.func50, Tryd.ntmps50
  go_wp2
  go_ret
  exact ⟨rfl, rfl⟩
theorem viewNew_is (w : World) (base : Nat) : ViewIs (w.alloc (.cells #[.slice none 0 0, .slice none 0 0] 147)) w.heap.size base none [] [] :=
  ⟨_, _, heap_alloc_new _ _, rfl, Kd.R_nil _ _ _ _ _, Kd.R_nil _ _ _ _ _⟩

/-- What a call that stages leaves. -/
def StageOf (w : World) (g base : Nat) (b1 : Option Nat) (V : List Write) (R : List Rd) (x : Write) (e : Ending) (w' : World) : Prop :=
  ∃ b2, e = .returned (.int .i64 (stageC V x)) ∧ ViewIs w' g base b2 (stageL V x) R ∧ (b2 = b1 ∨ ∃ k, b2 = some k ∧ w.heap.size ≤ k) ∧ Kept w w' g b1
theorem put_any (w : World) (g base : Nat) (b1 : Option Nat) (V : List Write) (R : List Rd) (k v : ByteArray) (hT : Lib.Utf8Tabs 2 3 w) (hbase : base ≤ w.heap.size) (h : ViewIs w g base b1 V R) (hV : V.length ≤ 100) (hx : k.size ≤ 1000000000) :
    Calls Tryd.prog 54 #[.pointer (some ⟨g, 0, none⟩), .string k, .string v] w (StageOf w g base b1 V R ⟨k, false, v⟩) := by
  have HS := Aside0.mk (stage_any w g base b1 V R ⟨k, false, v⟩ hT hbase h hV hx)
  clear hT hbase h hV hx
  go_enter Tryd.func54, Tryd.ntmps54
  go_wp2_with fail
  refine HS.out.mono ?_
  rintro e w1 ⟨b2, rfl, h1, h2, h3⟩
  have HF := Aside0.mk (And.intro h1 (And.intro h2 h3))
  clear h1 h2 h3
  go_wp2
  go_ret
  exact ⟨b2, rfl, HF.out.1, HF.out.2.1, HF.out.2.2⟩
theorem del_any (w : World) (g base : Nat) (b1 : Option Nat) (V : List Write) (R : List Rd) (k : ByteArray) (hT : Lib.Utf8Tabs 2 3 w) (hbase : base ≤ w.heap.size) (h : ViewIs w g base b1 V R) (hV : V.length ≤ 100) (hx : k.size ≤ 1000000000) :
    Calls Tryd.prog 53 #[.pointer (some ⟨g, 0, none⟩), .string k] w (StageOf w g base b1 V R ⟨k, true, ⟨#[]⟩⟩) := by
  have HS := Aside0.mk (stage_any w g base b1 V R ⟨k, true, ⟨#[]⟩⟩ hT hbase h hV hx)
  clear hT hbase h hV hx
  go_enter Tryd.func53, Tryd.ntmps53
  go_wp2_with fail
  refine HS.out.mono ?_
  rintro e w1 ⟨b2, rfl, h1, h2, h3⟩
  have HF := Aside0.mk (And.intro h1 (And.intro h2 h3))
  clear h1 h2 h3
  go_wp2
  go_ret
  exact ⟨b2, rfl, HF.out.1, HF.out.2.1, HF.out.2.2⟩
theorem put_nil (w : World) (k v : ByteArray) : Calls Tryd.prog 54 #[.pointer none, .string k, .string v] w fun e w' => e = .returned (.int .i64 1) ∧ Below w.heap.size w w' := by
  go_enter Tryd.func54, Tryd.ntmps54
  go_wp2_with fail
  refine (stage_nil _ ⟨_, _, _, rfl⟩ w).mono ?_
  rintro e w1 ⟨rfl, hb⟩
  have HB := Aside0.mk hb
  clear hb
  go_wp2
  go_ret
  exact ⟨rfl, HB.out⟩
theorem del_nil (w : World) (k : ByteArray) : Calls Tryd.prog 53 #[.pointer none, .string k] w fun e w' => e = .returned (.int .i64 1) ∧ Below w.heap.size w w' := by
  go_enter Tryd.func53, Tryd.ntmps53
  go_wp2_with fail
  refine (stage_nil _ ⟨_, _, _, rfl⟩ w).mono ?_
  rintro e w1 ⟨rfl, hb⟩
  have HB := Aside0.mk hb
  clear hb
  go_wp2
  go_ret
  exact ⟨rfl, HB.out⟩

theorem staged_any (w : World) (g base : Nat) (b1 : Option Nat) (V : List Write) (R : List Rd) (h : ViewIs w g base b1 V R) (hV : V.length ≤ 100) (hs : ∀ x ∈ V, x.f0.size ≤ 1000000000) :
    Calls Tryd.prog 57 #[.pointer (some ⟨g, 0, none⟩)] w fun e w' => ∃ v ws, e = .returned v ∧ Kd.R kWrite 44 w' w.heap.size (fun _ => True) v ws ∧ IsMade V ws ∧ Below w.heap.size w w' := by
  obtain ⟨v1, v2, hg, _, hR1, _⟩ := h
  obtain ⟨A1, n1, rfl⟩ : ∃ A1 n1, v1 = .slice A1 V.length n1 := Kd.R_slice hR1
  obtain ⟨_, hc1, hC1⟩ := Kd.R_reads' hR1
  have HS := Aside0.mk (batchMakeP_any A1 n1 V w hC1 hc1 (by omega) hs)
  have hcell : w.cell? ⟨g, 0, none⟩ = some (.slice A1 V.length n1) := by simp [World.cell?, hg]
  clear hR1 hg hC1 hc1 hs hV
  go_enter Tryd.func57, Tryd.ntmps57
  go_wp2_with fail
  refine HS.out.mono ?_
  rintro e w1 ⟨v, ws, rfl, h1, h2, h3⟩
  have HF := Aside0.mk (And.intro h1 (And.intro h2 h3))
  clear h1 h2 h3
  go_wp2
  go_ret
  exact ⟨v, ws, rfl, HF.out.1, HF.out.2.1, HF.out.2.2⟩
theorem staged_nil (w : World) : Calls Tryd.prog 57 #[.pointer none] w fun e w' => e = .returned (.slice none 0 0) ∧ w' = w := by
  go_enter Tryd.func57, Tryd.ntmps57
  go_wp2
  go_ret
  exact ⟨rfl, rfl⟩
theorem reads_any (w : World) (g base : Nat) (b1 : Option Nat) (V : List Write) (R : List Rd) (h : ViewIs w g base b1 V R) (hR : R.length ≤ 1000000) :
    Calls Tryd.prog 61 #[.pointer (some ⟨g, 0, none⟩)] w fun e w' => ∃ v, e = .returned v ∧ Kd.R kRd 99 w' w.heap.size (fun _ => True) v R ∧ Below w.heap.size w w' := by
  obtain ⟨v1, v2, hg, _, _, hR1⟩ := h
  obtain ⟨A1, n1, rfl⟩ : ∃ A1 n1, v2 = .slice A1 R.length n1 := Kd.R_slice hR1
  obtain ⟨_, hc1, hC1⟩ := Kd.R_reads' hR1
  have HS := Aside0.mk (cloneR_any A1 n1 R w hC1 hR)
  have hcell : w.cell? ⟨g, 1, none⟩ = some (.slice A1 R.length n1) := by simp [World.cell?, hg]
  clear hR1 hg hC1 hc1 hR
  go_enter Tryd.func61, Tryd.ntmps61
  go_wp2_with fail
  refine HS.out.mono ?_
  rintro e w1 ⟨v, rfl, h1, h2⟩
  have HF := Aside0.mk (And.intro h1 h2)
  clear h1 h2
  go_wp2
  go_ret
  exact ⟨v, rfl, HF.out.1, HF.out.2⟩
theorem reads_nil (w : World) : Calls Tryd.prog 61 #[.pointer none] w fun e w' => e = .returned (.slice none 0 0) ∧ w' = w := by
  go_enter Tryd.func61, Tryd.ntmps61
  go_wp2
  go_ret
  exact ⟨rfl, rfl⟩
theorem note_nil (w : World) (v : Value) (n : Int) : Calls Tryd.prog 60 #[.pointer none, v, .int .u32 n] w fun e w' => e = .returned (.int .i64 1) ∧ w' = w := by
  go_enter Tryd.func60, Tryd.ntmps60
  go_wp2
  go_ret
  exact ⟨rfl, rfl⟩
theorem look_nil (w : World) (k : ByteArray) : Calls Tryd.prog 68 #[.pointer none, .string k] w fun e w' => e = .returned (.tuple #[.agg #[.string ⟨#[]⟩, .bool false, .string ⟨#[]⟩], .bool false]) ∧ Below w.heap.size w w' := by
  go_enter Tryd.func68, Tryd.ntmps68
  have hbx := heap_alloc_new w (.cells #[.string ⟨#[]⟩, .bool false, .string ⟨#[]⟩] 44)
  obtain ⟨b0, b1, b2⟩ := box3 hbx
  go_wp2
  exact bodyPost_ret (v := .tuple #[.agg #[.string ⟨#[]⟩, .bool false, .string ⟨#[]⟩], .bool false]) (by simp [results, Tryd.results68, go_sem, b0, b1, b2]) rfl ⟨rfl, below_alloc (Below.refl _ _) _⟩
theorem hB0eq {w : World} {o a b : Obj} {g : Nat} (h1 : w.heap[g]? = some a) (h2 : (w.alloc o).heap[g]? = some b) : w.heap[g]? = some b := by
  have h3 := heap_alloc_old w o (Array.getElem?_eq_some_iff.1 h1).1
  rw [← h3, h2]
theorem look_any (w : World) (g base : Nat) (b1 : Option Nat) (V : List Write) (R : List Rd) (k : ByteArray) (h : ViewIs w g base b1 V R) (hV : V.length ≤ 100) :
    Calls Tryd.prog 68 #[.pointer (some ⟨g, 0, none⟩), .string k] w fun e w' => e = .returned (.tuple #[aggW ((lastW V k).getD zWrite), .bool (lastW V k).isSome]) ∧ Below w.heap.size w w' := by
  have HB0 : Aside0 (Below w.heap.size w (w.alloc (.cells #[.string ⟨#[]⟩, .bool false, .string ⟨#[]⟩] 44))) := ⟨below_alloc (Below.refl _ _) _⟩
  obtain ⟨v1, v2, hg, _, hR1, _⟩ := h.below HB0.out
  obtain ⟨A1, n1, rfl⟩ : ∃ A1 n1, v1 = .slice A1 V.length n1 := Kd.R_slice hR1
  obtain ⟨_, hc1, hC1⟩ := Kd.R_reads' hR1
  have HS := Aside0.mk (findP_any A1 n1 V k _ hC1 hc1 (by omega))
  have hcell : (w.alloc (.cells #[.string ⟨#[]⟩, .bool false, .string ⟨#[]⟩] 44)).cell? ⟨g, 0, none⟩ = some (.slice A1 V.length n1) := by simp [World.cell?, hg]
  have hcell2 : w.cell? ⟨g, 0, none⟩ = some (.slice A1 V.length n1) := by
    obtain ⟨u1, u2, hu, _⟩ := h
    have e := hB0eq hu hg
    simp [World.cell?, e]
  clear hR1 hg hC1 hc1 hV h
  go_enter Tryd.func68, Tryd.ntmps68
  go_wp2_with fail
  refine HS.out.mono ?_
  rintro e w1 ⟨rfl, hb⟩
  have HX := Aside0.mk (blkW (heap_alloc_new w _) hb)
  have HB : Aside0 (Below w.heap.size w w1) := ⟨below_then HB0.out HB0.out.size hb⟩
  clear hb
  obtain ⟨x, hx⟩ : ∃ x, Aside0 ((lastW V k).getD zWrite = x) := ⟨_, ⟨rfl⟩⟩
  obtain ⟨q, hq⟩ : ∃ q, Aside0 ((lastW V k).isSome = q) := ⟨_, ⟨rfl⟩⟩
  rw [hx.out, hq.out]
  unfold aggW
  obtain ⟨c0, c1, c2, f0, f1, f2⟩ := box_cell3 HX.out
  have hl : w.heap.size < w1.heap.size := (Array.getElem?_eq_some_iff.1 HX.out).1
  go_wp2
  obtain ⟨h3, hb3⟩ := box_set3 HX.out HB.out (Nat.le_refl _) (.string x.f0) (.bool x.f1) (.string x.f2)
  obtain ⟨d0, d1, d2⟩ := box3 h3
  generalize ((w1.setCell ⟨w.heap.size, 0, none⟩ (.string x.f0)).setCell ⟨w.heap.size, 1, none⟩ (.bool x.f1)).setCell ⟨w.heap.size, 2, none⟩ (.string x.f2) = wf at *
  exact bodyPost_ret (v := .tuple #[.agg #[.string x.f0, .bool x.f1, .string x.f2], .bool q]) (by simp [results, Tryd.results68, go_sem, d0, d1, d2]) rfl ⟨by rw [hx.out, hq.out]; rfl, hb3⟩

/-! ### alive -/
theorem made_one (x : Write) : IsMade [x] [fixW x] :=
  ⟨by simp [Rises], fun s => by simp [fixW_key], fun y hy => by
    rw [List.mem_singleton.1 hy]
    exact ⟨x, by simp [lastW, fixW_key], rfl⟩⟩
theorem keyR_a : keyR ⟨#[97]⟩ = true := by decide +kernel
def putA : Write := ⟨⟨#[97]⟩, false, ⟨#[49]⟩⟩
def delA : Write := ⟨⟨#[97]⟩, true, ⟨#[]⟩⟩
theorem stage1 : stageC [] putA = 0 ∧ stageL [] putA = [putA] := by
  have : keyR putA.f0 = true := keyR_a
  have h2 : ¬ 48 < putA.f2.size := by decide
  unfold stageC stageL
  simp [this, h2, keyI, idxOf]
theorem stage2 : stageC [putA] delA = 0 ∧ stageL [putA] delA = [delA] := by
  have : keyR delA.f0 = true := keyR_a
  have h2 : ¬ 48 < delA.f2.size := by decide
  have h3 : keyI [putA] delA.f0 = 0 := by simp [keyI, idxOf, putA, delA]
  unfold stageC stageL
  simp [this, h2, h3]
theorem alive22_any (w : World) (hT : Lib.Utf8Tabs 2 3 w) : Calls Tryd.prog 51 #[] w fun e w' => e = .returned (.bool true) ∧ Below w.heap.size w w' := by
  have HT := Aside0.mk hT
  clear hT
  go_enter Tryd.func51, Tryd.ntmps51
  go_wp2_with fail
  refine (viewNew_any w).mono ?_
  rintro e w1 ⟨rfl, hw1⟩
  have HV := Aside0.mk (viewNew_is w w.heap.size)
  rw [← hw1] at HV
  have HB1 : Aside0 (Below w.heap.size w w1) := ⟨by rw [hw1]; exact below_alloc (Below.refl _ _) _⟩
  clear hw1
  go_wp2_with fail
  refine (put_any w1 w.heap.size w.heap.size none [] [] ⟨#[97]⟩ ⟨#[49]⟩ (Utf8Tabs_below HT.out HB1.out) HB1.out.size HV.out (by simp) (by decide)).mono ?_
  rintro e w2 ⟨b2, rfl, h1, h2, h3⟩
  rw [show stageC [] (⟨⟨#[97]⟩, false, ⟨#[49]⟩⟩ : Write) = 0 from stage1.1]
  rw [show stageL [] (⟨⟨#[97]⟩, false, ⟨#[49]⟩⟩ : Write) = [putA] from stage1.2] at h1
  have HB2 : Aside0 (Below w.heap.size w w2) := ⟨h3.below HB1.out HB1.out.size (Nat.le_refl _) (fun k hk => by cases hk)⟩
  have HV2 := Aside0.mk h1
  clear h1 h2 h3 HV
  go_wp2_with fail
  refine (del_any w2 w.heap.size w.heap.size b2 [putA] [] ⟨#[97]⟩ (Utf8Tabs_below HT.out HB2.out) HB2.out.size HV2.out (by simp) (by decide)).mono ?_
  rintro e w3 ⟨b3, rfl, h1, h2, h3⟩
  rw [show stageC [putA] (⟨⟨#[97]⟩, true, ⟨#[]⟩⟩ : Write) = 0 from stage2.1]
  rw [show stageL [putA] (⟨⟨#[97]⟩, true, ⟨#[]⟩⟩ : Write) = [delA] from stage2.2] at h1
  have HB3 : Aside0 (Below w.heap.size w w3) := ⟨h3.below HB2.out HB2.out.size (Nat.le_refl _) HV2.out.base_le⟩
  have HV3 := Aside0.mk h1
  clear h1 h2 h3 HV2
  go_wp2_with fail
  refine (staged_any w3 w.heap.size w.heap.size b3 [delA] [] HV3.out (by simp) (by simp [delA]; decide)).mono ?_
  rintro e w4 ⟨v, ws, rfl, hR, hM, hb⟩
  obtain rfl : ws = [delA] := hM.unique (made_one delA)
  obtain ⟨A4, n4, rfl, hn4, hC4⟩ := Kd.R_reads hR
  have HB4 : Aside0 (Below w.heap.size w w4) := ⟨below_then HB3.out HB3.out.size hb⟩
  obtain ⟨ad, e, d0, d1, d2⟩ := atWrite hC4 0 (by omega) (by simp)
  cases e
  clear hR hM hb hC4
  rw [show ad.add (Int.toNat 0 * 3) = ad from by simp [Addr.add]] at d0 d1 d2
  have e0 : w4.cell? ad = some (.string ⟨#[97]⟩) := d0
  have e1 : w4.cell? ⟨ad.block, ad.off + 1, none⟩ = some (.bool true) := d1
  have e2 : w4.cell? ⟨ad.block, ad.off + 2, none⟩ = some (.string ⟨#[]⟩) := d2
  clear d0 d1 d2
  go_wp2
  go_ret
  exact ⟨rfl, HB4.out⟩
end Go.Proofs.YtmionoghpjpbaaaDoor
