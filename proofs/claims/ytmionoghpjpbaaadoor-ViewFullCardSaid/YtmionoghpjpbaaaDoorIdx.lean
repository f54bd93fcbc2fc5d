/-
  slices.IndexFunc at api.Write, at api.Read; the closures of view.stage, view.Note.
-/
import Derived.Test.YtmionoghpjpbaaaDoorBatch
import Derived.Test.YtmionoghpjpbaaaDoorRight
import Derived.Test.YtmionoghpjpbaaaDoorRefCommit
namespace Go.Proofs.YtmionoghpjpbaaaDoor
open Go.RowKit Go.Proofs.YtmionoghpjpbaaaDoorW.PrintWords Go.Proofs.YtmionoghpjpbaaaDoorW.PrintLast Go.Proofs.YtmionoghpjpbaaaDoorW.PrintMore
open Go.Proofs.YtmionoghpjpbaaaDoorM
set_option linter.unusedVariables false
set_option linter.unusedSimpArgs false
attribute [local go_sem ↓] Go.wp_at_zero Go.wp_at_succ

abbrev Rd := Pr.S99
abbrev kRd := Pr.k99
abbrev rdRd := Pr.rd_T99
theorem atRd {w : World} {A : Option Addr} {n : Nat} {xs : List Rd} (h : Kd.C kRd w A n xs) (i : Int) (h0 : 0 ≤ i) (h1 : i < n) : ∃ ad, A = some ad ∧ w.cell? (ad.add (i.toNat * 3)) = some (.string (rdRd xs i).f0) ∧ w.cell? ⟨(ad.add (i.toNat * 3)).block, (ad.add (i.toNat * 3)).off + 1, none⟩ = some (.int .u32 (rdRd xs i).f1) ∧ w.cell? ⟨(ad.add (i.toNat * 3)).block, (ad.add (i.toNat * 3)).off + 2, none⟩ = some (.int .u32 (rdRd xs i).f2) := Pr.at_T99 h i h0 h1
theorem rdRd_get {xs : List Rd} {i : Int} (h : i.toNat < xs.length) : rdRd xs i = xs[i.toNat] := by
  show xs.getD i.toNat _ = _
  rw [List.getD_eq_getElem?_getD, List.getElem?_eq_getElem h]
  rfl

/-- The first that answers. -/
def idxOf {α : Type} (p : α → Bool) (l : List α) : Int := match l.findIdx? p with
  | some i => (i : Int)
  | none => -1
theorem idxOf_at {α : Type} {p : α → Bool} {l : List α} {i : Nat} (h : i < l.length) (h1 : ∀ j, (hj : j < i) → p (l[j]'(by omega)) = false) (h2 : p l[i] = true) : idxOf p l = (i : Int) := by
  have : l.findIdx? p = some i := by
    rw [List.findIdx?_eq_some_iff_getElem]
    exact ⟨h, h2, fun j hj => by rw [h1 j hj]; simp⟩
  unfold idxOf
  rw [this]
theorem idxOf_none {α : Type} {p : α → Bool} {l : List α} (h1 : ∀ j, (hj : j < l.length) → p l[j] = false) : idxOf p l = -1 := by
  have : l.findIdx? p = none := by
    rw [List.findIdx?_eq_none_iff]
    intro x hx
    obtain ⟨j, hj, rfl⟩ := List.mem_iff_getElem.1 hx
    exact h1 j hj
  unfold idxOf
  rw [this]

set_option maxHeartbeats 2000000 in
set_option maxRecDepth 100000 in
theorem indexW_any (A : Option Addr) (c : Nat) (l : List Write) (p : Write → Bool) (fv : Nat) (cb : Array Value) (w : World) (hC : Kd.C kWrite w A l.length l) (hl : l.length ≤ 1000000)
    (hp : ∀ (W : World) (y : Write), Below w.heap.size w W → Calls Tryd.prog fv (#[.agg #[.string y.f0, .bool y.f1, .string y.f2]] ++ cb) W fun e w' => e = .returned (.bool (p y)) ∧ Below W.heap.size W w')
    (eg : ∀ args w, (callFunc fv args).run Tryd.prog w = .ok (.enter fv args) w) :
    Calls Tryd.prog 115 #[.slice A l.length c, .func (.func fv) #[] cb] w fun e w' => e = .returned (.int .i64 (idxOf p l)) ∧ Below w.heap.size w w' := by
  have HC := Aside0.mk hC
  have HL := Aside0.mk hl
  have HP := Aside0.mk hp
  clear hC hl hp
  go_enter Tryd.func115, Tryd.ntmps115
  go_wp2
  go_loopg [8] l.length (fun kq v8 w' => ∃ (x : Nat), v8 = .int .i64 x ∧ Aside0 (x + kq = l.length) ∧ Aside0 (∀ j, (hj : j < x) → ∀ h : j < l.length, p l[j] = false) ∧ Aside0 (Below w.heap.size w w'))
  case atStart => exact ⟨0, rfl, ⟨by simp⟩, ⟨fun j hj => absurd hj (by omega)⟩, ⟨Below.refl _ _⟩⟩
  case round =>
    obtain ⟨x, rfl, HK, HF, HB⟩ := hrel
    by_cases q : x < l.length
    · have q' : (x : Int) < (l.length : Int) := by omega
      have p1 : (0 : Int) ≤ (x : Int) := by omega
      obtain ⟨g1, rfl⟩ : ∃ g1, gk = g1 + 1 := ⟨gk - 1, by have := HK.out; omega⟩
      obtain ⟨ad, e, c0, c1, c2⟩ := atWrite (Kd.C_below HC.out HB.out) (x : Int) p1 q'
      cases e
      rw [Int.toNat_natCast] at c0 c1 c2
      have HX : Aside0 (rdWrite l (x : Int) = l[x]) := ⟨by rw [rdWrite_get (by simpa using q)]; simp⟩
      generalize rdWrite l (x : Int) = y at *
      cases hpc : p y
      · have HPC := Aside0.mk hpc
        clear hpc
        go_wp2_with fail
        go_at_fn fv
        refine (HP.out _ y HB.out).mono ?_
        rintro e w3 ⟨rfl, hb3⟩
        rw [HPC.out]
        have HB3 : Aside0 (Below w.heap.size w w3) := ⟨below_then HB.out HB.out.size hb3⟩
        clear hb3
        go_wp2
        go_roundg g1
        case measure => omega
        case rel => exact ⟨x + 1, by first | go_num | rw [wsucc x (by have := HL.out; omega)], ⟨by have := HK.out; omega⟩, ⟨fun j hj hlj => by
          by_cases e : j = x
          · subst e; rw [← HX.out]; exact HPC.out
          · exact HF.out j (by omega) hlj⟩, HB3⟩
      · have HPC := Aside0.mk hpc
        clear hpc
        go_wp2_with fail
        go_at_fn fv
        refine (HP.out _ y HB.out).mono ?_
        rintro e w3 ⟨rfl, hb3⟩
        rw [HPC.out]
        have HB3 : Aside0 (Below w.heap.size w w3) := ⟨below_then HB.out HB.out.size hb3⟩
        have HR : Aside0 (idxOf p l = (x : Int)) := ⟨idxOf_at q (fun j hj => HF.out j hj (by omega)) (by rw [← HX.out]; exact HPC.out)⟩
        clear hb3
        go_wp2
        go_ret
        rw [HR.out]
        exact ⟨rfl, HB3.out⟩
    · have HR : Aside0 (idxOf p l = -1) := ⟨idxOf_none fun j hj => HF.out j (by omega) hj⟩
      go_wp2
      go_ret
      rw [HR.out]
      exact ⟨rfl, HB.out⟩

set_option maxHeartbeats 2000000 in
set_option maxRecDepth 100000 in
theorem indexR_any (A : Option Addr) (c : Nat) (l : List Rd) (p : Rd → Bool) (fv : Nat) (cb : Array Value) (w : World) (hC : Kd.C kRd w A l.length l) (hl : l.length ≤ 1000000)
    (hp : ∀ (W : World) (y : Rd), Below w.heap.size w W → Calls Tryd.prog fv (#[.agg #[.string y.f0, .int .u32 y.f1, .int .u32 y.f2]] ++ cb) W fun e w' => e = .returned (.bool (p y)) ∧ Below W.heap.size W w')
    (eg : ∀ args w, (callFunc fv args).run Tryd.prog w = .ok (.enter fv args) w) :
    Calls Tryd.prog 99 #[.slice A l.length c, .func (.func fv) #[] cb] w fun e w' => e = .returned (.int .i64 (idxOf p l)) ∧ Below w.heap.size w w' := by
  have HC := Aside0.mk hC
  have HL := Aside0.mk hl
  have HP := Aside0.mk hp
  clear hC hl hp
  go_enter Tryd.func99, Tryd.ntmps99
  go_wp2
  go_loopg [8] l.length (fun kq v8 w' => ∃ (x : Nat), v8 = .int .i64 x ∧ Aside0 (x + kq = l.length) ∧ Aside0 (∀ j, (hj : j < x) → ∀ h : j < l.length, p l[j] = false) ∧ Aside0 (Below w.heap.size w w'))
  case atStart => exact ⟨0, rfl, ⟨by simp⟩, ⟨fun j hj => absurd hj (by omega)⟩, ⟨Below.refl _ _⟩⟩
  case round =>
    obtain ⟨x, rfl, HK, HF, HB⟩ := hrel
    by_cases q : x < l.length
    · have q' : (x : Int) < (l.length : Int) := by omega
      have p1 : (0 : Int) ≤ (x : Int) := by omega
      obtain ⟨g1, rfl⟩ : ∃ g1, gk = g1 + 1 := ⟨gk - 1, by have := HK.out; omega⟩
      obtain ⟨ad, e, c0, c1, c2⟩ := atRd (Kd.C_below HC.out HB.out) (x : Int) p1 q'
      cases e
      rw [Int.toNat_natCast] at c0 c1 c2
      have HX : Aside0 (rdRd l (x : Int) = l[x]) := ⟨by rw [rdRd_get (by simpa using q)]; simp⟩
      generalize rdRd l (x : Int) = y at *
      cases hpc : p y
      · have HPC := Aside0.mk hpc
        clear hpc
        go_wp2_with fail
        go_at_fn fv
        refine (HP.out _ y HB.out).mono ?_
        rintro e w3 ⟨rfl, hb3⟩
        rw [HPC.out]
        have HB3 : Aside0 (Below w.heap.size w w3) := ⟨below_then HB.out HB.out.size hb3⟩
        clear hb3
        go_wp2
        go_roundg g1
        case measure => omega
        case rel => exact ⟨x + 1, by first | go_num | rw [wsucc x (by have := HL.out; omega)], ⟨by have := HK.out; omega⟩, ⟨fun j hj hlj => by
          by_cases e : j = x
          · subst e; rw [← HX.out]; exact HPC.out
          · exact HF.out j (by omega) hlj⟩, HB3⟩
      · have HPC := Aside0.mk hpc
        clear hpc
        go_wp2_with fail
        go_at_fn fv
        refine (HP.out _ y HB.out).mono ?_
        rintro e w3 ⟨rfl, hb3⟩
        rw [HPC.out]
        have HB3 : Aside0 (Below w.heap.size w w3) := ⟨below_then HB.out HB.out.size hb3⟩
        have HR : Aside0 (idxOf p l = (x : Int)) := ⟨idxOf_at q (fun j hj => HF.out j hj (by omega)) (by rw [← HX.out]; exact HPC.out)⟩
        clear hb3
        go_wp2
        go_ret
        rw [HR.out]
        exact ⟨rfl, HB3.out⟩
    · have HR : Aside0 (idxOf p l = -1) := ⟨idxOf_none fun j hj => HF.out j (by omega) hj⟩
      go_wp2
      go_ret
      rw [HR.out]
      exact ⟨rfl, HB.out⟩

/-! ### the closures -/
set_option maxHeartbeats 2000000 in
set_option maxRecDepth 100000 in
theorem stageFn_any (k : ByteArray) (B : Nat) (y : Write) (W : World) (hc : W.cell? ⟨B, 0, none⟩ = some (.string k)) :
    Calls Tryd.prog 116 (#[.agg #[.string y.f0, .bool y.f1, .string y.f2]] ++ #[.pointer (some ⟨B, 0, none⟩)]) W fun e w' => e = .returned (.bool (y.f0.toList == k.toList)) ∧ Below W.heap.size W w' := by
  have hc2 : ∀ o, (W.alloc o).cell? ⟨B, 0, none⟩ = some (.string k) := fun o => pw_cell_below (below_alloc (Below.refl _ _) o) hc
  go_enter Tryd.func116, Tryd.ntmps116
  go_wp2
  go_ret
  exact ⟨rfl, below_alloc (Below.refl _ _) _⟩
set_option maxHeartbeats 2000000 in
set_option maxRecDepth 100000 in
theorem noteFn_any (k : ByteArray) (B : Nat) (y : Rd) (W : World) (hc : W.cell? ⟨B, 0, none⟩ = some (.string k)) :
    Calls Tryd.prog 100 (#[.agg #[.string y.f0, .int .u32 y.f1, .int .u32 y.f2]] ++ #[.pointer (some ⟨B, 0, none⟩)]) W fun e w' => e = .returned (.bool (y.f0.toList == k.toList)) ∧ Below W.heap.size W w' := by
  have hc2 : ∀ o, (W.alloc o).cell? ⟨B, 0, none⟩ = some (.string k) := fun o => pw_cell_below (below_alloc (Below.refl _ _) o) hc
  go_enter Tryd.func100, Tryd.ntmps100
  go_wp2
  go_ret
  exact ⟨rfl, below_alloc (Below.refl _ _) _⟩
theorem keyP (l : List Write) (k : ByteArray) : idxOf (fun y : Write => y.f0.toList == k.toList) l = idxOf (fun y : Write => decide (y.f0 = k)) l := by
  have : (fun y : Write => y.f0.toList == k.toList) = (fun y : Write => decide (y.f0 = k)) := by
    funext y
    by_cases h : y.f0 = k
    · simp [h]
    · rw [decide_eq_false h, beq_eq_false_iff_ne]
      exact fun e => h (bytes_ext (by rwa [Lib.toList_data, Lib.toList_data] at e))
  rw [this]
theorem keyPR (l : List Rd) (k : ByteArray) : idxOf (fun y : Rd => y.f0.toList == k.toList) l = idxOf (fun y : Rd => decide (y.f0 = k)) l := by
  have : (fun y : Rd => y.f0.toList == k.toList) = (fun y : Rd => decide (y.f0 = k)) := by
    funext y
    by_cases h : y.f0 = k
    · simp [h]
    · rw [decide_eq_false h, beq_eq_false_iff_ne]
      exact fun e => h (bytes_ext (by rwa [Lib.toList_data, Lib.toList_data] at e))
  rw [this]
end Go.Proofs.YtmionoghpjpbaaaDoor
