/-
  Functions of the translation as Lean functions, each with the proof that the code comes to it: written by the kit's print (print.py) for this seat, one namespace for all laws; merged by prall.py, parted by prsplit.py.
-/
import Derived.Test.YtmionoghpjpbaaaDoorPrA1
namespace Go.Proofs.YtmionoghpjpbaaaDoor.Pr
open Go.RowKit Go.Proofs.YtmionoghpjpbaaaDoorW.PrintWords Go.Proofs.YtmionoghpjpbaaaDoorW.PrintLast Go.Proofs.YtmionoghpjpbaaaDoorW.PrintMore
attribute [local go_sem] max2_int min2_int max_two min_two max_three min_three max_four min_four   -- for this text's walks alone
set_option linter.unusedVariables false
set_option linter.unusedSimpArgs false


section
theorem eqA44 (d : Nat) (w : World) (x0 y0 : ByteArray) (x1 y1 : Bool) (x2 y2 : ByteArray) :
    (Op.equalIn (d + 2) 44 (.agg #[.string x0, .bool x1, .string x2]) (.agg #[.string y0, .bool y1, .string y2])).run Tryd.prog w = .ok (x0.toList == y0.toList && (x1 == y1 && (x2.toList == y2.toList))) w := by
  refine eqA_of Tryd.underlying44 (by kernel_rfl) ?_
  refine eqf_cons (by rfl) (by go_simp; rfl) (by go_simp; rfl) (by go_simp) ?_
  refine eqf_cons (by rfl) (by go_simp; rfl) (by go_simp; rfl) (by go_simp) ?_
  exact eqf_last (by rfl) (by go_simp; rfl) (by go_simp; rfl) (by go_simp)
end

section
theorem eqA99 (d : Nat) (w : World) (x0 y0 : ByteArray) (x1 y1 : Int) (x2 y2 : Int) :
    (Op.equalIn (d + 2) 99 (.agg #[.string x0, .int .u32 x1, .int .u32 x2]) (.agg #[.string y0, .int .u32 y1, .int .u32 y2])).run Tryd.prog w = .ok (x0.toList == y0.toList && (x1 == y1 && (x2 == y2))) w := by
  refine eqA_of Tryd.underlying99 (by kernel_rfl) ?_
  refine eqf_cons (by rfl) (by go_simp; rfl) (by go_simp; rfl) (by go_simp) ?_
  refine eqf_cons (by rfl) (by go_simp; rfl) (by go_simp; rfl) (by go_simp) ?_
  exact eqf_last (by rfl) (by go_simp; rfl) (by go_simp; rfl) (by go_simp)
end

section
/-- A state of type 147 at block g of W; what its slices lead to came in by w0. -/
def IsS147 (w0 W : World) (g : Nat) (f0 : List (S44)) (f1 : List (S99)) : Prop := ∃ A0 c0, ∃ A1 c1, W.heap[g]? = some (.cells #[.slice A0 f0.length c0, .slice A1 f1.length c1] 147 (0, 0)) ∧ w0.heap.size ≤ g ∧ Kd.C k44 w0 A0 f0.length f0 ∧ Kd.C k99 w0 A1 f1.length f1
theorem IsS147.grown {w0 W : World} {g : Nat} {f0 : List (S44)} {f1 : List (S99)} {W1 : World} {row : Option Nat} (h : IsS147 w0 W g f0 f1) (hw : W.grownBy W1 row) (hne : some g ≠ row) : IsS147 w0 W1 g f0 f1 := by
  obtain ⟨A0, c0, A1, c1, hb, hg, hr0, hr1⟩ := h
  exact ⟨A0, c0, A1, c1, blk_grown hb hw hne, hg, hr0, hr1⟩
theorem IsS147.own_neN {w0 W : World} {g : Nat} {f0 : List (S44)} {f1 : List (S99)} {α : Type} {d : Kd α} {e : Nat} {base : Nat} {ok : Nat → Prop} {v : Value} {xs : List α} (h : IsS147 w0 W g f0 f1) (ho : Kd.N d e W base ok v xs) (ht : e ≠ 147) : some g ≠ v.ownBlock := by
  obtain ⟨A0, c0, A1, c1, hb, hg, hr0, hr1⟩ := h
  exact Kd.N_ne ho hb ht
theorem IsS147.fresh {w0 W : World} {g : Nat} {f0 : List (S44)} {f1 : List (S99)} (h : IsS147 w0 W g f0 f1) : ∀ k, W.heap.size ≤ k → k ≠ g := by
  obtain ⟨A0, c0, A1, c1, hb, hg, hr0, hr1⟩ := h
  exact Kd.freshB hb
theorem IsS147.kept {w0 W : World} {g : Nat} {f0 : List (S44)} {f1 : List (S99)} {W1 : World} {S : Nat → Prop} (h : IsS147 w0 W g f0 f1) (hk : Kept W W1 S) (hne : ¬ S g) : IsS147 w0 W1 g f0 f1 := by
  obtain ⟨A0, c0, A1, c1, hb, hg, hr0, hr1⟩ := h
  exact ⟨A0, c0, A1, c1, blk_kept hb hk hne, hg, hr0, hr1⟩
theorem IsS147.below {w0 W : World} {g : Nat} {f0 : List (S44)} {f1 : List (S99)} {W1 : World} (h : IsS147 w0 W g f0 f1) (hw : Below W.heap.size W W1) : IsS147 w0 W1 g f0 f1 := h.grown (grown_of_below hw none) (by simp)
theorem IsS147.alloc {w0 W : World} {g : Nat} {f0 : List (S44)} {f1 : List (S99)} (h : IsS147 w0 W g f0 f1) (o : Obj) : IsS147 w0 (W.alloc o) g f0 f1 := h.below (below_alloc (Below.refl _ _) o)
theorem IsS147.drewN {w0 W : World} {g : Nat} {f0 : List (S44)} {f1 : List (S99)} (h : IsS147 w0 W g f0 f1) (m : Nat) : IsS147 w0 (W.drewN m) g f0 f1 := h
theorem IsS147.drew {w0 W : World} {g : Nat} {f0 : List (S44)} {f1 : List (S99)} (h : IsS147 w0 W g f0 f1) : IsS147 w0 W.drew g f0 f1 := h
theorem IsS147.at_ {w0 W : World} {g : Nat} {f0 : List (S44)} {f1 : List (S99)} {w' : World} {m : Nat} (hq : W.drewN m = w') (h : IsS147 w0 W g f0 f1) : IsS147 w0 w' g f0 f1 := by subst hq; exact IsS147.drewN h m
theorem IsS147.apart {w0 W : World} {g : Nat} {f0 : List (S44)} {f1 : List (S99)} {α : Type} {d : Kd α} {e : Nat} {base : Nat} {ok : Nat → Prop} {v : Value} {xs : List α} (h : IsS147 w0 W g f0 f1) (ho : d.R e W base ok v xs) (ht : ∀ q, q ∈ e :: d.E → q ≠ 147) : d.R e W base (fun k => ok k ∧ k ≠ g) v xs := by
  obtain ⟨A0, c0, A1, c1, hb, hg, hr0, hr1⟩ := h
  exact Kd.R_types ho hb ht
theorem IsS147.own_ne {w0 W : World} {g : Nat} {f0 : List (S44)} {f1 : List (S99)} {α : Type} {d : Kd α} {e : Nat} {base : Nat} {ok : Nat → Prop} {v : Value} {xs : List α} (h : IsS147 w0 W g f0 f1) (ho : d.R e W base ok v xs) (ht : e ≠ 147) : some g ≠ v.ownBlock := by
  obtain ⟨A0, c0, A1, c1, hb, hg, hr0, hr1⟩ := h
  exact Kd.R_ne ho hb ht
theorem IsS147.apartQ {w0 W : World} {g : Nat} {f0 : List (S44)} {f1 : List (S99)} {α : Type} {d : Kd α} {e : Nat} {base : Nat} {ok : Nat → Prop} {v : Value} {xs : List α} (h : IsS147 w0 W g f0 f1) (ho : d.Q e W base ok v xs) (ht : ∀ q, q ∈ e :: d.E → q ≠ 147) : d.Q e W base (fun k => ok k ∧ k ≠ g) v xs := by
  obtain ⟨A0, c0, A1, c1, hb, hg, hr0, hr1⟩ := h
  exact Kd.Q_types ho hb ht
theorem IsS147.own_neQ {w0 W : World} {g : Nat} {f0 : List (S44)} {f1 : List (S99)} {α : Type} {d : Kd α} {e : Nat} {base : Nat} {ok : Nat → Prop} {v : Value} {xs : List α} (h : IsS147 w0 W g f0 f1) (ho : d.Q e W base ok v xs) (ht : e ≠ 147) : some g ≠ v.ownBlock := by
  obtain ⟨A0, c0, A1, c1, hb, hg, hr0, hr1⟩ := h
  exact Kd.Q_ne ho hb ht
theorem IsS147.apartS {w0 W : World} {g : Nat} {f0 : List (S44)} {f1 : List (S99)} {α : Type} {d : Kd α} {e : Nat} {base : Nat} {ok : Nat → Prop} {v : Value} {xs : List α} (h : IsS147 w0 W g f0 f1) (ho : d.S e W base ok v xs) (ht : ∀ q, q ∈ e :: d.E → q ≠ 147) : d.S e W base (fun k => ok k ∧ k ≠ g) v xs := by
  obtain ⟨A0, c0, A1, c1, hb, hg, hr0, hr1⟩ := h
  exact Kd.S_types ho hb ht
theorem IsS147.own_neS {w0 W : World} {g : Nat} {f0 : List (S44)} {f1 : List (S99)} {α : Type} {d : Kd α} {e : Nat} {base : Nat} {ok : Nat → Prop} {v : Value} {xs : List α} (h : IsS147 w0 W g f0 f1) (ho : d.S e W base ok v xs) (ht : e ≠ 147) : some g ≠ v.ownBlock := by
  obtain ⟨A0, c0, A1, c1, hb, hg, hr0, hr1⟩ := h
  exact Kd.S_ne ho hb ht
theorem IsS147.lt {w0 W : World} {g : Nat} {f0 : List (S44)} {f1 : List (S99)} (h : IsS147 w0 W g f0 f1) : g < W.heap.size := by
  obtain ⟨A0, c0, A1, c1, hb, hg, hr0, hr1⟩ := h
  exact blk_lt hb
theorem IsS147.ge {w0 W : World} {g : Nat} {f0 : List (S44)} {f1 : List (S99)} (h : IsS147 w0 W g f0 f1) : w0.heap.size ≤ g := by
  obtain ⟨A0, c0, A1, c1, hb, hg, hr0, hr1⟩ := h
  exact hg
theorem IsS147.ne_blk {w0 W : World} {g : Nat} {f0 : List (S44)} {f1 : List (S99)} {a : Nat} {cs : Array Value} {t : TypeId} {fr : Nat × Nat} (h : IsS147 w0 W g f0 f1) (hb2 : W.heap[a]? = some (.cells cs t fr)) (ht : t ≠ 147) : g ≠ a := by
  obtain ⟨A0, c0, A1, c1, hb, hg, hr0, hr1⟩ := h
  rintro rfl
  rw [hb] at hb2
  injection hb2 with hb2
  injection hb2 with _ ht2
  exact ht ht2.symm
theorem IsS147.far {w0 W : World} {g : Nat} {f0 : List (S44)} {f1 : List (S99)} {p : Addr} (h : IsS147 w0 W g f0 f1) (hne : g ≠ p.block) (u : Value) : IsS147 w0 (W.setCell p u) g f0 f1 := by
  obtain ⟨A0, c0, A1, c1, hb, hg, hr0, hr1⟩ := h
  exact ⟨A0, c0, A1, c1, blk_far hb hne u, hg, hr0, hr1⟩
theorem cellS147_0 {W : World} {g : Nat} {A0 : Option Addr} {c0 : Nat} {A1 : Option Addr} {c1 : Nat} {f0 : List (S44)} {f1 : List (S99)} (h : W.heap[g]? = some (.cells #[.slice A0 f0.length c0, .slice A1 f1.length c1] 147 (0, 0))) : W.cell? ⟨g, 0, none⟩ = some (.slice A0 f0.length c0) := (blk_cell h 0).trans rfl
theorem cellS147_1 {W : World} {g : Nat} {A0 : Option Addr} {c0 : Nat} {A1 : Option Addr} {c1 : Nat} {f0 : List (S44)} {f1 : List (S99)} (h : W.heap[g]? = some (.cells #[.slice A0 f0.length c0, .slice A1 f1.length c1] 147 (0, 0))) : W.cell? ⟨g, 1, none⟩ = some (.slice A1 f1.length c1) := (blk_cell h 1).trans rfl
theorem IsS147.new (w0 W : World) (A0 : Option Addr) (c0 : Nat) (A1 : Option Addr) (c1 : Nat) (f0 : List (S44)) (f1 : List (S99)) (hB : Below w0.heap.size w0 W) (hr0 : Kd.C k44 w0 A0 f0.length f0) (hr1 : Kd.C k99 w0 A1 f1.length f1) : IsS147 w0 (W.alloc (.cells #[.slice A0 f0.length c0, .slice A1 f1.length c1] 147)) W.heap.size f0 f1 := ⟨A0, c0, A1, c1, by simpa using heap_alloc_new W _, hB.size, hr0, hr1⟩

/-! ### view_New: function 50 -/
def view_New.f  : Option ((List (S44)) × (List (S99))) := some (([] : List (S44)), ([] : List (S99)))
set_option maxHeartbeats 8000000 in
set_option maxRecDepth 100000 in
theorem view_New.calls  (r1 : List (S44)) (r2 : List (S99)) (w0 w : World) (hB : Below w0.heap.size w0 w) (h : view_New.f  = some (r1, r2)) :
    Calls Tryd.prog 50 #[] w fun e w' => ∃ g_ : Nat, e = .returned (.pointer (some ⟨g_, 0, none⟩)) ∧ IsS147 w0 w' g_ r1 r2 ∧ Below w0.heap.size w0 w' ∧ Below w.heap.size w w' := by
  have hu147 := Tryd.underlying147
  have HBW := Aside0.mk (Below.refl w.heap.size w)
  have HW0 := Aside0.mk hB.size
  have HB := Aside0.mk hB
  clear hB
  have H : (some (([] : List (S44)), ([] : List (S99)))) = some (r1, r2) := h
  clear h
  simp only [Option.some.injEq, Prod.mk.injEq] at H
  obtain ⟨rfl, rfl⟩ := H
  go_enter Tryd.func50, Tryd.ntmps50
  go_wp2_with (first | ((with_reducible refine gate_dst (N := 2) rfl ?_); refine box_event ?hg (N := 2) ?hd (cs := #[.slice none 0 0, .slice none 0 0]) (t := 147) ?hr ?_; (case hd => rfl); (case hg => rfl); (case hr => first | (go_simp; done) | (go_simp; rfl)); intro gb270 hg w1 hbox hb; have n0_ := Aside0.mk (below_step HBW.out hb); have n1_ := Aside0.mk (below_step (by repeat (first | (with_reducible first | exact HB.out | apply below_alloc | apply pw_below_drewN | apply below_drew1) | exact HB.out)) hb); have n2_ := Aside0.mk (hbox); have n3_ := Aside0.mk ((by rw [hg]; exact (below_size (by repeat (first | (with_reducible first | exact HBW.out | apply below_alloc | apply pw_below_drewN | apply below_drew1) | exact HBW.out))) : w.heap.size ≤ gb270)); have n4_ := Aside0.mk ((Nat.le_trans HW0.out (by rw [hg]; exact (below_size (by repeat (first | (with_reducible first | exact HBW.out | apply below_alloc | apply pw_below_drewN | apply below_drew1) | exact HBW.out))) : w.heap.size ≤ gb270) : w0.heap.size ≤ gb270)); clear HBW; clear HB; have HBW := n0_; have HB := n1_; have BK270 := n2_; have GW270 := n3_; have GE270 := n4_; clear n0_ n1_ n2_ n3_ n4_; clear hb hbox hg))
  go_ret
  exact ⟨_, rfl, (show IsS147 w0 _ gb270 ([] : List (S44)) ([] : List (S99)) from ⟨none, 0, none, 0, by (with_reducible repeat (first | refine blk_drewN ?_ _ | refine blk_drew ?_ | refine blk_alloc ?_ _)); exact BK270.out, GE270.out, (Kd.C_nil _ _), (Kd.C_nil _ _)⟩), by repeat (first | (with_reducible first | exact HB.out | apply below_alloc | apply pw_below_drewN | apply below_drew1 | refine below_set ?_ GE270.out) | exact HB.out), by repeat (first | (with_reducible first | exact HBW.out | apply below_alloc | apply pw_below_drewN | apply below_drew1 | refine below_set ?_ GW270.out) | exact HBW.out)⟩
end

section
/-! ### batch_Find: function 102 -/
def batch_Find.l0 : Nat → List (S44) → ByteArray → Int → Option (ByteArray × Bool × ByteArray × Bool)
  | 0, _, _, _ => none
  | k + 1, x0, x1, x6 => if x6 ≥ 0 then (if 0 ≤ x6 then (if x6 < (x0.length : Int) then (if ((rd_T44 x0 x6).f0).toList = x1.toList then (some ((rd_T44 x0 x6).f0, (rd_T44 x0 x6).f1, (rd_T44 x0 x6).f2, true)) else (batch_Find.l0 k x0 x1 (wrap64 (x6 - 1)))) else (none)) else (none)) else (some ((⟨#[]⟩ : ByteArray), false, (⟨#[]⟩ : ByteArray), false))
def batch_Find.f (k : Nat) (l0 : List (S44)) (a1 : ByteArray) : Option (ByteArray × Bool × ByteArray × Bool) := batch_Find.l0 k l0 a1 (wrap64 ((l0.length : Int) - 1))
theorem batch_Find.mono_l : ∀ k, (∀ y0 y1 y2, LeO (batch_Find.l0 k y0 y1 y2) (batch_Find.l0 (k + 1) y0 y1 y2))
  | 0 => fun _ _ _ r h => by simp [batch_Find.l0] at h
  | k + 1 => by
    have ih0 := batch_Find.mono_l k
    · intro y0 y1 y2
      unfold batch_Find.l0
      repeat' first
      | (with_reducible exact ih0 _ _ _)
      | (with_reducible exact LeO.refl _)
      | (with_reducible exact LeO.none _)
      | (with_reducible refine LeO.ite ?_ ?_)
      | (with_reducible refine LeO.bind ?_ (fun _ => ?_))
      | exact ih0 _ _ _
      | exact LeO.none _
      | refine LeO.ite ?_ ?_
      | refine LeO.bind ?_ (fun _ => ?_)
theorem batch_Find.mono : ∀ a0 a1 k, LeO (batch_Find.f k a0 a1) (batch_Find.f (k + 1) a0 a1) := by
  intro a0 a1 k
  have ih0 := batch_Find.mono_l k
  unfold batch_Find.f
  repeat' first
      | (with_reducible exact ih0 _ _ _)
      | (with_reducible exact LeO.refl _)
      | (with_reducible exact LeO.none _)
      | (with_reducible refine LeO.ite ?_ ?_)
      | (with_reducible refine LeO.bind ?_ (fun _ => ?_))
      | exact ih0 _ _ _
      | exact LeO.none _
      | refine LeO.ite ?_ ?_
      | refine LeO.bind ?_ (fun _ => ?_)
set_option maxHeartbeats 8000000 in
set_option maxRecDepth 100000 in
theorem batch_Find.calls (k : Nat) (A0 : Option Addr) (c0 : Nat) (l0 : List (S44)) (a1 : ByteArray) (r1 : ByteArray) (r2 : Bool) (r3 : ByteArray) (r4 : Bool) (w : World) (hr0 : Kd.C k44 w A0 l0.length l0) (hc0 : l0.length ≤ c0) (h : batch_Find.f k l0 a1 = some (r1, r2, r3, r4)) :
    Calls Tryd.prog 102 #[.slice A0 l0.length c0, .string a1] w fun e w' => e = .returned (.tuple #[.agg #[.string r1, .bool r2, .string r3], .bool r4]) ∧ Below w.heap.size w w' := by
  have hu44 := Tryd.underlying44
  have HR0 := Aside0.mk hr0
  have HC0 := Aside0.mk hc0
  clear hr0 hc0
  have HB := Aside0.mk (Below.refl w.heap.size w)
  have H : (batch_Find.l0 k l0 a1 (wrap64 ((l0.length : Int) - 1))) = some (r1, r2, r3, r4) := h
  clear h
  have H' := Aside0.mk H
  clear H
  go_enter Tryd.func102, Tryd.ntmps102
  go_wp2_with (first | ((with_reducible refine gate_dst (N := 4) rfl ?_); refine box_event ?hg (N := 4) ?hd (cs := #[.string (⟨#[]⟩ : ByteArray), .bool false, .string (⟨#[]⟩ : ByteArray)]) (t := 44) ?hr ?_; (case hd => rfl); (case hg => rfl); (case hr => first | (go_simp; done) | (go_simp; rfl)); intro gb272 hg w3 hbox hb; have n0_ := Aside0.mk (below_step (by repeat (first | (with_reducible first | exact HB.out | apply below_alloc | apply pw_below_drewN | apply below_drew1) | exact HB.out)) hb); have n1_ := Aside0.mk (hbox); have n2_ := Aside0.mk ((by rw [hg]; exact (below_size (by repeat (first | (with_reducible first | exact HB.out | apply below_alloc | apply pw_below_drewN | apply below_drew1) | exact HB.out))) : w.heap.size ≤ gb272)); have n3_ := Aside0.mk ((by rw [hg]; exact (below_size (by repeat (first | (with_reducible first | exact HB.out | apply below_alloc | apply pw_below_drewN | apply below_drew1) | exact HB.out))) : w.heap.size ≤ gb272)); clear HB; have HB := n0_; have BK272 := n1_; have GW272 := n2_; have GE272 := n3_; clear n0_ n1_ n2_ n3_; clear hb hbox hg))
  go_loopg [6] k (fun kq v6 w' => ∃ (x6_1 : Int) (x273000_1 : ByteArray) (x273001_1 : Bool) (x273002_1 : ByteArray), v6 = .int .i64 x6_1 ∧ Aside0 (batch_Find.l0 kq l0 a1 x6_1 = some (r1, r2, r3, r4)) ∧ Aside0 (kq ≤ k) ∧ Aside0 (w'.heap[gb272]? = some (.cells #[.string x273000_1, .bool x273001_1, .string x273002_1] 44 (0, 0))) ∧ Aside0 (Below w.heap.size w w'))
  case atStart => exact ⟨(wrap64 ((l0.length : Int) - 1)), ((⟨#[]⟩ : ByteArray)), (false), ((⟨#[]⟩ : ByteArray)), (by first | rfl | (simp; done) | (simp [*]; done)), H', ⟨Nat.le_refl _⟩, ⟨by (with_reducible repeat (first | refine blk_drewN ?_ _ | refine blk_drew ?_ | refine blk_alloc ?_ _)); exact BK272.out⟩, ⟨by repeat (first | (with_reducible first | exact HB.out | apply below_alloc | apply pw_below_drewN | apply below_drew1 | refine below_set ?_ GE272.out) | exact HB.out)⟩⟩
  case round =>
    clear H'
    try clear c1
    try clear p2
    obtain ⟨x6_1, x273000_1, x273001_1, x273002_1, rfl, HA, HK1, BK272, HB⟩ := hrel
    cases gk with
    | zero => exact absurd HA.out (by simp [batch_Find.l0])
    | succ k1 =>
      have H := HA.out
      clear HA
      simp only [batch_Find.l0] at H
      by_cases c4 : x6_1 ≥ 0
      · rw [if_pos c4] at H
        have c4b0 : decide (0 ≤ x6_1) = true := decide_eq_true c4
        clear c4
        by_cases c5 : 0 ≤ x6_1
        · rw [if_pos c5] at H
          have c5b0 : decide (0 ≤ x6_1) = true := decide_eq_true c5
          clear c5
          by_cases c6 : x6_1 < (l0.length : Int)
          · rw [if_pos c6] at H
            have c6b0 : decide (x6_1 < (l0.length : Int)) = true := decide_eq_true c6
            clear c6
            by_cases c7 : ((rd_T44 l0 x6_1).f0).toList = a1.toList
            · rw [if_pos c7] at H
              have c7b0 : (((rd_T44 l0 x6_1).f0).toList == a1.toList) = true := beq_iff_eq.mpr c7
              have c7b1 : (((rd_T44 l0 x6_1).f0).toList != a1.toList) = false := bne_eq_false_iff_eq.mpr c7
              clear c7
              simp only [Option.some.injEq, Prod.mk.injEq] at H
              obtain ⟨rfl, rfl, rfl, rfl⟩ := H
              have p273 : 0 ≤ (x6_1 : Int) := of_decide_eq_true (by first | (with_reducible assumption) | assumption)
              have q273 : x6_1 < (l0.length : Int) := of_decide_eq_true (by first | (with_reducible assumption) | assumption)
              obtain ⟨ad273, e273, hx273_0, hx273_1, hx273_2⟩ := at_T44 HR0.out x6_1 p273 q273
              cases e273
              replace hx273_0 := (HB.out.cell (World.block_lt_of_cell? w _ hx273_0)).trans hx273_0
              replace hx273_1 := (HB.out.cell (World.block_lt_of_cell? w _ hx273_1)).trans hx273_1
              replace hx273_2 := (HB.out.cell (World.block_lt_of_cell? w _ hx273_2)).trans hx273_2
              replace p273 := eq_true p273
              replace q273 := eq_true q273
              have p274 : 0 ≤ (x6_1 : Int) := of_decide_eq_true (by first | (with_reducible assumption) | assumption)
              have q274 : x6_1 < (l0.length : Int) := of_decide_eq_true (by first | (with_reducible assumption) | assumption)
              obtain ⟨ad274, e274, hx274_0, hx274_1, hx274_2⟩ := at_T44 HR0.out x6_1 p274 q274
              obtain rfl : ad273 = ad274 := (by injection e274)
              replace hx274_0 := (HB.out.cell (World.block_lt_of_cell? w _ hx274_0)).trans hx274_0
              replace hx274_1 := (HB.out.cell (World.block_lt_of_cell? w _ hx274_1)).trans hx274_1
              replace hx274_2 := (HB.out.cell (World.block_lt_of_cell? w _ hx274_2)).trans hx274_2
              replace p274 := eq_true p274
              replace q274 := eq_true q274
              have hcz8_0 : wr.cell? ⟨gb272, 0, none⟩ = some (.string x273000_1) := (blk_cell BK272.out 0).trans rfl
              have hcz8_1 : wr.cell? ⟨gb272, 1, none⟩ = some (.bool x273001_1) := (blk_cell BK272.out 1).trans rfl
              have hcz8_2 : wr.cell? ⟨gb272, 2, none⟩ = some (.string x273002_1) := (blk_cell BK272.out 2).trans rfl
              have hfz8_0 := blk_frozen BK272.out 0
              have hfz8_1 := blk_frozen BK272.out 1
              have hfz8_2 := blk_frozen BK272.out 2
              go_wp2
              refine bodyPost_ret (results_ct rfl _ _ gb272 44 #[.string ((rd_T44 l0 x6_1).f0), .bool ((rd_T44 l0 x6_1).f1), .string ((rd_T44 l0 x6_1).f2)] (0, 0) _ rfl (by (with_reducible repeat (first | refine blk_drewN ?_ _ | refine blk_drew ?_ | refine blk_alloc ?_ _)); refine blk_put (cs := #[.string ((rd_T44 l0 x6_1).f0), .bool ((rd_T44 l0 x6_1).f1), .string x273002_1]) ?_ 2 _ rfl; (with_reducible repeat (first | refine blk_drewN ?_ _ | refine blk_drew ?_ | refine blk_alloc ?_ _)); refine blk_put (cs := #[.string ((rd_T44 l0 x6_1).f0), .bool x273001_1, .string x273002_1]) ?_ 1 _ rfl; (with_reducible repeat (first | refine blk_drewN ?_ _ | refine blk_drew ?_ | refine blk_alloc ?_ _)); refine blk_put (cs := #[.string x273000_1, .bool x273001_1, .string x273002_1]) ?_ 0 _ rfl; (with_reducible repeat (first | refine blk_drewN ?_ _ | refine blk_drew ?_ | refine blk_alloc ?_ _)); exact BK272.out) Tryd.underlying44 rfl (by kernel_rfl)) rfl ?_
              exact ⟨by first | rfl | (simp [errW_none, errW_some] <;> rfl) | (simp [*, errW_none, errW_some] <;> rfl), by repeat (first | (with_reducible first | exact HB.out | apply below_alloc | apply pw_below_drewN | apply below_drew1 | refine below_set ?_ GE272.out) | exact HB.out)⟩
            · rw [if_neg c7] at H
              have c7b0 : (((rd_T44 l0 x6_1).f0).toList == a1.toList) = false := beq_eq_false_iff_ne.mpr c7
              have c7b1 : (((rd_T44 l0 x6_1).f0).toList != a1.toList) = true := bne_iff_ne.mpr c7
              have H' := Aside0.mk H
              clear H
              have p273 : 0 ≤ (x6_1 : Int) := of_decide_eq_true (by first | (with_reducible assumption) | assumption)
              have q273 : x6_1 < (l0.length : Int) := of_decide_eq_true (by first | (with_reducible assumption) | assumption)
              obtain ⟨ad273, e273, hx273_0, hx273_1, hx273_2⟩ := at_T44 HR0.out x6_1 p273 q273
              cases e273
              replace hx273_0 := (HB.out.cell (World.block_lt_of_cell? w _ hx273_0)).trans hx273_0
              replace hx273_1 := (HB.out.cell (World.block_lt_of_cell? w _ hx273_1)).trans hx273_1
              replace hx273_2 := (HB.out.cell (World.block_lt_of_cell? w _ hx273_2)).trans hx273_2
              replace p273 := eq_true p273
              replace q273 := eq_true q273
              go_wp2
              go_roundg k1
              case measure => have := HK1.out; omega
              case rel => exact ⟨(wrap64 (x6_1 - 1)), (x273000_1), (x273001_1), (x273002_1), (by first | rfl | (simp; done) | (simp [*]; done)), H', ⟨by have := HK1.out; omega⟩, ⟨by (with_reducible repeat (first | refine blk_drewN ?_ _ | refine blk_drew ?_ | refine blk_alloc ?_ _)); exact BK272.out⟩, ⟨by repeat (first | (with_reducible first | exact HB.out | apply below_alloc | apply pw_below_drewN | apply below_drew1 | refine below_set ?_ GE272.out) | exact HB.out)⟩⟩
          · rw [if_neg c6] at H
            exact absurd H (by simp)
        · rw [if_neg c5] at H
          exact absurd H (by simp)
      · rw [if_neg c4] at H
        have c4b0 : decide (0 ≤ x6_1) = false := decide_eq_false c4
        clear c4
        simp only [Option.some.injEq, Prod.mk.injEq] at H
        obtain ⟨rfl, rfl, rfl, rfl⟩ := H
        have hcz9_0 : wr.cell? ⟨gb272, 0, none⟩ = some (.string x273000_1) := (blk_cell BK272.out 0).trans rfl
        have hcz9_1 : wr.cell? ⟨gb272, 1, none⟩ = some (.bool x273001_1) := (blk_cell BK272.out 1).trans rfl
        have hcz9_2 : wr.cell? ⟨gb272, 2, none⟩ = some (.string x273002_1) := (blk_cell BK272.out 2).trans rfl
        have hfz9_0 := blk_frozen BK272.out 0
        have hfz9_1 := blk_frozen BK272.out 1
        have hfz9_2 := blk_frozen BK272.out 2
        go_wp2
        refine bodyPost_ret (results_ct rfl _ _ gb272 44 #[.string (⟨#[]⟩ : ByteArray), .bool false, .string (⟨#[]⟩ : ByteArray)] (0, 0) _ rfl (by (with_reducible repeat (first | refine blk_drewN ?_ _ | refine blk_drew ?_ | refine blk_alloc ?_ _)); refine blk_put (cs := #[.string (⟨#[]⟩ : ByteArray), .bool false, .string x273002_1]) ?_ 2 _ rfl; (with_reducible repeat (first | refine blk_drewN ?_ _ | refine blk_drew ?_ | refine blk_alloc ?_ _)); refine blk_put (cs := #[.string (⟨#[]⟩ : ByteArray), .bool x273001_1, .string x273002_1]) ?_ 1 _ rfl; (with_reducible repeat (first | refine blk_drewN ?_ _ | refine blk_drew ?_ | refine blk_alloc ?_ _)); refine blk_put (cs := #[.string x273000_1, .bool x273001_1, .string x273002_1]) ?_ 0 _ rfl; (with_reducible repeat (first | refine blk_drewN ?_ _ | refine blk_drew ?_ | refine blk_alloc ?_ _)); exact BK272.out) Tryd.underlying44 rfl (by kernel_rfl)) rfl ?_
        exact ⟨by first | rfl | (simp [errW_none, errW_some] <;> rfl) | (simp [*, errW_none, errW_some] <;> rfl), by repeat (first | (with_reducible first | exact HB.out | apply below_alloc | apply pw_below_drewN | apply below_drew1 | refine below_set ?_ GE272.out) | exact HB.out)⟩
end

section
attribute [local go_sem high] eqA44
/-! ### cachepotbook_SameWrites: function 56 -/
def cachepotbook_SameWrites.l0 : Nat → List (S44) → List (S44) → Int → Option (Bool)
  | 0, _, _, _ => none
  | k + 1, x0, x1, x5 => if x5 < (x0.length : Int) then (if 0 ≤ x5 then (if x5 < (x1.length : Int) then (if (!((((rd_T44 x0 x5).f0).toList) == (((rd_T44 x1 x5).f0).toList)) || (!(((rd_T44 x0 x5).f1) == ((rd_T44 x1 x5).f1)) || (!((((rd_T44 x0 x5).f2).toList) == (((rd_T44 x1 x5).f2).toList))))) = true then (some false) else (cachepotbook_SameWrites.l0 k x0 x1 (wrap64 (x5 + 1)))) else (none)) else (none)) else (some true)
def cachepotbook_SameWrites.f (k : Nat) (l0 : List (S44)) (l1 : List (S44)) : Option (Bool) := if (l0.length : Int) = (l1.length : Int) then (cachepotbook_SameWrites.l0 k l0 l1 0) else (some false)
theorem cachepotbook_SameWrites.mono_l : ∀ k, (∀ y0 y1 y2, LeO (cachepotbook_SameWrites.l0 k y0 y1 y2) (cachepotbook_SameWrites.l0 (k + 1) y0 y1 y2))
  | 0 => fun _ _ _ r h => by simp [cachepotbook_SameWrites.l0] at h
  | k + 1 => by
    have ih0 := cachepotbook_SameWrites.mono_l k
    · intro y0 y1 y2
      unfold cachepotbook_SameWrites.l0
      repeat' first
      | (with_reducible exact ih0 _ _ _)
      | (with_reducible exact LeO.refl _)
      | (with_reducible exact LeO.none _)
      | (with_reducible refine LeO.ite ?_ ?_)
      | (with_reducible refine LeO.bind ?_ (fun _ => ?_))
      | exact ih0 _ _ _
      | exact LeO.none _
      | refine LeO.ite ?_ ?_
      | refine LeO.bind ?_ (fun _ => ?_)
theorem cachepotbook_SameWrites.mono : ∀ a0 a1 k, LeO (cachepotbook_SameWrites.f k a0 a1) (cachepotbook_SameWrites.f (k + 1) a0 a1) := by
  intro a0 a1 k
  have ih0 := cachepotbook_SameWrites.mono_l k
  unfold cachepotbook_SameWrites.f
  repeat' first
      | (with_reducible exact ih0 _ _ _)
      | (with_reducible exact LeO.refl _)
      | (with_reducible exact LeO.none _)
      | (with_reducible refine LeO.ite ?_ ?_)
      | (with_reducible refine LeO.bind ?_ (fun _ => ?_))
      | exact ih0 _ _ _
      | exact LeO.none _
      | refine LeO.ite ?_ ?_
      | refine LeO.bind ?_ (fun _ => ?_)
set_option maxHeartbeats 8000000 in
set_option maxRecDepth 100000 in
theorem cachepotbook_SameWrites.calls (k : Nat) (A0 : Option Addr) (c0 : Nat) (l0 : List (S44)) (A1 : Option Addr) (c1 : Nat) (l1 : List (S44)) (r : Bool) (w : World) (hr0 : Kd.C k44 w A0 l0.length l0) (hc0 : l0.length ≤ c0) (hr1 : Kd.C k44 w A1 l1.length l1) (hc1 : l1.length ≤ c1) (h : cachepotbook_SameWrites.f k l0 l1 = some r) :
    Calls Tryd.prog 56 #[.slice A0 l0.length c0, .slice A1 l1.length c1] w fun e w' => e = .returned (.bool r) ∧ Drawn0 w w' := by
  have hu44 := Tryd.underlying44
  have HR0 := Aside0.mk hr0
  have HC0 := Aside0.mk hc0
  clear hr0 hc0
  have HR1 := Aside0.mk hr1
  have HC1 := Aside0.mk hc1
  clear hr1 hc1
  have H : (if (l0.length : Int) = (l1.length : Int) then (cachepotbook_SameWrites.l0 k l0 l1 0) else (some false)) = some r := h
  clear h
  by_cases c3 : (l0.length : Int) = (l1.length : Int)
  · rw [if_pos c3] at H
    have c3b0 : ((l0.length : Int) == (l1.length : Int)) = true := beq_iff_eq.mpr c3
    have c3b1 : ((l0.length : Int) != (l1.length : Int)) = false := bne_eq_false_iff_eq.mpr c3
    have c3b2 : (l0.length == l1.length) = true := by first | simpa using c3 | (simp at c3 ⊢; omega)
    clear c3
    have H' := Aside0.mk H
    clear H
    go_enter Tryd.func56, Tryd.ntmps56
    go_wp2
    repeat (go_quiet (fail); try go_wp2)
    go_loopg [5] k (fun kq v5 w' => ∃ (x5_1 : Int), v5 = .int .i64 x5_1 ∧ Aside0 (cachepotbook_SameWrites.l0 kq l0 l1 x5_1 = some r) ∧ Aside0 (kq ≤ k) ∧ Drawn0 w w')
    case atStart => exact ⟨(0), (by first | rfl | (simp; done) | (simp [*]; done)), H', ⟨Nat.le_refl _⟩, by repeat (first | exact Drawn0.refl _ | apply Drawn0.step)⟩
    case round =>
      clear H'
      try clear c1
      try clear p2
      try clear c3
      try clear c3b0
      try clear c3b1
      try clear c3b2
      obtain ⟨x5_1, rfl, HA, HK1, ⟨m1, rfl⟩⟩ := hrel
      cases gk with
      | zero => exact absurd HA.out (by simp [cachepotbook_SameWrites.l0])
      | succ k1 =>
        have H := HA.out
        clear HA
        simp only [cachepotbook_SameWrites.l0] at H
        by_cases c4 : x5_1 < (l0.length : Int)
        · rw [if_pos c4] at H
          have c4b0 : decide (x5_1 < (l0.length : Int)) = true := decide_eq_true c4
          clear c4
          by_cases c5 : 0 ≤ x5_1
          · rw [if_pos c5] at H
            have c5b0 : decide (0 ≤ x5_1) = true := decide_eq_true c5
            clear c5
            by_cases c6 : x5_1 < (l1.length : Int)
            · rw [if_pos c6] at H
              have c6b0 : decide (x5_1 < (l1.length : Int)) = true := decide_eq_true c6
              clear c6
              by_cases c7 : (!((((rd_T44 l0 x5_1).f0).toList) == (((rd_T44 l1 x5_1).f0).toList)) || (!(((rd_T44 l0 x5_1).f1) == ((rd_T44 l1 x5_1).f1)) || (!((((rd_T44 l0 x5_1).f2).toList) == (((rd_T44 l1 x5_1).f2).toList))))) = true
              · rw [if_pos c7] at H
                have c7b0 : (!((((rd_T44 l0 x5_1).f0).toList) == (((rd_T44 l1 x5_1).f0).toList)) || (!(((rd_T44 l0 x5_1).f1) == ((rd_T44 l1 x5_1).f1)) || (!((((rd_T44 l0 x5_1).f2).toList) == (((rd_T44 l1 x5_1).f2).toList))))) = true := c7
                clear c7
                obtain rfl := Option.some.inj H
                have p283 : 0 ≤ (x5_1 : Int) := of_decide_eq_true (by first | (with_reducible assumption) | assumption)
                have q283 : x5_1 < (l0.length : Int) := of_decide_eq_true (by first | (with_reducible assumption) | assumption)
                obtain ⟨ad283, e283, hx283_0, hx283_1, hx283_2⟩ := at_T44 HR0.out x5_1 p283 q283
                cases e283
                replace p283 := eq_true p283
                replace q283 := eq_true q283
                have p284 : 0 ≤ (x5_1 : Int) := of_decide_eq_true (by first | (with_reducible assumption) | assumption)
                have q284 : x5_1 < (l1.length : Int) := of_decide_eq_true (by first | (with_reducible assumption) | assumption)
                obtain ⟨ad284, e284, hx284_0, hx284_1, hx284_2⟩ := at_T44 HR1.out x5_1 p284 q284
                cases e284
                replace p284 := eq_true p284
                replace q284 := eq_true q284
                go_wp2
                repeat (go_quiet (fail); try go_wp2)
                go_ret
                exact ⟨by first | rfl | (simp; done) | (simp [*]; done), by repeat (first | exact Drawn0.refl _ | apply Drawn0.step)⟩
              · rw [if_neg c7] at H
                have c7b0 : (!((((rd_T44 l0 x5_1).f0).toList) == (((rd_T44 l1 x5_1).f0).toList)) || (!(((rd_T44 l0 x5_1).f1) == ((rd_T44 l1 x5_1).f1)) || (!((((rd_T44 l0 x5_1).f2).toList) == (((rd_T44 l1 x5_1).f2).toList))))) = false := by simpa using c7
                clear c7
                have H' := Aside0.mk H
                clear H
                have p283 : 0 ≤ (x5_1 : Int) := of_decide_eq_true (by first | (with_reducible assumption) | assumption)
                have q283 : x5_1 < (l0.length : Int) := of_decide_eq_true (by first | (with_reducible assumption) | assumption)
                obtain ⟨ad283, e283, hx283_0, hx283_1, hx283_2⟩ := at_T44 HR0.out x5_1 p283 q283
                cases e283
                replace p283 := eq_true p283
                replace q283 := eq_true q283
                have p284 : 0 ≤ (x5_1 : Int) := of_decide_eq_true (by first | (with_reducible assumption) | assumption)
                have q284 : x5_1 < (l1.length : Int) := of_decide_eq_true (by first | (with_reducible assumption) | assumption)
                obtain ⟨ad284, e284, hx284_0, hx284_1, hx284_2⟩ := at_T44 HR1.out x5_1 p284 q284
                cases e284
                replace p284 := eq_true p284
                replace q284 := eq_true q284
                go_wp2
                repeat (go_quiet (fail); try go_wp2)
                go_roundg k1
                case measure => have := HK1.out; omega
                case rel => exact ⟨(wrap64 (x5_1 + 1)), (by first | rfl | (simp; done) | (simp [*]; done)), H', ⟨by have := HK1.out; omega⟩, by repeat (first | exact Drawn0.refl _ | apply Drawn0.step)⟩
            · rw [if_neg c6] at H
              exact absurd H (by simp)
          · rw [if_neg c5] at H
            exact absurd H (by simp)
        · rw [if_neg c4] at H
          have c4b0 : decide (x5_1 < (l0.length : Int)) = false := decide_eq_false c4
          clear c4
          obtain rfl := Option.some.inj H
          go_wp2
          repeat (go_quiet (fail); try go_wp2)
          go_ret
          exact ⟨by first | rfl | (simp; done) | (simp [*]; done), by repeat (first | exact Drawn0.refl _ | apply Drawn0.step)⟩
  · rw [if_neg c3] at H
    have c3b0 : ((l0.length : Int) == (l1.length : Int)) = false := beq_eq_false_iff_ne.mpr c3
    have c3b1 : ((l0.length : Int) != (l1.length : Int)) = true := bne_iff_ne.mpr c3
    have c3b2 : (l0.length == l1.length) = false := by first | simpa using c3 | (simp at c3 ⊢; omega)
    obtain rfl := Option.some.inj H
    go_enter Tryd.func56, Tryd.ntmps56
    go_wp2
    repeat (go_quiet (fail); try go_wp2)
    go_ret
    exact ⟨by first | rfl | (simp; done) | (simp [*]; done), by repeat (first | exact Drawn0.refl _ | apply Drawn0.step)⟩
end

section
/-! ### cachepotref1_Plain: function 97 -/
def cachepotref1_Plain.f (a0 : Int) (a1 : Int) : Option (Bool) := if a0 ≥ 33 then (if a0 ≥ 127 then (if a0 ≤ 160 then (some false) else (if a0 = 65533 then (some (!(a1 == 1))) else (some (!false)))) else (if a0 = 65533 then (some (!(a1 == 1))) else (some (!false)))) else (some false)
set_option maxHeartbeats 8000000 in
set_option maxRecDepth 100000 in
theorem cachepotref1_Plain.calls (a0 : Int) (a1 : Int) (r : Bool) (w : World) (h : cachepotref1_Plain.f a0 a1 = some r) :
    Calls Tryd.prog 97 #[.int .i64 a0, .int .i64 a1] w fun e w' => e = .returned (.bool r) ∧ Drawn0 w w' := by
  have H : (if a0 ≥ 33 then (if a0 ≥ 127 then (if a0 ≤ 160 then (some false) else (if a0 = 65533 then (some (!(a1 == 1))) else (some (!false)))) else (if a0 = 65533 then (some (!(a1 == 1))) else (some (!false)))) else (some false)) = some r := h
  clear h
  by_cases c3 : a0 ≥ 33
  · rw [if_pos c3] at H
    have c3b0 : decide (33 ≤ a0) = true := decide_eq_true c3
    clear c3
    by_cases c4 : a0 ≥ 127
    · rw [if_pos c4] at H
      have c4b0 : decide (127 ≤ a0) = true := decide_eq_true c4
      clear c4
      by_cases c5 : a0 ≤ 160
      · rw [if_pos c5] at H
        have c5b0 : decide (a0 ≤ 160) = true := decide_eq_true c5
        clear c5
        obtain rfl := Option.some.inj H
        go_enter Tryd.func97, Tryd.ntmps97
        go_wp2
        go_ret
        exact ⟨by first | rfl | (simp; done) | (simp [*]; done), by repeat (first | exact Drawn0.refl _ | apply Drawn0.step)⟩
      · rw [if_neg c5] at H
        have c5b0 : decide (a0 ≤ 160) = false := decide_eq_false c5
        clear c5
        by_cases c6 : a0 = 65533
        · rw [if_pos c6] at H
          have c6b0 : (a0 == 65533) = true := beq_iff_eq.mpr c6
          have c6b1 : (a0 != 65533) = false := bne_eq_false_iff_eq.mpr c6
          clear c6
          obtain rfl := Option.some.inj H
          go_enter Tryd.func97, Tryd.ntmps97
          go_wp2
          go_ret
          exact ⟨by first | rfl | (simp; done) | (simp [*]; done), by repeat (first | exact Drawn0.refl _ | apply Drawn0.step)⟩
        · rw [if_neg c6] at H
          have c6b0 : (a0 == 65533) = false := beq_eq_false_iff_ne.mpr c6
          have c6b1 : (a0 != 65533) = true := bne_iff_ne.mpr c6
          obtain rfl := Option.some.inj H
          go_enter Tryd.func97, Tryd.ntmps97
          go_wp2
          go_ret
          exact ⟨by first | rfl | (simp; done) | (simp [*]; done), by repeat (first | exact Drawn0.refl _ | apply Drawn0.step)⟩
    · rw [if_neg c4] at H
      have c4b0 : decide (127 ≤ a0) = false := decide_eq_false c4
      clear c4
      by_cases c7 : a0 = 65533
      · rw [if_pos c7] at H
        have c7b0 : (a0 == 65533) = true := beq_iff_eq.mpr c7
        have c7b1 : (a0 != 65533) = false := bne_eq_false_iff_eq.mpr c7
        clear c7
        obtain rfl := Option.some.inj H
        go_enter Tryd.func97, Tryd.ntmps97
        go_wp2
        go_ret
        exact ⟨by first | rfl | (simp; done) | (simp [*]; done), by repeat (first | exact Drawn0.refl _ | apply Drawn0.step)⟩
      · rw [if_neg c7] at H
        have c7b0 : (a0 == 65533) = false := beq_eq_false_iff_ne.mpr c7
        have c7b1 : (a0 != 65533) = true := bne_iff_ne.mpr c7
        obtain rfl := Option.some.inj H
        go_enter Tryd.func97, Tryd.ntmps97
        go_wp2
        go_ret
        exact ⟨by first | rfl | (simp; done) | (simp [*]; done), by repeat (first | exact Drawn0.refl _ | apply Drawn0.step)⟩
  · rw [if_neg c3] at H
    have c3b0 : decide (33 ≤ a0) = false := decide_eq_false c3
    clear c3
    obtain rfl := Option.some.inj H
    go_enter Tryd.func97, Tryd.ntmps97
    go_wp2
    go_ret
    exact ⟨by first | rfl | (simp; done) | (simp [*]; done), by repeat (first | exact Drawn0.refl _ | apply Drawn0.step)⟩
end

section
/-! ### cachepotref1_KeyRight: function 59 -/
def cachepotref1_KeyRight.l0 : Nat → List Int → List Int → Int → Option (Bool)
  | 0, _, _, _ => none
  | k + 1, x3, x4, x5 => if x5 < (x3.length : Int) then (if 0 ≤ x5 then (if x5 < (x4.length : Int) then ((cachepotref1_Plain.f (rd x3 x5) (rd x4 x5)).bind fun t296 => (if t296 = true then (cachepotref1_KeyRight.l0 k x3 x4 (wrap64 (x5 + 1))) else (some false))) else (none)) else (none)) else (if (x3.length : Int) ≥ 1 then (some (decide ((x3.length : Int) ≤ 12))) else (some false))
def cachepotref1_KeyRight.f (k : Nat) (a0 : ByteArray) : Option (Bool) := (cachepotref1_Runes.f k a0).bind fun bt288 => (cachepotref1_KeyRight.l0 k bt288.1 bt288.2 0)
theorem cachepotref1_KeyRight.mono_l : ∀ k, (∀ y0 y1 y2, LeO (cachepotref1_KeyRight.l0 k y0 y1 y2) (cachepotref1_KeyRight.l0 (k + 1) y0 y1 y2))
  | 0 => fun _ _ _ r h => by simp [cachepotref1_KeyRight.l0] at h
  | k + 1 => by
    have ih0 := cachepotref1_KeyRight.mono_l k
    · intro y0 y1 y2
      unfold cachepotref1_KeyRight.l0
      repeat' first
      | (with_reducible exact ih0 _ _ _)
      | (with_reducible exact cachepotref1_Runes.mono _ _)
      | (with_reducible exact LeO.refl _)
      | (with_reducible exact LeO.none _)
      | (with_reducible refine LeO.ite ?_ ?_)
      | (with_reducible refine LeO.bind ?_ (fun _ => ?_))
      | exact ih0 _ _ _
      | exact cachepotref1_Runes.mono _ _
      | exact LeO.none _
      | refine LeO.ite ?_ ?_
      | refine LeO.bind ?_ (fun _ => ?_)
theorem cachepotref1_KeyRight.mono : ∀ a0 k, LeO (cachepotref1_KeyRight.f k a0) (cachepotref1_KeyRight.f (k + 1) a0) := by
  intro a0 k
  have ih0 := cachepotref1_KeyRight.mono_l k
  unfold cachepotref1_KeyRight.f
  repeat' first
      | (with_reducible exact ih0 _ _ _)
      | (with_reducible exact cachepotref1_Runes.mono _ _)
      | (with_reducible exact LeO.refl _)
      | (with_reducible exact LeO.none _)
      | (with_reducible refine LeO.ite ?_ ?_)
      | (with_reducible refine LeO.bind ?_ (fun _ => ?_))
      | exact ih0 _ _ _
      | exact cachepotref1_Runes.mono _ _
      | exact LeO.none _
      | refine LeO.ite ?_ ?_
      | refine LeO.bind ?_ (fun _ => ?_)
set_option maxHeartbeats 8000000 in
set_option maxRecDepth 100000 in
theorem cachepotref1_KeyRight.calls (k : Nat) (a0 : ByteArray) (r : Bool) (w : World) (h : cachepotref1_KeyRight.f k a0 = some r) :
    Calls Tryd.prog 59 #[.string a0] w fun e w' => e = .returned (.bool r) ∧ Below w.heap.size w w' := by
  have HB := Aside0.mk (Below.refl w.heap.size w)
  have H : ((cachepotref1_Runes.f k a0).bind fun bt288 => (cachepotref1_KeyRight.l0 k bt288.1 bt288.2 0)) = some r := h
  clear h
  replace H := Option.bind_eq_some_iff.mp H
  obtain ⟨⟨t288, t289⟩, A20, H⟩ := H
  replace H : (cachepotref1_KeyRight.l0 k t288 t289 0) = some r := H
  have A2 := Aside0.mk A20
  clear A20
  have H' := Aside0.mk H
  clear H
  go_enter Tryd.func59, Tryd.ntmps59
  go_wp2_with (first | (go_at_call 96; (with_reducible refine (cachepotref1_Runes.calls k a0 t288 t289 _ A2.out).mono ?_); rintro e w3 ⟨v290, v292, rfl, ho0, ho1, hb⟩; have n0_ := Aside0.mk (Kd.R_lower ho0 (below_size (by repeat (first | (with_reducible first | exact HB.out | apply below_alloc | apply pw_below_drewN | apply below_drew1) | exact HB.out)))); have n1_ := Aside0.mk (Kd.R_lower ho1 (below_size (by repeat (first | (with_reducible first | exact HB.out | apply below_alloc | apply pw_below_drewN | apply below_drew1) | exact HB.out)))); have n2_ := Aside0.mk (below_step (by repeat (first | (with_reducible first | exact HB.out | apply below_alloc | apply pw_below_drewN | apply below_drew1) | exact HB.out)) hb); clear HB; have HO291 := n0_; have HO293 := n1_; have HB := n2_; clear n0_ n1_ n2_; (try clear hb); (try clear hb2); (try clear hk); (try clear hi); (try clear ho0); (try clear ho1)))
  repeat (go_quiet (first | (go_at_call 96; (with_reducible refine (cachepotref1_Runes.calls k a0 t288 t289 _ A2.out).mono ?_); rintro e w3 ⟨v290, v292, rfl, ho0, ho1, hb⟩; have n0_ := Aside0.mk (Kd.R_lower ho0 (below_size (by repeat (first | (with_reducible first | exact HB.out | apply below_alloc | apply pw_below_drewN | apply below_drew1) | exact HB.out)))); have n1_ := Aside0.mk (Kd.R_lower ho1 (below_size (by repeat (first | (with_reducible first | exact HB.out | apply below_alloc | apply pw_below_drewN | apply below_drew1) | exact HB.out)))); have n2_ := Aside0.mk (below_step (by repeat (first | (with_reducible first | exact HB.out | apply below_alloc | apply pw_below_drewN | apply below_drew1) | exact HB.out)) hb); clear HB; have HO291 := n0_; have HO293 := n1_; have HB := n2_; clear n0_ n1_ n2_; (try clear hb); (try clear hb2); (try clear hk); (try clear hi); (try clear ho0); (try clear ho1))); try go_wp2_with (first | (go_at_call 96; (with_reducible refine (cachepotref1_Runes.calls k a0 t288 t289 _ A2.out).mono ?_); rintro e w3 ⟨v290, v292, rfl, ho0, ho1, hb⟩; have n0_ := Aside0.mk (Kd.R_lower ho0 (below_size (by repeat (first | (with_reducible first | exact HB.out | apply below_alloc | apply pw_below_drewN | apply below_drew1) | exact HB.out)))); have n1_ := Aside0.mk (Kd.R_lower ho1 (below_size (by repeat (first | (with_reducible first | exact HB.out | apply below_alloc | apply pw_below_drewN | apply below_drew1) | exact HB.out)))); have n2_ := Aside0.mk (below_step (by repeat (first | (with_reducible first | exact HB.out | apply below_alloc | apply pw_below_drewN | apply below_drew1) | exact HB.out)) hb); clear HB; have HO291 := n0_; have HO293 := n1_; have HB := n2_; clear n0_ n1_ n2_; (try clear hb); (try clear hb2); (try clear hk); (try clear hi); (try clear ho0); (try clear ho1))))
  go_loopg [5] k (fun kq v5 w' => ∃ (x5_1 : Int), v5 = .int .i64 x5_1 ∧ Aside0 (cachepotref1_KeyRight.l0 kq t288 t289 x5_1 = some r) ∧ Aside0 (kq ≤ k) ∧ Aside0 (Kd.R (Kd.int .i64) 3 w' w.heap.size (fun k_ => some k_ ≠ (v292 : Value).ownBlock) v290 t288) ∧ Aside0 (Kd.R (Kd.int .i64) 3 w' w.heap.size (fun k_ => some k_ ≠ (v290 : Value).ownBlock) v292 t289) ∧ Aside0 (Below w.heap.size w w'))
  case atStart => exact ⟨(0), (by first | rfl | (simp; done) | (simp [*]; done)), H', ⟨Nat.le_refl _⟩, ⟨by (with_reducible repeat (first | apply Kd.R_alloc | apply Kd.R_drewN | apply Kd.R_drew)); exact HO291.out⟩, ⟨by (with_reducible repeat (first | apply Kd.R_alloc | apply Kd.R_drewN | apply Kd.R_drew)); exact HO293.out⟩, ⟨by repeat (first | (with_reducible first | exact HB.out | apply below_alloc | apply pw_below_drewN | apply below_drew1) | exact HB.out)⟩⟩
  case round =>
    clear H'
    try clear p2
    obtain ⟨x5_1, rfl, HA, HK1, HO_3, HO_4, HB⟩ := hrel
    cases gk with
    | zero => exact absurd HA.out (by simp [cachepotref1_KeyRight.l0])
    | succ k1 =>
      have H := HA.out
      clear HA
      simp only [cachepotref1_KeyRight.l0] at H
      by_cases c4 : x5_1 < (t288.length : Int)
      · rw [if_pos c4] at H
        have c4b0 : decide (x5_1 < (t288.length : Int)) = true := decide_eq_true c4
        clear c4
        by_cases c5 : 0 ≤ x5_1
        · rw [if_pos c5] at H
          have c5b0 : decide (0 ≤ x5_1) = true := decide_eq_true c5
          clear c5
          by_cases c6 : x5_1 < (t289.length : Int)
          · rw [if_pos c6] at H
            have c6b0 : decide (x5_1 < (t289.length : Int)) = true := decide_eq_true c6
            clear c6
            replace H := Option.bind_eq_some_iff.mp H
            obtain ⟨t296, A70, H⟩ := H
            replace H : (if t296 = true then (cachepotref1_KeyRight.l0 k1 t288 t289 (wrap64 (x5_1 + 1))) else (some false)) = some r := H
            have A7 := Aside0.mk A70
            clear A70
            by_cases c8 : t296 = true
            · subst c8
              have H1 : (cachepotref1_KeyRight.l0 k1 t288 t289 (wrap64 (x5_1 + 1))) = some r := by rw [if_pos rfl] at H; exact H
              clear H
              have H := H1
              clear H1
              have H' := Aside0.mk H
              clear H
              obtain ⟨Ao9, co9, eo9⟩ := Kd.R_slice HO_3.out
              subst eo9
              have p294 : 0 ≤ (x5_1 : Int) := of_decide_eq_true (by first | (with_reducible assumption) | assumption)
              have q294 : x5_1 < (t288.length : Int) := of_decide_eq_true (by first | (with_reducible assumption) | assumption)
              obtain ⟨ad294, e294, hx294_0⟩ := Kd.at_int (Kd.R_reads' HO_3.out).2.2 x5_1 p294 q294
              cases e294
              replace p294 := eq_true p294
              replace q294 := eq_true q294
              obtain ⟨Ao10, co10, eo10⟩ := Kd.R_slice HO_4.out
              subst eo10
              have p295 : 0 ≤ (x5_1 : Int) := of_decide_eq_true (by first | (with_reducible assumption) | assumption)
              have q295 : x5_1 < (t289.length : Int) := of_decide_eq_true (by first | (with_reducible assumption) | assumption)
              obtain ⟨ad295, e295, hx295_0⟩ := Kd.at_int (Kd.R_reads' HO_4.out).2.2 x5_1 p295 q295
              cases e295
              replace p295 := eq_true p295
              replace q295 := eq_true q295
              go_wp2_with (first | (go_at_call 97; (with_reducible refine (cachepotref1_Plain.calls (rd t288 x5_1) (rd t289 x5_1) true _ A7.out).mono ?_); rintro e w' ⟨rfl, ⟨nd, rfl⟩⟩; (try first | exact ⟨rfl, _, World.drewN_drewN _ _ _⟩ | exact ⟨rfl, _, Eq.trans (World.drewN_drewN _ _ _) (congrArg (World.drewN _) (Nat.add_assoc _ _ _))⟩)))
              repeat (go_quiet (first | (go_at_call 97; (with_reducible refine (cachepotref1_Plain.calls (rd t288 x5_1) (rd t289 x5_1) true _ A7.out).mono ?_); rintro e w' ⟨rfl, ⟨nd, rfl⟩⟩; (try first | exact ⟨rfl, _, World.drewN_drewN _ _ _⟩ | exact ⟨rfl, _, Eq.trans (World.drewN_drewN _ _ _) (congrArg (World.drewN _) (Nat.add_assoc _ _ _))⟩))); try go_wp2_with (first | (go_at_call 97; (with_reducible refine (cachepotref1_Plain.calls (rd t288 x5_1) (rd t289 x5_1) true _ A7.out).mono ?_); rintro e w' ⟨rfl, ⟨nd, rfl⟩⟩; (try first | exact ⟨rfl, _, World.drewN_drewN _ _ _⟩ | exact ⟨rfl, _, Eq.trans (World.drewN_drewN _ _ _) (congrArg (World.drewN _) (Nat.add_assoc _ _ _))⟩))))
              go_roundg k1
              case measure => have := HK1.out; omega
              case rel => exact ⟨(wrap64 (x5_1 + 1)), (by first | rfl | (simp; done) | (simp [*]; done)), H', ⟨by have := HK1.out; omega⟩, ⟨by (with_reducible repeat (first | apply Kd.R_alloc | apply Kd.R_drewN | apply Kd.R_drew)); exact HO_3.out⟩, ⟨by (with_reducible repeat (first | apply Kd.R_alloc | apply Kd.R_drewN | apply Kd.R_drew)); exact HO_4.out⟩, ⟨by repeat (first | (with_reducible first | exact HB.out | apply below_alloc | apply pw_below_drewN | apply below_drew1) | exact HB.out)⟩⟩
            · replace c8 := Bool.eq_false_iff.mpr c8
              subst c8
              have H1 : (some false) = some r := by rw [if_neg (show ¬ (false = true) by decide)] at H; exact H
              clear H
              have H := H1
              clear H1
              obtain rfl := Option.some.inj H
              obtain ⟨Ao11, co11, eo11⟩ := Kd.R_slice HO_3.out
              subst eo11
              have p294 : 0 ≤ (x5_1 : Int) := of_decide_eq_true (by first | (with_reducible assumption) | assumption)
              have q294 : x5_1 < (t288.length : Int) := of_decide_eq_true (by first | (with_reducible assumption) | assumption)
              obtain ⟨ad294, e294, hx294_0⟩ := Kd.at_int (Kd.R_reads' HO_3.out).2.2 x5_1 p294 q294
              cases e294
              replace p294 := eq_true p294
              replace q294 := eq_true q294
              obtain ⟨Ao12, co12, eo12⟩ := Kd.R_slice HO_4.out
              subst eo12
              have p295 : 0 ≤ (x5_1 : Int) := of_decide_eq_true (by first | (with_reducible assumption) | assumption)
              have q295 : x5_1 < (t289.length : Int) := of_decide_eq_true (by first | (with_reducible assumption) | assumption)
              obtain ⟨ad295, e295, hx295_0⟩ := Kd.at_int (Kd.R_reads' HO_4.out).2.2 x5_1 p295 q295
              cases e295
              replace p295 := eq_true p295
              replace q295 := eq_true q295
              go_wp2_with (first | (go_at_call 97; (with_reducible refine (cachepotref1_Plain.calls (rd t288 x5_1) (rd t289 x5_1) false _ A7.out).mono ?_); rintro e w' ⟨rfl, ⟨nd, rfl⟩⟩; (try first | exact ⟨rfl, _, World.drewN_drewN _ _ _⟩ | exact ⟨rfl, _, Eq.trans (World.drewN_drewN _ _ _) (congrArg (World.drewN _) (Nat.add_assoc _ _ _))⟩)))
              repeat (go_quiet (first | (go_at_call 97; (with_reducible refine (cachepotref1_Plain.calls (rd t288 x5_1) (rd t289 x5_1) false _ A7.out).mono ?_); rintro e w' ⟨rfl, ⟨nd, rfl⟩⟩; (try first | exact ⟨rfl, _, World.drewN_drewN _ _ _⟩ | exact ⟨rfl, _, Eq.trans (World.drewN_drewN _ _ _) (congrArg (World.drewN _) (Nat.add_assoc _ _ _))⟩))); try go_wp2_with (first | (go_at_call 97; (with_reducible refine (cachepotref1_Plain.calls (rd t288 x5_1) (rd t289 x5_1) false _ A7.out).mono ?_); rintro e w' ⟨rfl, ⟨nd, rfl⟩⟩; (try first | exact ⟨rfl, _, World.drewN_drewN _ _ _⟩ | exact ⟨rfl, _, Eq.trans (World.drewN_drewN _ _ _) (congrArg (World.drewN _) (Nat.add_assoc _ _ _))⟩))))
              go_ret
              exact ⟨by first | rfl | (simp [errW_none, errW_some] <;> rfl) | (simp [*, errW_none, errW_some] <;> rfl), by repeat (first | (with_reducible first | exact HB.out | apply below_alloc | apply pw_below_drewN | apply below_drew1) | exact HB.out)⟩
          · rw [if_neg c6] at H
            exact absurd H (by simp)
        · rw [if_neg c5] at H
          exact absurd H (by simp)
      · rw [if_neg c4] at H
        have c4b0 : decide (x5_1 < (t288.length : Int)) = false := decide_eq_false c4
        clear c4
        by_cases c13 : (t288.length : Int) ≥ 1
        · rw [if_pos c13] at H
          have c13b0 : decide (1 ≤ (t288.length : Int)) = true := decide_eq_true c13
          have c13b1 : decide (1 ≤ t288.length) = true := decide_eq_true (by omega)
          clear c13
          obtain rfl := Option.some.inj H
          obtain ⟨Ao14, co14, eo14⟩ := Kd.R_slice HO_3.out
          subst eo14
          go_wp2
          repeat (go_quiet (fail); try go_wp2)
          go_ret
          exact ⟨by first | rfl | (simp [errW_none, errW_some] <;> rfl) | (simp [*, errW_none, errW_some] <;> rfl), by repeat (first | (with_reducible first | exact HB.out | apply below_alloc | apply pw_below_drewN | apply below_drew1) | exact HB.out)⟩
        · rw [if_neg c13] at H
          have c13b0 : decide (1 ≤ (t288.length : Int)) = false := decide_eq_false c13
          have c13b1 : decide (1 ≤ t288.length) = false := decide_eq_false (by omega)
          clear c13
          obtain rfl := Option.some.inj H
          obtain ⟨Ao15, co15, eo15⟩ := Kd.R_slice HO_3.out
          subst eo15
          go_wp2
          repeat (go_quiet (fail); try go_wp2)
          go_ret
          exact ⟨by first | rfl | (simp [errW_none, errW_some] <;> rfl) | (simp [*, errW_none, errW_some] <;> rfl), by repeat (first | (with_reducible first | exact HB.out | apply below_alloc | apply pw_below_drewN | apply below_drew1) | exact HB.out)⟩
end

section
attribute [local go_sem high] eqA99
/-! ### cachepotbook_SameReads: function 62 -/
def cachepotbook_SameReads.l0 : Nat → List (S99) → List (S99) → Int → Option (Bool)
  | 0, _, _, _ => none
  | k + 1, x0, x1, x5 => if x5 < (x0.length : Int) then (if 0 ≤ x5 then (if x5 < (x1.length : Int) then (if (!((((rd_T99 x0 x5).f0).toList) == (((rd_T99 x1 x5).f0).toList)) || (!(((rd_T99 x0 x5).f1) == ((rd_T99 x1 x5).f1)) || (!(((rd_T99 x0 x5).f2) == ((rd_T99 x1 x5).f2))))) = true then (some false) else (cachepotbook_SameReads.l0 k x0 x1 (wrap64 (x5 + 1)))) else (none)) else (none)) else (some true)
def cachepotbook_SameReads.f (k : Nat) (l0 : List (S99)) (l1 : List (S99)) : Option (Bool) := if (l0.length : Int) = (l1.length : Int) then (cachepotbook_SameReads.l0 k l0 l1 0) else (some false)
theorem cachepotbook_SameReads.mono_l : ∀ k, (∀ y0 y1 y2, LeO (cachepotbook_SameReads.l0 k y0 y1 y2) (cachepotbook_SameReads.l0 (k + 1) y0 y1 y2))
  | 0 => fun _ _ _ r h => by simp [cachepotbook_SameReads.l0] at h
  | k + 1 => by
    have ih0 := cachepotbook_SameReads.mono_l k
    · intro y0 y1 y2
      unfold cachepotbook_SameReads.l0
      repeat' first
      | (with_reducible exact ih0 _ _ _)
      | (with_reducible exact LeO.refl _)
      | (with_reducible exact LeO.none _)
      | (with_reducible refine LeO.ite ?_ ?_)
      | (with_reducible refine LeO.bind ?_ (fun _ => ?_))
      | exact ih0 _ _ _
      | exact LeO.none _
      | refine LeO.ite ?_ ?_
      | refine LeO.bind ?_ (fun _ => ?_)
theorem cachepotbook_SameReads.mono : ∀ a0 a1 k, LeO (cachepotbook_SameReads.f k a0 a1) (cachepotbook_SameReads.f (k + 1) a0 a1) := by
  intro a0 a1 k
  have ih0 := cachepotbook_SameReads.mono_l k
  unfold cachepotbook_SameReads.f
  repeat' first
      | (with_reducible exact ih0 _ _ _)
      | (with_reducible exact LeO.refl _)
      | (with_reducible exact LeO.none _)
      | (with_reducible refine LeO.ite ?_ ?_)
      | (with_reducible refine LeO.bind ?_ (fun _ => ?_))
      | exact ih0 _ _ _
      | exact LeO.none _
      | refine LeO.ite ?_ ?_
      | refine LeO.bind ?_ (fun _ => ?_)
set_option maxHeartbeats 8000000 in
set_option maxRecDepth 100000 in
theorem cachepotbook_SameReads.calls (k : Nat) (A0 : Option Addr) (c0 : Nat) (l0 : List (S99)) (A1 : Option Addr) (c1 : Nat) (l1 : List (S99)) (r : Bool) (w : World) (hr0 : Kd.C k99 w A0 l0.length l0) (hc0 : l0.length ≤ c0) (hr1 : Kd.C k99 w A1 l1.length l1) (hc1 : l1.length ≤ c1) (h : cachepotbook_SameReads.f k l0 l1 = some r) :
    Calls Tryd.prog 62 #[.slice A0 l0.length c0, .slice A1 l1.length c1] w fun e w' => e = .returned (.bool r) ∧ Drawn0 w w' := by
  have hu99 := Tryd.underlying99
  have HR0 := Aside0.mk hr0
  have HC0 := Aside0.mk hc0
  clear hr0 hc0
  have HR1 := Aside0.mk hr1
  have HC1 := Aside0.mk hc1
  clear hr1 hc1
  have H : (if (l0.length : Int) = (l1.length : Int) then (cachepotbook_SameReads.l0 k l0 l1 0) else (some false)) = some r := h
  clear h
  by_cases c3 : (l0.length : Int) = (l1.length : Int)
  · rw [if_pos c3] at H
    have c3b0 : ((l0.length : Int) == (l1.length : Int)) = true := beq_iff_eq.mpr c3
    have c3b1 : ((l0.length : Int) != (l1.length : Int)) = false := bne_eq_false_iff_eq.mpr c3
    have c3b2 : (l0.length == l1.length) = true := by first | simpa using c3 | (simp at c3 ⊢; omega)
    clear c3
    have H' := Aside0.mk H
    clear H
    go_enter Tryd.func62, Tryd.ntmps62
    go_wp2
    repeat (go_quiet (fail); try go_wp2)
    go_loopg [5] k (fun kq v5 w' => ∃ (x5_1 : Int), v5 = .int .i64 x5_1 ∧ Aside0 (cachepotbook_SameReads.l0 kq l0 l1 x5_1 = some r) ∧ Aside0 (kq ≤ k) ∧ Drawn0 w w')
    case atStart => exact ⟨(0), (by first | rfl | (simp; done) | (simp [*]; done)), H', ⟨Nat.le_refl _⟩, by repeat (first | exact Drawn0.refl _ | apply Drawn0.step)⟩
    case round =>
      clear H'
      try clear c1
      try clear p2
      try clear c3
      try clear c3b0
      try clear c3b1
      try clear c3b2
      obtain ⟨x5_1, rfl, HA, HK1, ⟨m1, rfl⟩⟩ := hrel
      cases gk with
      | zero => exact absurd HA.out (by simp [cachepotbook_SameReads.l0])
      | succ k1 =>
        have H := HA.out
        clear HA
        simp only [cachepotbook_SameReads.l0] at H
        by_cases c4 : x5_1 < (l0.length : Int)
        · rw [if_pos c4] at H
          have c4b0 : decide (x5_1 < (l0.length : Int)) = true := decide_eq_true c4
          clear c4
          by_cases c5 : 0 ≤ x5_1
          · rw [if_pos c5] at H
            have c5b0 : decide (0 ≤ x5_1) = true := decide_eq_true c5
            clear c5
            by_cases c6 : x5_1 < (l1.length : Int)
            · rw [if_pos c6] at H
              have c6b0 : decide (x5_1 < (l1.length : Int)) = true := decide_eq_true c6
              clear c6
              by_cases c7 : (!((((rd_T99 l0 x5_1).f0).toList) == (((rd_T99 l1 x5_1).f0).toList)) || (!(((rd_T99 l0 x5_1).f1) == ((rd_T99 l1 x5_1).f1)) || (!(((rd_T99 l0 x5_1).f2) == ((rd_T99 l1 x5_1).f2))))) = true
              · rw [if_pos c7] at H
                have c7b0 : (!((((rd_T99 l0 x5_1).f0).toList) == (((rd_T99 l1 x5_1).f0).toList)) || (!(((rd_T99 l0 x5_1).f1) == ((rd_T99 l1 x5_1).f1)) || (!(((rd_T99 l0 x5_1).f2) == ((rd_T99 l1 x5_1).f2))))) = true := c7
                clear c7
                obtain rfl := Option.some.inj H
                have p300 : 0 ≤ (x5_1 : Int) := of_decide_eq_true (by first | (with_reducible assumption) | assumption)
                have q300 : x5_1 < (l0.length : Int) := of_decide_eq_true (by first | (with_reducible assumption) | assumption)
                obtain ⟨ad300, e300, hx300_0, hx300_1, hx300_2⟩ := at_T99 HR0.out x5_1 p300 q300
                cases e300
                replace p300 := eq_true p300
                replace q300 := eq_true q300
                have p301 : 0 ≤ (x5_1 : Int) := of_decide_eq_true (by first | (with_reducible assumption) | assumption)
                have q301 : x5_1 < (l1.length : Int) := of_decide_eq_true (by first | (with_reducible assumption) | assumption)
                obtain ⟨ad301, e301, hx301_0, hx301_1, hx301_2⟩ := at_T99 HR1.out x5_1 p301 q301
                cases e301
                replace p301 := eq_true p301
                replace q301 := eq_true q301
                go_wp2
                repeat (go_quiet (fail); try go_wp2)
                go_ret
                exact ⟨by first | rfl | (simp; done) | (simp [*]; done), by repeat (first | exact Drawn0.refl _ | apply Drawn0.step)⟩
              · rw [if_neg c7] at H
                have c7b0 : (!((((rd_T99 l0 x5_1).f0).toList) == (((rd_T99 l1 x5_1).f0).toList)) || (!(((rd_T99 l0 x5_1).f1) == ((rd_T99 l1 x5_1).f1)) || (!(((rd_T99 l0 x5_1).f2) == ((rd_T99 l1 x5_1).f2))))) = false := by simpa using c7
                clear c7
                have H' := Aside0.mk H
                clear H
                have p300 : 0 ≤ (x5_1 : Int) := of_decide_eq_true (by first | (with_reducible assumption) | assumption)
                have q300 : x5_1 < (l0.length : Int) := of_decide_eq_true (by first | (with_reducible assumption) | assumption)
                obtain ⟨ad300, e300, hx300_0, hx300_1, hx300_2⟩ := at_T99 HR0.out x5_1 p300 q300
                cases e300
                replace p300 := eq_true p300
                replace q300 := eq_true q300
                have p301 : 0 ≤ (x5_1 : Int) := of_decide_eq_true (by first | (with_reducible assumption) | assumption)
                have q301 : x5_1 < (l1.length : Int) := of_decide_eq_true (by first | (with_reducible assumption) | assumption)
                obtain ⟨ad301, e301, hx301_0, hx301_1, hx301_2⟩ := at_T99 HR1.out x5_1 p301 q301
                cases e301
                replace p301 := eq_true p301
                replace q301 := eq_true q301
                go_wp2
                repeat (go_quiet (fail); try go_wp2)
                go_roundg k1
                case measure => have := HK1.out; omega
                case rel => exact ⟨(wrap64 (x5_1 + 1)), (by first | rfl | (simp; done) | (simp [*]; done)), H', ⟨by have := HK1.out; omega⟩, by repeat (first | exact Drawn0.refl _ | apply Drawn0.step)⟩
            · rw [if_neg c6] at H
              exact absurd H (by simp)
          · rw [if_neg c5] at H
            exact absurd H (by simp)
        · rw [if_neg c4] at H
          have c4b0 : decide (x5_1 < (l0.length : Int)) = false := decide_eq_false c4
          clear c4
          obtain rfl := Option.some.inj H
          go_wp2
          repeat (go_quiet (fail); try go_wp2)
          go_ret
          exact ⟨by first | rfl | (simp; done) | (simp [*]; done), by repeat (first | exact Drawn0.refl _ | apply Drawn0.step)⟩
  · rw [if_neg c3] at H
    have c3b0 : ((l0.length : Int) == (l1.length : Int)) = false := beq_eq_false_iff_ne.mpr c3
    have c3b1 : ((l0.length : Int) != (l1.length : Int)) = true := bne_iff_ne.mpr c3
    have c3b2 : (l0.length == l1.length) = false := by first | simpa using c3 | (simp at c3 ⊢; omega)
    obtain rfl := Option.some.inj H
    go_enter Tryd.func62, Tryd.ntmps62
    go_wp2
    repeat (go_quiet (fail); try go_wp2)
    go_ret
    exact ⟨by first | rfl | (simp; done) | (simp [*]; done), by repeat (first | exact Drawn0.refl _ | apply Drawn0.step)⟩
end

end Go.Proofs.YtmionoghpjpbaaaDoor.Pr
