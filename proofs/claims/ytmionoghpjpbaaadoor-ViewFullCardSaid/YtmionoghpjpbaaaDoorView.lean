/-
  cachepot/view: Clone at api.Read; a view in memory; stage, Put, Del, Look, Staged, Note, Reads.
-/
import Derived.Test.YtmionoghpjpbaaaDoorIdx
import Derived.Deep.RegionLaw
namespace Go.Proofs.YtmionoghpjpbaaaDoor
open Go.RowKit Go.Proofs.YtmionoghpjpbaaaDoorW.PrintWords Go.Proofs.YtmionoghpjpbaaaDoorW.PrintLast Go.Proofs.YtmionoghpjpbaaaDoorW.PrintMore
open Go.Proofs.YtmionoghpjpbaaaDoorM
set_option linter.unusedVariables false
set_option linter.unusedSimpArgs false
attribute [local go_sem ↓] Go.wp_at_zero Go.wp_at_succ

theorem infoOfRead : (Tryd.prog.info? 99).map (fun i => (i.zero, i.size, i.bytes)) = some (some (.agg #[.string ⟨#[]⟩, .int .u32 0, .int .u32 0]), 3, 24) := by kernel_rfl
theorem kRd_any {w w' : World} {x : Rd} {cs : List Value} (h : kRd.K w x cs) : kRd.K w' x cs := by rw [Pr.k99_open h]; exact Pr.k99_mk w' x

theorem blkW {w W : World} {B : Nat} {o : Obj} (h : w.heap[B]? = some o) (hb : Below w.heap.size w W) : W.heap[B]? = some o := (hb.block B (Array.getElem?_eq_some_iff.1 h).1).trans h
theorem box3 {W : World} {B : Nat} {a b c : Value} {t : TypeId} (h : W.heap[B]? = some (.cells #[a, b, c] t (0, 0))) : W.cell? ⟨B, 0, none⟩ = some a ∧ W.cell? ⟨B, 1, none⟩ = some b ∧ W.cell? ⟨B, 2, none⟩ = some c := by
  refine ⟨?_, ?_, ?_⟩ <;> simp [World.cell?, h]
theorem R_empty {α : Type} (d : Kd α) (w : World) (e : Nat) : d.R e (w.alloc (.cells #[] e)) w.heap.size (fun _ => True) (.slice (some ⟨w.heap.size, 0, none⟩) 0 0) [] :=
  ⟨fun _ _ => trivial, [], ⟨by simp, .inr ⟨w.heap.size, 0, #[], rfl, Nat.le_refl _, heap_alloc_new _ _, Nat.le_refl _, Nat.zero_le _, by simp, by simp⟩⟩, ⟨by simp, by simp⟩⟩
set_option maxHeartbeats 2000000 in
set_option maxRecDepth 100000 in
theorem cloneR_any (A : Option Addr) (c : Nat) (l : List Rd) (w : World) (hC : Kd.C kRd w A l.length l) (hl : l.length ≤ 1000000) :
    Calls Tryd.prog 98 #[.slice A l.length c] w fun e w' => ∃ v, e = .returned v ∧ Kd.R kRd 99 w' w.heap.size (fun _ => True) v l ∧ Below w.heap.size w w' := by
  have q97 : ∀ (w : World) (a : Option Addr) (n c n' c' : Nat), (binOp .eql 97 (.slice a n c) (.slice none n' c')).run Tryd.prog w = .ok (.bool a.isNone) w := fun w a n c n' c' => Lib.run_eql_slice_nil w _ _ a n c n' c' Tryd.underlying97
  have HC := Aside0.mk hC
  have HL := Aside0.mk hl
  clear hC hl
  cases A with
  | none =>
    have h0 : l = [] := by
      cases l with
      | nil => rfl
      | cons x l =>
        obtain ⟨ad, h, _⟩ := HC.out.2.2 (by simp)
        cases h
    subst h0
    go_enter Tryd.func98, Tryd.ntmps98
    go_wp2
    go_ret
    exact ⟨_, rfl, Kd.R_nil _ _ _ _ _, Below.refl _ _⟩
  | some ad =>
    go_enter Tryd.func98, Tryd.ntmps98
    go_wp2_with (at_builtin; refine Kd.R_append_rows kRd (w0 := w) w.heap.size rfl (.tmp 5) (.tmp 6) 97 99 (.agg #[.string ⟨#[]⟩, .int .u32 0, .int .u32 0]) 24 rfl Tryd.underlying97 infoOfRead rfl (by decide) (by decide) (.slice (some ⟨w.heap.size, 0, none⟩) 0 0) [] l (some ad) l.length c (fun _ => True) (fun _ => False) rfl rfl (R_empty kRd w _) (Kd.C_alloc HC.out _) (fun z cs h => by rw [Pr.k99_open h]; exact Pr.k99_mkM _ _ _ z) (fun _ h => h.elim) (fun _ _ => trivial) (below_alloc (Below.refl _ _) _) (by simp) (by have := HL.out; simp; omega) ?_; intro va w1 ho1 hb1 hg1 hat1; have HO := Aside0.mk ho1; have HB := Aside0.mk hb1; clear ho1 hb1 hg1 hat1)
    go_ret
    exact ⟨_, rfl, HO.out, HB.out⟩

/-! ### a view in memory -/
/-- What a view has: its own cells, the staged row (block b1), the reads' row. -/
def ViewIs (w : World) (g base : Nat) (b1 : Option Nat) (V : List Write) (R : List Rd) : Prop :=
  ∃ v1 v2, w.heap[g]? = some (.cells #[v1, v2] 147 (0, 0)) ∧ v1.ownBlock = b1 ∧ Kd.R kWrite 44 w base (fun _ => True) v1 V ∧ Kd.R kRd 99 w base (fun _ => True) v2 R
/-- What a call on a view leaves alone. -/
structure Kept (w w' : World) (g : Nat) (b : Option Nat) : Prop where
  os : w'.os = w.os
  tape : w'.tape = w.tape
  output : w'.output = w.output
  size : w.heap.size ≤ w'.heap.size
  block : ∀ k, k < w.heap.size → k ≠ g → some k ≠ b → w'.heap[k]? = w.heap[k]?
theorem Kept.of_below {w w' : World} {g : Nat} {b : Option Nat} (h : Below w.heap.size w w') : Kept w w' g b := ⟨h.os, h.tape, h.output, h.size, fun k hk _ _ => h.block k hk⟩
theorem Kept.then_below {w w1 w2 : World} {g : Nat} {b : Option Nat} (h : Kept w w1 g b) (hb : Below w1.heap.size w1 w2) : Kept w w2 g b :=
  ⟨hb.os.trans h.os, hb.tape.trans h.tape, hb.output.trans h.output, Nat.le_trans h.size hb.size, fun k hk h1 h2 => (hb.block k (Nat.lt_of_lt_of_le hk h.size)).trans (h.block k hk h1 h2)⟩
theorem Kept.below_then {w w1 w2 : World} {g : Nat} {b : Option Nat} (hb : Below w.heap.size w w1) (h : Kept w1 w2 g b) : Kept w w2 g b :=
  ⟨h.os.trans hb.os, h.tape.trans hb.tape, h.output.trans hb.output, Nat.le_trans hb.size h.size, fun k hk h1 h2 => (h.block k (Nat.lt_of_lt_of_le hk hb.size) h1 h2).trans (hb.block k hk)⟩
theorem Kept.below {w0 w w' : World} {n g : Nat} {b : Option Nat} (h0 : Below n w0 w) (h : Kept w w' g b) (hn : n ≤ w.heap.size) (hg : n ≤ g) (hb : ∀ k, b = some k → n ≤ k) : Below n w0 w' :=
  ⟨h.os.trans h0.os, h.tape.trans h0.tape, h.output.trans h0.output, Nat.le_trans h0.size h.size, fun k hk => (h.block k (by omega) (by omega) (fun e => by have := hb k e.symm; omega)).trans (h0.block k hk)⟩
theorem ViewIs.lt {w : World} {g base : Nat} {b1 : Option Nat} {V : List Write} {R : List Rd} (h : ViewIs w g base b1 V R) : g < w.heap.size := by
  obtain ⟨v1, v2, h1, _⟩ := h
  exact (Array.getElem?_eq_some_iff.1 h1).1
theorem ViewIs.below {w w' : World} {g base : Nat} {b1 : Option Nat} {V : List Write} {R : List Rd} (h : ViewIs w g base b1 V R) (hb : Below w.heap.size w w') : ViewIs w' g base b1 V R := by
  have hl := h.lt
  obtain ⟨v1, v2, h1, h2, h3, h4⟩ := h
  exact ⟨v1, v2, (hb.block g hl).trans h1, h2, Kd.R_below h3 hb, Kd.R_below h4 hb⟩
theorem ViewIs.base_le {w : World} {g base : Nat} {b1 : Option Nat} {V : List Write} {R : List Rd} (h : ViewIs w g base b1 V R) : ∀ k, b1 = some k → base ≤ k := by
  obtain ⟨v1, v2, h1, h2, h3, h4⟩ := h
  intro k hk
  exact Kd.R_base h3 k (by rw [h2, hk])

theorem idxOf_some {α : Type} {p : α → Bool} {l : List α} (h : 0 ≤ idxOf p l) : ∃ i, i < l.length ∧ idxOf p l = (i : Int) := by
  unfold idxOf at h ⊢
  cases hf : l.findIdx? p with
  | none => rw [hf] at h; exact absurd h (by decide)
  | some i => exact ⟨i, (List.findIdx?_eq_some_iff_getElem.1 hf).1, rfl⟩
def zRd : Rd := ⟨⟨#[]⟩, 0, 0⟩
/-- What stage answers, and leaves. -/
def keyI (V : List Write) (k : ByteArray) : Int := idxOf (fun y : Write => decide (y.f0 = k)) V
def stageC (V : List Write) (x : Write) : Int := if keyR x.f0 = false then 10 else if 48 < x.f2.size then 11 else if 0 ≤ keyI V x.f0 then 0 else if 8 ≤ V.length then 12 else 0
def stageL (V : List Write) (x : Write) : List Write := if keyR x.f0 = false then V else if 48 < x.f2.size then V else if 0 ≤ keyI V x.f0 then V.set (keyI V x.f0).toNat x else if 8 ≤ V.length then V else V ++ [x]

set_option maxHeartbeats 1000000 in
set_option maxRecDepth 100000 in
theorem stage_nil (v : Value) (hv : ∃ a b c, v = .agg #[.string a, .bool b, .string c]) (w : World) : Calls Tryd.prog 94 #[.pointer none, v] w fun e w' => e = .returned (.int .i64 1) ∧ Below w.heap.size w w' := by
  obtain ⟨a, b, c, rfl⟩ := hv
  go_enter Tryd.func94, Tryd.ntmps94
  go_wp2
  go_ret
  exact ⟨rfl, below_alloc (Below.refl _ _) _⟩

/-- A whole element written into a row. -/
theorem R_setW {w : World} {base g n cap : Nat} {xs : List Write} (h : Kd.R kWrite 44 w base (fun _ => True) (.slice (some ⟨g, 0, none⟩) n cap) xs) (i : Nat) (hi : i < n) (x : Write) :
    Kd.R kWrite 44 (((w.setCell ⟨g, i * 3, none⟩ (.string x.f0)).setCell ⟨g, i * 3 + 1, none⟩ (.bool x.f1)).setCell ⟨g, i * 3 + 2, none⟩ (.string x.f2)) base (fun _ => True) (.slice (some ⟨g, 0, none⟩) n cap) (xs.set i x) ∧
    w.grownBy (((w.setCell ⟨g, i * 3, none⟩ (.string x.f0)).setCell ⟨g, i * 3 + 1, none⟩ (.bool x.f1)).setCell ⟨g, i * 3 + 2, none⟩ (.string x.f2)) (some g) := by
  obtain ⟨cs, hc, hM, hcc, _⟩ := Kd.R_elem h zWrite (i : Int) (by omega) (by omega)
  have := Kd.R_seg (okp := fun _ => False) h (i : Int) (by omega) (by omega) hc hcc (j := 0) (seg := [.string x.f0, .bool x.f1, .string x.f2]) (x' := x) (by show 0 + 3 ≤ 3; omega) (by
    have e : cs.drop (0 + [Value.string x.f0, .bool x.f1, .string x.f2].length) = [] := List.drop_of_length_le (by rw [hc]; exact Nat.le_refl 3)
    rw [e]
    simpa using kWrite_mkM _ _ _ x) (fun _ h => h.elim)
  exact this

set_option maxHeartbeats 4000000 in
set_option maxRecDepth 100000 in
theorem stage_any (w : World) (g base : Nat) (b1 : Option Nat) (V : List Write) (R : List Rd) (x : Write) (hT : Lib.Utf8Tabs 2 3 w) (hbase : base ≤ w.heap.size) (h : ViewIs w g base b1 V R) (hV : V.length ≤ 100) (hx : x.f0.size ≤ 1000000000) :
    Calls Tryd.prog 94 #[.pointer (some ⟨g, 0, none⟩), .agg #[.string x.f0, .bool x.f1, .string x.f2]] w fun e w' =>
      ∃ b2, e = .returned (.int .i64 (stageC V x)) ∧ ViewIs w' g base b2 (stageL V x) R ∧ (b2 = b1 ∨ ∃ k, b2 = some k ∧ w.heap.size ≤ k) ∧ Kept w w' g b1 := by
  have H := Aside0.mk h
  have HT := Aside0.mk hT
  have HN : Aside0 (V.length ≤ 100 ∧ x.f0.size ≤ 1000000000 ∧ base ≤ w.heap.size ∧ g < w.heap.size) := ⟨hV, hx, hbase, h.lt⟩
  have HB1 : Aside0 (Below w.heap.size w (w.alloc (.cells #[.string x.f0, .bool x.f1, .string x.f2] 44))) := ⟨below_alloc (Below.refl _ _) _⟩
  clear h hT hV hx hbase
  go_enter Tryd.func94, Tryd.ntmps94
  go_wp2_with fail
  refine (keysRight_any x.f0 HN.out.2.1 _ (Utf8Tabs_below HT.out HB1.out)).mono ?_
  rintro e w2 ⟨rfl, hb⟩
  have HX2 := Aside0.mk (blkW (heap_alloc_new _ _) hb)
  have HB2 : Aside0 (Below w.heap.size w w2) := ⟨below_then HB1.out HB1.out.size hb⟩
  clear hb HB1
  obtain ⟨c0, c1, c2⟩ := box3 HX2.out
  have hlw : w.heap.size < w2.heap.size := (Array.getElem?_eq_some_iff.1 HX2.out).1
  cases hk : keyR x.f0
  · have HC : Aside0 (stageC V x = 10 ∧ stageL V x = V) := ⟨by unfold stageC stageL; simp [hk]⟩
    clear hk
    go_wp2
    go_ret
    rw [HC.out.1, HC.out.2]
    exact ⟨b1, rfl, H.out.below HB2.out, .inl rfl, Kept.of_below HB2.out⟩
  · by_cases hv : 48 < x.f2.size
    · have HC : Aside0 (stageC V x = 11 ∧ stageL V x = V) := ⟨by unfold stageC stageL; simp [hk, hv]⟩
      have hv' : (x.f2.size : Int) > 48 := by omega
      clear hk hv
      go_wp2
      go_ret
      rw [HC.out.1, HC.out.2]
      exact ⟨b1, rfl, H.out.below HB2.out, .inl rfl, Kept.of_below HB2.out⟩
    · have HC : Aside0 (stageC V x = (if 0 ≤ keyI V x.f0 then 0 else if 8 ≤ V.length then 12 else 0) ∧ stageL V x = if 0 ≤ keyI V x.f0 then V.set (keyI V x.f0).toNat x else if 8 ≤ V.length then V else V ++ [x]) := ⟨by unfold stageC stageL; simp [hk, hv]⟩
      have hv' : ¬ (x.f2.size : Int) > 48 := by omega
      clear hk hv
      obtain ⟨v1, v2, hg, hb1, hR1, hR2⟩ := H.out.below HB2.out
      obtain ⟨A1, n1, rfl⟩ : ∃ A1 n1, v1 = .slice A1 V.length n1 := Kd.R_slice hR1
      obtain ⟨_, hc1, hC1⟩ := Kd.R_reads' hR1
      have HG := Aside0.mk hg
      have HR := Aside0.mk (And.intro hb1 (And.intro hR1 hR2))
      have HC1 := Aside0.mk (And.intro hC1 hc1)
      clear hb1 hR1 hR2 hC1 hc1
      have hcell : w2.cell? ⟨g, 0, none⟩ = some (.slice A1 V.length n1) := by simp [World.cell?, hg]
      clear hg
      go_wp2_with fail
      refine (indexW_any A1 n1 V (fun y => y.f0.toList == x.f0.toList) 116 #[.pointer (some ⟨w.heap.size, 0, none⟩)] w2 HC1.out.1 (by have := HN.out; omega) ?hp ?eg).mono ?_
      case hp => exact fun W y hb => stageFn_any x.f0 w.heap.size y W (pw_cell_below hb c0)
      case eg => exact enters_of Tryd.func116 (by kernel_rfl) rfl
      rintro e w3 ⟨rfl, hb⟩
      rw [keyP]
      obtain ⟨ki, hki⟩ : ∃ ki, Aside0 (keyI V x.f0 = ki) := ⟨_, ⟨rfl⟩⟩
      rw [show idxOf (fun y : Write => decide (y.f0 = x.f0)) V = ki from hki.out]
      rw [hki.out] at HC
      have HB3 : Aside0 (Below w.heap.size w w3) := ⟨below_then HB2.out HB2.out.size hb⟩
      have HG3 := Aside0.mk (blkW HG.out hb)
      have HX3 := Aside0.mk (blkW HX2.out hb)
      have HR3 := Aside0.mk (And.intro HR.out.1 (And.intro (Kd.R_below HR.out.2.1 hb) (Kd.R_below HR.out.2.2 hb)))
      have hlw3 : w.heap.size < w3.heap.size := (Array.getElem?_eq_some_iff.1 HX3.out).1
      have hgl3 : g < w3.heap.size := (Array.getElem?_eq_some_iff.1 HG3.out).1
      clear hb c0 c1 c2 hcell HC1 hlw HG HX2 HR
      obtain ⟨c0, c1, c2⟩ := box3 HX3.out
      have hcell : w3.cell? ⟨g, 0, none⟩ = some (.slice A1 V.length n1) := by have := HG3.out; simp [World.cell?, this]
      have hfr : w3.frozen? ⟨g, 0, none⟩ = false := by have := HG3.out; simp [World.frozen?, this]
      by_cases h0 : 0 ≤ ki
      · obtain ⟨i, hi, rfl⟩ : ∃ i : Nat, i < V.length ∧ ki = (i : Int) := by
          obtain ⟨i, h1, h2⟩ := idxOf_some (p := fun y : Write => decide (y.f0 = x.f0)) (l := V) (by rw [show idxOf (fun y : Write => decide (y.f0 = x.f0)) V = ki from hki.out]; exact h0)
          exact ⟨i, h1, by rw [← hki.out]; exact h2⟩
        rw [if_pos h0, if_pos h0, Int.toNat_natCast] at HC
        have hi' : (i : Int) < (V.length : Int) := by omega
        obtain ⟨B1, cap, e1, _⟩ := Kd.R_form HR3.out.2.1 (by omega)
        injection e1 with e1 _ e3
        subst e1
        subst e3
        have HTY := Aside0.mk (Kd.R_typed HR3.out.2.1 B1 rfl)
        have hb1 : b1 = some B1 := HR3.out.1.symm
        obtain ⟨cs, hcs⟩ := HTY.out
        have hne : g ≠ B1 := fun e => by
          have h1 := HG3.out
          rw [e, hcs] at h1
          injection h1 with h1
          injection h1 with _ h1
          exact absurd h1 (by decide)
        obtain ⟨ds, hdl, hM, hcc, _⟩ := Kd.R_elem HR3.out.2.1 zWrite (i : Int) (by omega) (by omega)
        have e1 := kWrite_openM hM
        subst e1
        have d0 : w3.drew.cell? ⟨B1, i * 3, none⟩ = some _ := hcc 0 _ rfl
        have d1 : w3.drew.cell? ⟨B1, i * 3 + 1, none⟩ = some _ := hcc 1 _ rfl
        have d2 : w3.drew.cell? ⟨B1, i * 3 + 2, none⟩ = some _ := hcc 2 _ rfl
        have f0 : w3.drew.frozen? ⟨B1, i * 3, none⟩ = false := blk_frozen hcs _
        have f1 : w3.drew.frozen? ⟨B1, i * 3 + 1, none⟩ = false := blk_frozen hcs _
        have f2 : w3.drew.frozen? ⟨B1, i * 3 + 2, none⟩ = false := blk_frozen hcs _
        have d0' : w3.cell? ⟨B1, i * 3, none⟩ = some _ := hcc 0 _ rfl
        have d1' : w3.cell? ⟨B1, i * 3 + 1, none⟩ = some _ := hcc 1 _ rfl
        have d2' : w3.cell? ⟨B1, i * 3 + 2, none⟩ = some _ := hcc 2 _ rfl
        have f0' : w3.frozen? ⟨B1, i * 3, none⟩ = false := blk_frozen hcs _
        have f1' : w3.frozen? ⟨B1, i * 3 + 1, none⟩ = false := blk_frozen hcs _
        have f2' : w3.frozen? ⟨B1, i * 3 + 2, none⟩ = false := blk_frozen hcs _
        have c0' : w3.drew.cell? ⟨w.heap.size, 0, none⟩ = some (.string x.f0) := c0
        have c1' : w3.drew.cell? ⟨w.heap.size, 1, none⟩ = some (.bool x.f1) := c1
        have c2' : w3.drew.cell? ⟨w.heap.size, 2, none⟩ = some (.string x.f2) := c2
        have hcell' : w3.drew.cell? ⟨g, 0, none⟩ = some (.slice (some ⟨B1, 0, none⟩) V.length n1) := hcell
        obtain ⟨hRs, hgr⟩ := R_setW (w := w3.drew) (Kd.R_drew HR3.out.2.1) i hi x
        have hR2 := Kd.R_over' (Kd.R_drew HR3.out.2.2) (Kd.R_typed (Kd.R_drew HR3.out.2.1)) (by decide) hgr
        have HF : Aside0 (ViewIs _ g base (some B1) (V.set i x) R ∧ Kept w _ g b1) := ⟨⟨_, v2, (hgr.block g hgl3 (fun e => by injection e with e; exact hne e)).trans HG3.out, rfl, hRs, hR2⟩,
          Kept.below_then (below_drew HB3.out) ⟨hgr.os, hgr.tape, hgr.output, hgr.size, fun k hk _ h2 => hgr.block k hk (by rw [← hb1]; exact h2)⟩⟩
        clear hRs hgr hR2 hcc hM hdl
        go_wp2_with fail
        go_region
        go_wp2
        go_ret
        rw [HC.out.1, HC.out.2]
        exact ⟨some B1, rfl, HF.out.1, .inl hb1.symm, HF.out.2⟩
      · rw [if_neg h0, if_neg h0] at HC
        by_cases h8 : 8 ≤ V.length
        · rw [if_pos h8, if_pos h8] at HC
          have h8' : (V.length : Int) ≥ 8 := by omega
          go_wp2
          go_ret
          rw [HC.out.1, HC.out.2]
          exact ⟨b1, rfl, H.out.below HB3.out, .inl rfl, Kept.of_below HB3.out⟩
        · rw [if_neg h8, if_neg h8] at HC
          have h8' : ¬ (V.length : Int) ≥ 8 := by omega
          have HNE : Aside0 (some g ≠ (Value.slice A1 V.length n1).ownBlock) := ⟨fun e => by
            obtain ⟨cs, hcs⟩ := Kd.R_typed HR3.out.2.1 g e.symm
            rw [HG3.out] at hcs
            injection hcs with h1
            injection h1 with _ h1
            exact absurd h1 (by decide)⟩
          obtain ⟨V2, hV2⟩ : ∃ V2, Aside0 (V ++ [x] = V2) := ⟨_, ⟨rfl⟩⟩
          have hbw : base ≤ w3.heap.size := by have := HN.out; have := HB3.out.size; omega
          have c0' : w3.drew.cell? ⟨w.heap.size, 0, none⟩ = some (.string x.f0) := c0
          have c1' : w3.drew.cell? ⟨w.heap.size, 1, none⟩ = some (.bool x.f1) := c1
          have c2' : w3.drew.cell? ⟨w.heap.size, 2, none⟩ = some (.string x.f2) := c2
          have hcell' : w3.drew.cell? ⟨g, 0, none⟩ = some (.slice A1 V.length n1) := hcell
          have HNB : Aside0 (some w.heap.size ≠ (Value.slice A1 V.length n1).ownBlock) := ⟨fun e => by
            obtain ⟨u1, u2, hu, hu1, hu2, _⟩ := H.out
            have := Kd.R_lt hu2 w.heap.size (by rw [hu1, ← HR3.out.1, ← e])
            omega⟩
          have hka : ∀ o, (w3.drew.alloc o).cell? ⟨w.heap.size, 0, none⟩ = some (.string x.f0) ∧ (w3.drew.alloc o).cell? ⟨w.heap.size, 1, none⟩ = some (.bool x.f1) ∧ (w3.drew.alloc o).cell? ⟨w.heap.size, 2, none⟩ = some (.string x.f2) ∧ (w3.drew.alloc o).cell? ⟨g, 0, none⟩ = some (.slice A1 V.length n1) := fun o =>
            ⟨pw_cell_below (below_alloc (Below.refl _ _) o) c0', pw_cell_below (below_alloc (Below.refl _ _) o) c1', pw_cell_below (below_alloc (Below.refl _ _) o) c2', pw_cell_below (below_alloc (Below.refl _ _) o) hcell'⟩
          have HR4 := Aside0.mk (And.intro (Kd.R_drew HR3.out.2.1) (Kd.R_drew HR3.out.2.2))
          go_wp2_with fail
          go_region_law (first | (refine Kd.R_append_step kWrite (w0 := w3.drew) base (by rfl) (.tmp 28) (.tmp 30) 32 44 (.agg #[.string ⟨#[]⟩, .bool false, .string ⟨#[]⟩]) 40 (by rfl) Tryd.underlying32 infoOfWrite rfl (by decide) (by decide) (.slice A1 V.length n1) V x [.string x.f0, .bool x.f1, .string x.f2] (fun _ => True) (fun _ => False) (by rfl) (by rfl) (kWrite_mkM _ _ _ x) (fun _ h => h.elim) (fun _ _ => trivial) HR4.out.1 (Below.refl _ _) hbw (by have := HN.out; omega) ?_; intro va w5 ho5 hb5 hg5 hat5; rw [hV2.out] at ho5; obtain ⟨A9, n9, rfl⟩ := Kd.R_slice ho5; have hblk := (hg5.block g hgl3 HNE.out).trans HG3.out; have hcell5 : w5.cell? ⟨g, 0, none⟩ = some (.slice A1 V.length n1) := (by simp [World.cell?, hblk]); have hfr5 : w5.frozen? ⟨g, 0, none⟩ = false := blk_frozen hblk _))
          all_goals go_wp2
          all_goals
            go_ret
            rw [HC.out.1, HC.out.2, hV2.out]
            have hR5 := Kd.R_over' HR4.out.2 (Kd.R_typed HR4.out.1) (by decide) hg5
            exact ⟨A9.map (·.block), rfl, ⟨.slice A9 V2.length n9, v2, blk_set hblk 0 _, by cases A9 <;> rfl, Kd.R_set ho5 hblk (by decide) 0 _, Kd.R_set hR5 hblk (by decide) 0 _⟩, by
              rcases hat5 with h | ⟨k, h1, h2⟩
              · exact .inl (by rw [← HR3.out.1, ← h]; cases A9 <;> rfl)
              · exact .inr ⟨k, by rw [← h1]; cases A9 <;> rfl, Nat.le_trans HB3.out.size h2⟩, Kept.below_then (below_drew HB3.out) ⟨hg5.os, hg5.tape, hg5.output, by have := hg5.size; simpa using this, fun k hk h1 h2 => (Below.heap_setCell _ _ _ _ h1).trans (hg5.block k hk (by rw [HR3.out.1]; exact h2))⟩⟩
end Go.Proofs.YtmionoghpjpbaaaDoor
