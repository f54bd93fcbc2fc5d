/-
  The document's shelf (cachepotref2.Shelf): without, Keys, at, Get, Top, Live, Drop.
-/
import Derived.Test.YtmionoghpjpbaaaDoorRefMap
import Derived.Test.YtmionoghpjpbaaaDoorDrops
namespace Go.Proofs.YtmionoghpjpbaaaDoor
open Go.RowKit Go.Proofs.YtmionoghpjpbaaaDoorW.PrintWords Go.Proofs.YtmionoghpjpbaaaDoorW.PrintLast Go.Proofs.YtmionoghpjpbaaaDoorW.PrintMore
open Go.Proofs.YtmionoghpjpbaaaDoorM
set_option linter.unusedVariables false
set_option linter.unusedSimpArgs false
attribute [local go_sem ↓] Go.wp_at_zero Go.wp_at_succ
attribute [local go_sem] max2_int min2_int max_two min_two

theorem infoOfCell : (Tryd.prog.info? 57).map (fun i => (i.zero, i.size, i.bytes)) = some (some (.agg #[.string ⟨#[]⟩, .int .u32 0, .int .u32 0]), 3, 24) := by kernel_rfl
/-- append(v, x). -/
theorem appCell {ops : Array Oper} {rest : List Oper} {o : Oper} {a : Act} {Q : Exit → Act → World → Prop} {w0 W : World} (base : Nat) (hgd : o.guard = none) (s x : Operand) (B : Nat)
    (ho : o.op = .call { callee := .builtin .append, args := #[s, x], argTypes := #[78, 78] }) (v : Value) (xs : List Cell) (p : Cell) (hs : a.eval s = v) (hx : a.eval x = .slice (some ⟨B, 0, none⟩) 1 1) (hB : B = W.heap.size)
    (HO : Kd.R kCell 57 W base (fun _ => True) v xs) (HB : Below base w0 W) (hbase : base ≤ W.heap.size) (hl : xs.length ≤ 1000000000)
    (h : ∀ v1 w1, Kd.R kCell 57 w1 base (fun _ => True) v1 (xs ++ [p]) → Below base w0 w1 → W.grownBy w1 v.ownBlock → (v1.ownBlock = v.ownBlock ∨ ∃ b, v1.ownBlock = some b ∧ W.heap.size ≤ b) → wpList Tryd.prog ops Q rest (a.put o.dst v1) w1) :
    wpList Tryd.prog ops Q (o :: rest) a (W.alloc (.cells #[.string p.f0, .int .u32 p.f1, .int .u32 p.f2] 57)) := by
  subst hB
  exact Kd.R_append kCell base hgd s x 78 57 (.agg #[.string ⟨#[]⟩, .int .u32 0, .int .u32 0]) 24 ho Tryd.underlying78 infoOfCell rfl (by decide) (by omega) v xs p [.string p.f0, .int .u32 p.f1, .int .u32 p.f2] (fun _ => True) (fun _ => False) hs hx (kCell_mkM _ _ _ p) (fun _ hk => hk.elim) (fun _ _ => trivial) HO HB hbase (by omega) h
abbrev keyC : Cell → ByteArray := Pr.S57.f0

/-- A list of cells lies in block g's one cell. -/
def RefSIs (w : World) (g : Nat) (L : List Cell) : Prop :=
  ∃ A c, w.heap[g]? = some (.cells #[.slice A L.length c] 80 (0, 0)) ∧ L.length ≤ c ∧ Kd.C kCell w A L.length L

section
variable {w w' : World} {g b n : Nat} {L : List Cell}
theorem RefSIs.lt (h : RefSIs w g L) : g < w.heap.size := by
  obtain ⟨A, c, h1, _⟩ := h
  exact (Array.getElem?_eq_some_iff.1 h1).1
theorem RefSIs.cells (h : RefSIs w g L) (hg : w'.heap[g]? = w.heap[g]?) (hc : ∀ a v, w.cell? a = some v → w'.cell? a = some v) : RefSIs w' g L := by
  obtain ⟨A, c, h1, h2, h3⟩ := h
  exact ⟨A, c, hg.trans h1, h2, C_cells h3 hc fun _ _ => kCell_any⟩
theorem RefSIs.below (h : RefSIs w g L) (hb : Below w.heap.size w w') : RefSIs w' g L := h.cells (hb.block g h.lt) fun _ _ hc => pw_cell_below hb hc
theorem RefSIs.alloc (h : RefSIs w g L) (o : Obj) : RefSIs (w.alloc o) g L := h.below (below_alloc (Below.refl _ _) o)
theorem RefSIs.drew (h : RefSIs w g L) : RefSIs w.drew g L := h
theorem RefSIs.map {P : Program} {k : TypeId} {α : Type} {E : Elem α} {f : ByteArray → Option α} (h : RefSIs w g L) (hm : MapIs P k E w b n f) (hg : w.grownBy w' (some b)) : RefSIs w' g L := by
  refine h.cells (hg.block g h.lt ?_) fun _ _ hc => MapIs_cell hm hg hc
  intro e
  injection e with e
  subst e
  obtain ⟨A, c, h1, _⟩ := h
  obtain ⟨D, ⟨es, clock, hb, _⟩, _⟩ := hm
  rw [h1] at hb
  cases hb
/-- Elder blocks than B are as they were, but the map's. -/
theorem RefSIs.set {cs : Array Value} {v : Value} {base : Nat} (hb : w.heap[g]? = some (.cells cs 80 (0, 0))) (hcs : cs.size = 1) (hlt : g < base) (hR : Kd.R kCell 57 w base (fun _ => True) v L) :
    RefSIs (w.setCell ⟨g, 0, none⟩ v) g L := by
  have h1 := blk_set hb 0 v
  have h2 := Kd.R_far (p := ⟨g, 0, none⟩) (Kd.R_bound hR) (fun k hk => by have := hk.2.1; simp only; omega) v
  obtain ⟨A, c, rfl, h4, h5⟩ := Kd.R_reads h2
  refine ⟨A, c, ?_, h4, h5⟩
  rw [h1]
  have : cs.setIfInBounds 0 (.slice A L.length c) = #[.slice A L.length c] := by
    apply Array.ext
    · simp [hcs]
    · intro i h1 h2
      simp at h2
      subst h2
      simp
  rw [this]
end

theorem refSNew_is (w : World) : RefSIs (w.alloc (.cells #[.slice none 0 0] 80)) w.heap.size [] :=
  ⟨none, 0, heap_alloc_new _ _, Nat.le_refl _, ⟨rfl, by simp, fun h => absurd h (by simp)⟩⟩

/-- All but the one of a key. -/
def lessC (k : ByteArray) (L : List Cell) : List Cell := L.filter fun c => !decide (c.f0 = k)
theorem lessC_take (k : ByteArray) (L : List Cell) (x : Nat) (h : x < L.length) : lessC k (L.take (x + 1)) = if L[x].f0 = k then lessC k (L.take x) else lessC k (L.take x) ++ [L[x]] := by
  unfold lessC
  rw [List.take_succ_eq_append_getElem h, List.filter_append]
  by_cases e : L[x].f0 = k
  · simp [e]
  · simp [e]
theorem lessC_le (k : ByteArray) (L : List Cell) : (lessC k L).length ≤ L.length := List.length_filter_le _ _

set_option maxHeartbeats 2000000 in
set_option maxRecDepth 100000 in
theorem refSWithout_any (w : World) (g : Nat) (L : List Cell) (k : ByteArray) (h : RefSIs w g L) (hl : L.length ≤ 1000000) :
    Calls Tryd.prog 113 #[.pointer (some ⟨g, 0, none⟩), .string k] w fun e w' => ∃ v, e = .returned v ∧ Kd.R kCell 57 w' w.heap.size (fun _ => True) v (lessC k L) ∧ Below w.heap.size w w' := by
  have hgl := h.lt
  obtain ⟨A, c, hg, hlc, hC⟩ := h
  have hcell0 : w.cell? ⟨g, 0, none⟩ = some (.slice A L.length c) := by simp [World.cell?, hg]
  have HC := Aside0.mk hC
  have HL := Aside0.mk hl
  clear hC hl hg hlc
  go_enter Tryd.func113, Tryd.ntmps113
  go_wp2
  go_loopg [5, 6] L.length (fun kq v5 v6 w' => ∃ (x : Nat), v6 = .int .i64 x ∧ Aside0 (x + kq = L.length) ∧ Aside0 (Kd.R kCell 57 w' w.heap.size (fun _ => True) v5 (lessC k (L.take x))) ∧ Aside0 (Below w.heap.size w w'))
  case atStart => exact ⟨0, rfl, ⟨by simp⟩, ⟨by simpa [lessC] using Kd.R_nil _ _ _ _ _⟩, ⟨Below.refl _ _⟩⟩
  case round =>
    obtain ⟨x, rfl, HK, HO, HB⟩ := hrel
    have hcell := pw_cell_below HB.out hcell0
    have hgr : g < wr.heap.size := Nat.lt_of_lt_of_le hgl HB.out.size
    by_cases q : x < L.length
    · have q' : (x : Int) < (L.length : Int) := by omega
      have p1 : (0 : Int) ≤ (x : Int) := by omega
      obtain ⟨g1, rfl⟩ : ∃ g1, gk = g1 + 1 := ⟨gk - 1, by have := HK.out; omega⟩
      obtain ⟨ad, e, d0, d1, d2⟩ := atCell (Kd.C_below HC.out HB.out) (x : Int) p1 q'
      cases e
      rw [Int.toNat_natCast] at d0 d1 d2
      have HX : Aside0 (rdCell L (x : Int) = L[x]) := ⟨by rw [rdCell_get (by simpa using q)]; simp⟩
      generalize rdCell L (x : Int) = y at *
      have HMl : Aside0 ((lessC k (L.take x)).length ≤ 1000000000) := ⟨by have := lessC_le k (L.take x); rw [List.length_take] at this; have := HL.out; omega⟩
      by_cases hk : y.f0 = k
      · have HN : Aside0 (lessC k (L.take (x + 1)) = lessC k (L.take x)) := ⟨by rw [lessC_take k L x q, if_pos (by rw [← HX.out]; exact hk)]⟩
        have heq : (y.f0.toList == k.toList) = true := by rw [hk]; exact beq_self_eq_true _
        have hne : (y.f0.toList != k.toList) = false := by rw [hk]; simp
        clear hk
        go_wp2
        go_roundg g1
        case measure => omega
        case rel => exact ⟨x + 1, by rw [wsucc x (by have := HL.out; omega)], ⟨by have := HK.out; omega⟩, ⟨by rw [HN.out]; exact HO.out⟩, HB⟩
      · have HN : Aside0 (lessC k (L.take (x + 1)) = lessC k (L.take x) ++ [y]) := ⟨by rw [lessC_take k L x q, if_neg (by rw [← HX.out]; exact hk), HX.out]⟩
        have heq : (y.f0.toList == k.toList) = false := beq_false_of_ne fun h => hk (bytes_ext (by rwa [Lib.toList_data, Lib.toList_data] at h))
        have hne : (y.f0.toList != k.toList) = true := by rw [bne, heq]; rfl
        clear hk
        go_wp2_with (at_builtin; refine appCell (w0 := w) w.heap.size rfl (.tmp 26) (.tmp 34) wr.heap.size rfl u5 (lessC k (L.take x)) y rfl rfl rfl ?aO ?aB ?aS ?aL ?_; (case aO => exact HO.out); (case aB => exact HB.out); (case aS => exact HB.out.size); (case aL => exact HMl.out); intro v1 w3 ho hb hg hat; have HO3 := Aside0.mk ho; have HB3 := Aside0.mk hb; clear ho hb hg hat)
        go_roundg g1
        case measure => omega
        case rel => exact ⟨x + 1, by rw [wsucc x (by have := HL.out; omega)], ⟨by have := HK.out; omega⟩, ⟨by rw [HN.out]; exact HO3.out⟩, HB3⟩
    · have e : L.take x = L := List.take_of_length_le (by omega)
      rw [e] at HO
      clear e
      go_wp2
      go_ret
      exact ⟨_, rfl, HO.out, HB.out⟩

/-! ### Keys -/
set_option maxHeartbeats 2000000 in
set_option maxRecDepth 100000 in
theorem refSKeys_any (w : World) (g : Nat) (L : List Cell) (h : RefSIs w g L) (hl : L.length ≤ 1000000) :
    Calls Tryd.prog 49 #[.pointer (some ⟨g, 0, none⟩)] w fun e w' => ∃ v, e = .returned v ∧ Kd.R Kd.string 9 w' w.heap.size (fun _ => True) v (L.map Pr.S57.f0) ∧ Below w.heap.size w w' := by
  have hgl := h.lt
  obtain ⟨A, c, hg, hlc, hC⟩ := h
  have hcell0 : w.cell? ⟨g, 0, none⟩ = some (.slice A L.length c) := by simp [World.cell?, hg]
  have HC := Aside0.mk hC
  have HL := Aside0.mk hl
  clear hC hl hg hlc
  go_enter Tryd.func49, Tryd.ntmps49
  go_wp2
  go_loopg [3, 4] L.length (fun kq v3 v4 w' => ∃ (x : Nat), v4 = .int .i64 x ∧ Aside0 (x + kq = L.length) ∧ Aside0 (Kd.R Kd.string 9 w' w.heap.size (fun _ => True) v3 ((L.take x).map Pr.S57.f0)) ∧ Aside0 (Below w.heap.size w w'))
  case atStart => exact ⟨0, rfl, ⟨by simp⟩, ⟨by simpa using Kd.R_nil _ _ _ _ _⟩, ⟨Below.refl _ _⟩⟩
  case round =>
    obtain ⟨x, rfl, HK, HO, HB⟩ := hrel
    have hcell := pw_cell_below HB.out hcell0
    have hgr : g < wr.heap.size := Nat.lt_of_lt_of_le hgl HB.out.size
    by_cases q : x < L.length
    · have q' : (x : Int) < (L.length : Int) := by omega
      have p1 : (0 : Int) ≤ (x : Int) := by omega
      obtain ⟨g1, rfl⟩ : ∃ g1, gk = g1 + 1 := ⟨gk - 1, by have := HK.out; omega⟩
      obtain ⟨ad, e, d0, _⟩ := atCell (Kd.C_below HC.out HB.out) (x : Int) p1 q'
      cases e
      rw [Int.toNat_natCast] at d0
      have HX : Aside0 (rdCell L (x : Int) = L[x]) := ⟨by rw [rdCell_get (by simpa using q)]; simp⟩
      generalize rdCell L (x : Int) = y at *
      have HMl : Aside0 (((L.take x).map Pr.S57.f0).length ≤ 1000000000) := ⟨by rw [List.length_map, List.length_take]; have := HL.out; omega⟩
      go_wp2_with (at_builtin; refine appStr (w0 := w) w.heap.size rfl (.tmp 14) (.tmp 23) wr.heap.size rfl u3 ((L.take x).map Pr.S57.f0) y.f0 rfl rfl rfl ?aO ?aB ?aS ?aL ?_; (case aO => exact HO.out); (case aB => exact HB.out); (case aS => exact HB.out.size); (case aL => exact HMl.out); intro v1 w3 ho hb hg hat; have HO3 := Aside0.mk ho; have HB3 := Aside0.mk hb; clear ho hb hg hat)
      go_roundg g1
      case measure => omega
      case rel =>
        refine ⟨x + 1, by rw [wsucc x (by have := HL.out; omega)], ⟨by have := HK.out; omega⟩, ⟨?_⟩, HB3⟩
        rw [List.take_succ_eq_append_getElem q, List.map_append, List.map_cons, List.map_nil, ← HX.out]
        exact HO3.out
    · have e : L.take x = L := List.take_of_length_le (by omega)
      rw [e] at HO
      clear e
      go_wp2
      go_ret
      exact ⟨_, rfl, HO.out, HB.out⟩

/-! ### at, Get -/
/-- Where a key stands. -/
def AtIs (L : List Cell) (k : ByteArray) (r : Int) : Prop := (r = -1 ∧ ∀ c ∈ L, c.f0 ≠ k) ∨ ∃ j, ∃ h : j < L.length, r = (j : Int) ∧ L[j].f0 = k

set_option maxHeartbeats 2000000 in
set_option maxRecDepth 100000 in
theorem refSAt_any (w : World) (g : Nat) (L : List Cell) (k : ByteArray) (h : RefSIs w g L) (hl : L.length ≤ 1000000) :
    Calls Tryd.prog 112 #[.pointer (some ⟨g, 0, none⟩), .string k] w fun e w' => (∃ r, e = .returned (.int .i64 r) ∧ AtIs L k r) ∧ w = w' := by
  have hgl := h.lt
  obtain ⟨A, c, hg, hlc, hC⟩ := h
  have hcell : w.cell? ⟨g, 0, none⟩ = some (.slice A L.length c) := by simp [World.cell?, hg]
  have HC := Aside0.mk hC
  have HL := Aside0.mk hl
  clear hC hl hg hlc
  go_enter Tryd.func112, Tryd.ntmps112
  go_wp2
  go_loop [5] (fun v5 => ∃ (x : Nat), v5 = .int .i64 x ∧ Aside0 (x ≤ L.length) ∧ Aside0 (∀ j, (hj : j < x) → (hl : j < L.length) → L[j].f0 ≠ k)) (fun v5 => L.length - (intOf v5).toNat)
  case atStart => exact ⟨0, rfl, ⟨by omega⟩, ⟨fun j hj => by omega⟩⟩
  case round =>
    obtain ⟨x, rfl, HK, HJ⟩ := hrel
    by_cases q : x < L.length
    · have q' : (x : Int) < (L.length : Int) := by omega
      have p1 : (0 : Int) ≤ (x : Int) := by omega
      obtain ⟨ad, e, d0, _⟩ := atCell HC.out (x : Int) p1 q'
      cases e
      rw [Int.toNat_natCast] at d0
      have HX : Aside0 (rdCell L (x : Int) = L[x]) := ⟨by rw [rdCell_get (by simpa using q)]; simp⟩
      generalize rdCell L (x : Int) = y at *
      by_cases hk : y.f0 = k
      · have heq : (y.f0.toList == k.toList) = true := by rw [hk]; exact beq_self_eq_true _
        have HA : Aside0 (AtIs L k (x : Int)) := ⟨.inr ⟨x, q, rfl, by rw [← HX.out]; exact hk⟩⟩
        clear hk
        go_wp2
        go_ret
        exact ⟨⟨_, rfl, HA.out⟩, rfl⟩
      · have heq : (y.f0.toList == k.toList) = false := beq_false_of_ne fun h => hk (bytes_ext (by rwa [Lib.toList_data, Lib.toList_data] at h))
        have HJ2 : Aside0 (∀ j, (hj : j < x + 1) → (hl : j < L.length) → L[j].f0 ≠ k) := ⟨fun j hj hl => by
          by_cases e : j = x
          · subst e; rw [← HX.out]; exact hk
          · exact HJ.out j (by omega) hl⟩
        clear hk
        go_wp2
        go_round
        case rel => exact ⟨x + 1, by first | go_num | rw [wsucc x (by have := HL.out; omega)], ⟨by omega⟩, HJ2⟩
        case measure => have := HL.out; first | (simp [intOf]; omega) | (rw [wsucc x (by omega)]; simp [intOf]; omega)
    · have HA : Aside0 (AtIs L k (-1)) := ⟨.inl ⟨rfl, fun c hc => by
        obtain ⟨j, hj, rfl⟩ := List.getElem_of_mem hc
        exact HJ.out j (by omega) hj⟩⟩
      go_wp2
      go_ret
      exact ⟨⟨_, rfl, HA.out⟩, rfl⟩

set_option maxHeartbeats 2000000 in
set_option maxRecDepth 100000 in
theorem refSGet_any (w : World) (g : Nat) (L : List Cell) (f : ByteArray → Option Cell) (k : ByteArray) (h : RefSIs w g L) (hL : Lists keyC f L) (hl : L.length ≤ 1000000) :
    Calls Tryd.prog 88 #[.pointer (some ⟨g, 0, none⟩), .string k] w fun e w' => e = .returned (.tuple #[eCell.enc ((f k).getD zCell), .bool (f k).isSome]) ∧ Below w.heap.size w w' := by
  have hgl := h.lt
  have H := Aside0.mk h
  obtain ⟨A, c, hg, hlc, hC⟩ := h
  have hcell0 : w.cell? ⟨g, 0, none⟩ = some (.slice A L.length c) := by simp [World.cell?, hg]
  have hcell : ∀ o, (w.alloc o).cell? ⟨g, 0, none⟩ = some (.slice A L.length c) := fun o => pw_cell_below (below_alloc (Below.refl _ _) o) hcell0
  have HC := Aside0.mk hC
  have HL := Aside0.mk (And.intro hl hL)
  have hml := hC.2.1
  clear hC hl hg hlc hL
  obtain ⟨u, HU⟩ : ∃ u, Aside0 ((f k).getD zCell = u) := ⟨_, ⟨rfl⟩⟩
  obtain ⟨b, HBb⟩ : ∃ b, Aside0 ((f k).isSome = b) := ⟨_, ⟨rfl⟩⟩
  go_enter Tryd.func88, Tryd.ntmps88
  go_wp2_with fail
  refine (refSAt_any _ g L k (H.out.alloc _) HL.out.1).mono ?_
  rintro e w' ⟨⟨r, rfl, hr⟩, rfl⟩
  rcases hr with ⟨rfl, hno⟩ | ⟨j, hj, rfl, hk⟩
  · have hf : f k = none := by
      cases hf : f k with
      | none => rfl
      | some c => exact absurd ((HL.out.2.get k c).1 hf).2 (hno c ((HL.out.2.get k c).1 hf).1)
    rw [hf] at HU HBb
    obtain rfl : b = false := HBb.out.symm
    obtain rfl : u = zCell := HU.out.symm
    have HF := Aside0.mk hf
    clear hf hno
    go_wp2
    rw [HF.out]
    exact bodyPost_ret (v := .tuple #[.agg #[.string ⟨#[]⟩, .int .u32 0, .int .u32 0], .bool false]) (by simp [results, Tryd.results88, go_sem]) rfl ⟨rfl, by first | exact below_alloc (Below.refl _ _) _ | exact (below_alloc (Below.refl _ _) _).trans (Below.refl _ _)⟩
  · have hf : f k = some L[j] := (HL.out.2.get k _).2 ⟨List.getElem_mem hj, hk⟩
    have j' : (j : Int) < (L.length : Int) := by omega
    have p1 : (0 : Int) ≤ (j : Int) := by omega
    obtain ⟨ad, e, d0, d1, d2⟩ := atCell HC.out (j : Int) p1 j'
    cases e
    rw [Int.toNat_natCast] at d0 d1 d2
    have HX : Aside0 (rdCell L (j : Int) = L[j]) := ⟨by rw [rdCell_get (by simpa using hj)]; simp⟩
    rw [← HX.out] at hf
    generalize rdCell L (j : Int) = y at *
    rw [hf] at HU HBb
    obtain rfl : u = y := HU.out.symm
    obtain rfl : b = true := HBb.out.symm
    have e0 : ∀ o, (w.alloc o).cell? (ad.add (j * 3)) = some (.string u.f0) := fun o => pw_cell_below (below_alloc (Below.refl _ _) o) d0
    have e1 : ∀ o, (w.alloc o).cell? ⟨(ad.add (j * 3)).block, (ad.add (j * 3)).off + 1, none⟩ = some (.int .u32 u.f1) := fun o => pw_cell_below (below_alloc (Below.refl _ _) o) d1
    have e2 : ∀ o, (w.alloc o).cell? ⟨(ad.add (j * 3)).block, (ad.add (j * 3)).off + 2, none⟩ = some (.int .u32 u.f2) := fun o => pw_cell_below (below_alloc (Below.refl _ _) o) d2
    have HF := Aside0.mk hf
    clear hf hk
    go_wp2
    rw [HF.out]
    exact bodyPost_ret (v := .tuple #[.agg #[.string u.f0, .int .u32 u.f1, .int .u32 u.f2], .bool true]) (by simp [results, Tryd.results88, go_sem]) rfl ⟨rfl, by first | exact below_alloc (Below.refl _ _) _ | exact (below_alloc (Below.refl _ _) _).trans (Below.refl _ _)⟩
end Go.Proofs.YtmionoghpjpbaaaDoor
