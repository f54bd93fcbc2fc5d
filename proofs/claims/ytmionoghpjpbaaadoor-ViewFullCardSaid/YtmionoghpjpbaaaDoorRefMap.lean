/-
  The document's map (cachepotref3.Map): without, Forget, Get, Keys.
-/
import Derived.Test.YtmionoghpjpbaaaDoorLists
import Derived.Test.YtmionoghpjpbaaaDoorWrites
import Derived.Deep.CutRange
namespace Go.Proofs.YtmionoghpjpbaaaDoor
open Go.RowKit Go.Proofs.YtmionoghpjpbaaaDoorW.PrintWords Go.Proofs.YtmionoghpjpbaaaDoorW.PrintLast Go.Proofs.YtmionoghpjpbaaaDoorW.PrintMore
open Go.Proofs.YtmionoghpjpbaaaDoorM
set_option linter.unusedVariables false
set_option linter.unusedSimpArgs false
attribute [local go_sem ↓] Go.wp_at_zero Go.wp_at_succ

/-! ### rows that are read, in a world in which all cells are as they were -/
theorem C_cells {α : Type} {d : Kd α} {w w' : World} {A : Option Addr} {n : Nat} {xs : List α} (h : Kd.C d w A n xs) (hc : ∀ a v, w.cell? a = some v → w'.cell? a = some v) (hK : ∀ x cs, d.K w x cs → d.K w' x cs) : Kd.C d w' A n xs := by
  refine ⟨h.1, h.2.1, fun hn => ?_⟩
  obtain ⟨ad, e, h3⟩ := h.2.2 hn
  refine ⟨ad, e, fun j p hj => ?_⟩
  obtain ⟨c, h4, h5, h6⟩ := h3 j p hj
  exact ⟨c, h4, hK _ _ h5, fun i u hu => hc _ _ (h6 i u hu)⟩
/-- A row, behind a store into another block. -/
theorem C_set {α : Type} {d : Kd α} {w : World} {A : Option Addr} {n : Nat} {xs : List α} {p : Addr} {u : Value} (h : Kd.C d w A n xs) (hne : ∀ ad, A = some ad → ad.block ≠ p.block) (hK : ∀ x cs, d.K w x cs → d.K (w.setCell p u) x cs) : Kd.C d (w.setCell p u) A n xs := by
  refine ⟨h.1, h.2.1, fun hn => ?_⟩
  obtain ⟨ad, e, h3⟩ := h.2.2 hn
  refine ⟨ad, e, fun j p' hj => ?_⟩
  obtain ⟨c, h4, h5, h6⟩ := h3 j p' hj
  refine ⟨c, h4, hK _ _ h5, fun i v hu => ?_⟩
  rw [World.cell?_setCell_other _ _ _ _ (fun e2 => hne ad e (by rw [e2, add_block]))]
  exact h6 i v hu
theorem kAnswer_any {w w' : World} {x : Answer} {cs : List Value} (h : kAnswer.K w x cs) : kAnswer.K w' x cs := by rw [kAnswer_open h]; exact kAnswer_mk w' x
theorem kCell_any {w w' : World} {x : Cell} {cs : List Value} (h : kCell.K w x cs) : kCell.K w' x cs := by rw [kCell_open h]; exact kCell_mk w' x
theorem grown_set (w : World) (a : Addr) (u : Value) : w.grownBy (w.setCell a u) (some a.block) :=
  ⟨rfl, rfl, rfl, by simp [World.setCell], fun k _ hk => Below.heap_setCell w a u k (fun e => hk (by rw [e]))⟩

theorem box_cell4 {W : World} {B : Nat} {a b c d : Value} {e : TypeId} (h : W.heap[B]? = some (.cells #[a, b, c, d] e (0, 0))) :
    W.cell? ⟨B, 0, none⟩ = some a ∧ W.cell? ⟨B, 1, none⟩ = some b ∧ W.cell? ⟨B, 2, none⟩ = some c ∧ W.cell? ⟨B, 3, none⟩ = some d ∧ W.frozen? ⟨B, 0, none⟩ = false ∧ W.frozen? ⟨B, 1, none⟩ = false ∧ W.frozen? ⟨B, 2, none⟩ = false ∧ W.frozen? ⟨B, 3, none⟩ = false := by
  refine ⟨?_, ?_, ?_, ?_, ?_, ?_, ?_, ?_⟩ <;> simp [World.cell?, World.frozen?, h]
theorem box_set4 {w w2 : World} {n B : Nat} {a b c d : Value} {e : TypeId} (hbx : w2.heap[B]? = some (.cells #[a, b, c, d] e (0, 0))) (hb : Below n w w2) (hB : n ≤ B) (x y z u : Value) :
    ((((w2.setCell ⟨B, 0, none⟩ x).setCell ⟨B, 1, none⟩ y).setCell ⟨B, 2, none⟩ z).setCell ⟨B, 3, none⟩ u).heap[B]? = some (.cells #[x, y, z, u] e (0, 0)) ∧ Below n w ((((w2.setCell ⟨B, 0, none⟩ x).setCell ⟨B, 1, none⟩ y).setCell ⟨B, 2, none⟩ z).setCell ⟨B, 3, none⟩ u) := by
  obtain ⟨h1, b1⟩ := box_set1 (i := 0) hbx hb hB x
  obtain ⟨h2, b2⟩ := box_set1 (i := 1) h1 b1 hB y
  obtain ⟨h3, b3⟩ := box_set1 (i := 2) h2 b2 hB z
  obtain ⟨h4, b4⟩ := box_set1 (i := 3) h3 b3 hB u
  exact ⟨h4, b4⟩

/-- A list of answers lies in block g's one cell. -/
def RefMIs (w : World) (g : Nat) (L : List Answer) : Prop :=
  ∃ A c, w.heap[g]? = some (.cells #[.slice A L.length c] 29 (0, 0)) ∧ L.length ≤ c ∧ Kd.C kAnswer w A L.length L

section
variable {w w' : World} {g b n : Nat} {L : List Answer}
theorem RefMIs.lt (h : RefMIs w g L) : g < w.heap.size := by
  obtain ⟨A, c, h1, _⟩ := h
  exact (Array.getElem?_eq_some_iff.1 h1).1
theorem RefMIs.cells (h : RefMIs w g L) (hg : w'.heap[g]? = w.heap[g]?) (hc : ∀ a v, w.cell? a = some v → w'.cell? a = some v) : RefMIs w' g L := by
  obtain ⟨A, c, h1, h2, h3⟩ := h
  exact ⟨A, c, hg.trans h1, h2, C_cells h3 hc fun _ _ => kAnswer_any⟩
theorem RefMIs.below (h : RefMIs w g L) (hb : Below w.heap.size w w') : RefMIs w' g L := h.cells (hb.block g h.lt) fun _ _ hc => pw_cell_below hb hc
theorem RefMIs.alloc (h : RefMIs w g L) (o : Obj) : RefMIs (w.alloc o) g L := h.below (below_alloc (Below.refl _ _) o)
theorem RefMIs.drew (h : RefMIs w g L) : RefMIs w.drew g L := h
theorem RefMIs.map {P : Program} {k : TypeId} {α : Type} {E : Elem α} {f : ByteArray → Option α} (h : RefMIs w g L) (hm : MapIs P k E w b n f) (hg : w.grownBy w' (some b)) : RefMIs w' g L := by
  refine h.cells (hg.block g h.lt ?_) fun _ _ hc => MapIs_cell hm hg hc
  intro e
  injection e with e
  subst e
  obtain ⟨A, c, h1, _⟩ := h
  obtain ⟨D, ⟨es, clock, hb, _⟩, _⟩ := hm
  rw [h1] at hb
  cases hb
/-- Elder blocks than B are as they were, but the map's. -/
theorem RefMIs.set {cs : Array Value} {v : Value} {base : Nat} (hb : w.heap[g]? = some (.cells cs 29 (0, 0))) (hcs : cs.size = 1) (hlt : g < base) (hR : Kd.R kAnswer 101 w base (fun _ => True) v L) :
    RefMIs (w.setCell ⟨g, 0, none⟩ v) g L := by
  have h1 := blk_set hb 0 v
  have h2 := Kd.R_far (p := ⟨g, 0, none⟩) (Kd.R_bound hR) (fun k hk => by have := hk.2.1; simp only; omega) v
  obtain ⟨A, c, rfl, h4, h5⟩ := Kd.R_reads h2
  refine ⟨A, c, ?_, h4, h5⟩
  rw [h1]
  have : cs.setIfInBounds 0 (.slice A L.length c) = #[.slice A L.length c] := by
    apply Array.ext
    · simp [hcs]
    · intro i h1 h2
      simp at h2
      subst h2
      simp
  rw [this]
end

theorem refNew_is (w : World) : RefMIs (w.alloc (.cells #[.slice none 0 0] 29)) w.heap.size [] :=
  ⟨none, 0, heap_alloc_new _ _, Nat.le_refl _, ⟨rfl, by simp, fun h => absurd h (by simp)⟩⟩

/-- All but the one of a key. -/
def lessA (k : ByteArray) (L : List Answer) : List Answer := L.filter fun c => !decide (c.f0 = k)
theorem lessA_take (k : ByteArray) (L : List Answer) (x : Nat) (h : x < L.length) : lessA k (L.take (x + 1)) = if L[x].f0 = k then lessA k (L.take x) else lessA k (L.take x) ++ [L[x]] := by
  unfold lessA
  rw [List.take_succ_eq_append_getElem h, List.filter_append]
  by_cases e : L[x].f0 = k
  · simp [e]
  · simp [e]
theorem lessA_le (k : ByteArray) (L : List Answer) : (lessA k L).length ≤ L.length := List.length_filter_le _ _

set_option maxHeartbeats 2000000 in
set_option maxRecDepth 100000 in
theorem refWithout_any (w : World) (g : Nat) (L : List Answer) (k : ByteArray) (h : RefMIs w g L) (hl : L.length ≤ 1000000) :
    Calls Tryd.prog 79 #[.pointer (some ⟨g, 0, none⟩), .string k] w fun e w' => ∃ v, e = .returned v ∧ Kd.R kAnswer 101 w' w.heap.size (fun _ => True) v (lessA k L) ∧ Below w.heap.size w w' := by
  have hgl := h.lt
  obtain ⟨A, c, hg, hlc, hC⟩ := h
  have hcell0 : w.cell? ⟨g, 0, none⟩ = some (.slice A L.length c) := by simp [World.cell?, hg]
  have HC := Aside0.mk hC
  have HL := Aside0.mk hl
  clear hC hl hg hlc
  go_enter Tryd.func79, Tryd.ntmps79
  go_wp2
  go_loopg [5, 6] L.length (fun kq v5 v6 w' => ∃ (x : Nat), v6 = .int .i64 x ∧ Aside0 (x + kq = L.length) ∧ Aside0 (Kd.R kAnswer 101 w' w.heap.size (fun _ => True) v5 (lessA k (L.take x))) ∧ Aside0 (Below w.heap.size w w'))
  case atStart => exact ⟨0, rfl, ⟨by simp⟩, ⟨by simpa [lessA] using Kd.R_nil _ _ _ _ _⟩, ⟨Below.refl _ _⟩⟩
  case round =>
    obtain ⟨x, rfl, HK, HO, HB⟩ := hrel
    have hcell := pw_cell_below HB.out hcell0
    have hgr : g < wr.heap.size := Nat.lt_of_lt_of_le hgl HB.out.size
    by_cases q : x < L.length
    · have q' : (x : Int) < (L.length : Int) := by omega
      have p1 : (0 : Int) ≤ (x : Int) := by omega
      obtain ⟨g1, rfl⟩ : ∃ g1, gk = g1 + 1 := ⟨gk - 1, by have := HK.out; omega⟩
      obtain ⟨ad, e, d0, d1, d2, d3⟩ := atAnswer (Kd.C_below HC.out HB.out) (x : Int) p1 q'
      cases e
      rw [Int.toNat_natCast] at d0 d1 d2 d3
      have HX : Aside0 (rdAnswer L (x : Int) = L[x]) := ⟨by rw [rdAnswer_get (by simpa using q)]; simp⟩
      generalize rdAnswer L (x : Int) = y at *
      have HMl : Aside0 ((lessA k (L.take x)).length ≤ 1000000000) := ⟨by have := lessA_le k (L.take x); rw [List.length_take] at this; have := HL.out; omega⟩
      by_cases hk : y.f0 = k
      · have HN : Aside0 (lessA k (L.take (x + 1)) = lessA k (L.take x)) := ⟨by rw [lessA_take k L x q, if_pos (by rw [← HX.out]; exact hk)]⟩
        have heq : (y.f0.toList == k.toList) = true := by rw [hk]; exact beq_self_eq_true _
        have hne : (y.f0.toList != k.toList) = false := by rw [hk]; simp
        clear hk
        go_wp2
        go_roundg g1
        case measure => omega
        case rel => exact ⟨x + 1, by rw [wsucc x (by have := HL.out; omega)], ⟨by have := HK.out; omega⟩, ⟨by rw [HN.out]; exact HO.out⟩, HB⟩
      · have HN : Aside0 (lessA k (L.take (x + 1)) = lessA k (L.take x) ++ [y]) := ⟨by rw [lessA_take k L x q, if_neg (by rw [← HX.out]; exact hk), HX.out]⟩
        have heq : (y.f0.toList == k.toList) = false := beq_false_of_ne fun h => hk (bytes_ext (by rwa [Lib.toList_data, Lib.toList_data] at h))
        have hne : (y.f0.toList != k.toList) = true := by rw [bne, heq]; rfl
        clear hk
        go_wp2_with (at_builtin; refine appAnswer (w0 := w) w.heap.size rfl (.tmp 26) (.tmp 34) wr.heap.size rfl u5 (lessA k (L.take x)) y rfl rfl rfl ?aO ?aB ?aS ?aL ?_; (case aO => exact HO.out); (case aB => exact HB.out); (case aS => exact HB.out.size); (case aL => exact HMl.out); intro v1 w3 ho hb hg hat; have HO3 := Aside0.mk ho; have HB3 := Aside0.mk hb; clear ho hb hg hat)
        go_roundg g1
        case measure => omega
        case rel => exact ⟨x + 1, by rw [wsucc x (by have := HL.out; omega)], ⟨by have := HK.out; omega⟩, ⟨by rw [HN.out]; exact HO3.out⟩, HB3⟩
    · have e : L.take x = L := List.take_of_length_le (by omega)
      rw [e] at HO
      clear e
      go_wp2
      go_ret
      exact ⟨_, rfl, HO.out, HB.out⟩

/-! ### Forget -/
def lessL (L : List Answer) (ks : List ByteArray) : List Answer := ks.foldl (fun L k => lessA k L) L
theorem lessL_snoc (L : List Answer) (ks : List ByteArray) (i : Nat) (h : i < ks.length) : lessL L (ks.take (i + 1)) = lessA ks[i] (lessL L (ks.take i)) := by
  unfold lessL
  rw [List.take_succ_eq_append_getElem h, List.foldl_append]
  rfl
theorem lessL_le : ∀ (ks : List ByteArray) (L : List Answer), (lessL L ks).length ≤ L.length
  | [], L => Nat.le_refl _
  | k :: ks, L => Nat.le_trans (lessL_le ks (lessA k L)) (lessA_le k L)
theorem lessL_mem : ∀ (ks : List ByteArray) (L : List Answer) (a : Answer), a ∈ lessL L ks → a ∈ L
  | [], L, a, h => h
  | k :: ks, L, a, h => (List.mem_filter.1 (lessL_mem ks (lessA k L) a h)).1
/-- The list goes with the map. -/
theorem lists_forget : ∀ (ks : List ByteArray) (f : ByteArray → Option Answer) (n : Nat) (L : List Answer), Lists Pr.S101.f0 f L → Lists Pr.S101.f0 (drops (f, n) ks).1 (lessL L ks)
  | [], f, n, L, h => h
  | k :: ks, f, n, L, h => lists_forget ks (del f k) (delN f k n) (lessA k L) (h.delL k)

set_option maxHeartbeats 2000000 in
set_option maxRecDepth 100000 in
theorem refForget_any (w : World) (g : Nat) (L : List Answer) (A : Option Addr) (c : Nat) (ks : List ByteArray) (hC : Kd.C Kd.string w A ks.length ks) (hA : ∀ ad, A = some ad → ad.block ≠ g) (h : RefMIs w g L) (hl : L.length ≤ 1000000) (hkl : ks.length ≤ 1000000) :
    Calls Tryd.prog 22 #[.pointer (some ⟨g, 0, none⟩), .slice A ks.length c] w fun e w' => e = .returned (.tuple #[]) ∧ RefMIs w' g (lessL L ks) ∧ w.grownBy w' (some g) := by
  have HC := Aside0.mk hC
  have HL := Aside0.mk hl
  have HKL := Aside0.mk hkl
  have H := Aside0.mk h
  have HA := Aside0.mk hA
  have hml := hC.2.1
  clear hC hl h hA hkl
  go_enter Tryd.func22, Tryd.ntmps22
  go_wp2
  go_loopg [4] ks.length (fun kq v4 w' => ∃ (x : Nat), v4 = .int .i64 x ∧ Aside0 (x + kq = ks.length) ∧ Aside0 (RefMIs w' g (lessL L (ks.take x))) ∧ Aside0 (w.grownBy w' (some g)) ∧ Aside0 (Kd.C Kd.string w' A ks.length ks))
  case atStart => exact ⟨0, rfl, ⟨by simp⟩, ⟨by simpa [lessL] using H.out⟩, ⟨World.grownBy.refl _ _⟩, HC⟩
  case round =>
    obtain ⟨x, rfl, HK, HR, HG, HC2⟩ := hrel
    by_cases q : x < ks.length
    · have q' : (x : Int) < (ks.length : Int) := by omega
      have p1 : (0 : Int) ≤ (x : Int) := by omega
      obtain ⟨g1, rfl⟩ : ∃ g1, gk = g1 + 1 := ⟨gk - 1, by have := HK.out; omega⟩
      obtain ⟨ad, e, c0⟩ := Kd.at_string HC2.out (x : Int) p1 q'
      have hadg := HA.out ad e
      have HAD := Aside0.mk hadg
      cases e
      rw [Int.toNat_natCast] at c0
      have HX : Aside0 (rdOf ByteArray.empty ks (x : Int) = ks[x]) := ⟨by rw [rdOf_get (by simpa using q)]; simp⟩
      generalize rdOf ByteArray.empty ks (x : Int) = key at *
      have HLn : Aside0 ((lessL L (ks.take x)).length ≤ 1000000) := ⟨Nat.le_trans (lessL_le _ _) HL.out⟩
      clear hadg
      go_wp2_with fail
      refine (refWithout_any wr g _ key HR.out HLn.out).mono ?_
      rintro e w2 ⟨v, rfl, hR, hb⟩
      obtain ⟨A1, c1, rfl⟩ := Kd.R_slice hR
      obtain ⟨A0, cp0, hblk, _, _⟩ := HR.out
      have hblk2 := (hb.block g HR.out.lt).trans hblk
      have hcell : w2.cell? ⟨g, 0, none⟩ = some (.slice A0 (lessL L (ks.take x)).length cp0) := by simp [World.cell?, hblk2]
      have hfr : w2.frozen? ⟨g, 0, none⟩ = false := by simp [World.frozen?, hblk2]
      have HF : Aside0 (RefMIs (w2.setCell ⟨g, 0, none⟩ (.slice A1 (lessA key (lessL L (ks.take x))).length c1)) g (lessL L (ks.take (x + 1))) ∧ w.grownBy (w2.setCell ⟨g, 0, none⟩ (.slice A1 (lessA key (lessL L (ks.take x))).length c1)) (some g) ∧ Kd.C Kd.string (w2.setCell ⟨g, 0, none⟩ (.slice A1 (lessA key (lessL L (ks.take x))).length c1)) (some ad) ks.length ks) := ⟨by
        rw [lessL_snoc L ks x q, ← HX.out]
        exact ⟨RefMIs.set hblk2 rfl HR.out.lt hR, (HG.out.trans (grown_of_below hb _)).trans (grown_set _ _ _), C_set (Kd.C_below HC2.out hb) (fun ad' e => by cases e; exact HAD.out) (fun _ _ h => h)⟩⟩
      clear hR hb hblk hblk2 c0
      go_wp2
      go_roundg g1
      case measure => omega
      case rel => exact ⟨x + 1, by go_num, ⟨by have := HK.out; omega⟩, ⟨HF.out.1⟩, ⟨HF.out.2.1⟩, ⟨HF.out.2.2⟩⟩
    · have e : ks.take x = ks := List.take_of_length_le (by omega)
      rw [e] at HR
      clear e
      go_wp2
      go_end0
      exact ⟨rfl, HR.out, HG.out⟩

/-! ### Get -/
/-- The document's answer of a key. -/
def refA (L : List Answer) (k : ByteArray) : Answer := seekL Pr.S101.f0 k L ⟨k, false, ⟨#[]⟩, 0⟩
theorem refA_getF {f : ByteArray → Option Answer} {L : List Answer} (h : Lists Pr.S101.f0 f L) (k : ByteArray) : refA L k = getF f k := by
  unfold refA
  rw [h.seek k]
  cases hf : f k with
  | none => unfold getF; rw [hf]; rfl
  | some d =>
    have h2 := ((h.get k d).1 hf).2
    unfold getF
    rw [hf]
    show d = ⟨k, d.f1, d.f2, d.f3⟩
    rw [← h2]

set_option maxHeartbeats 4000000 in
set_option maxRecDepth 100000 in
theorem refGet_any (w : World) (g : Nat) (L : List Answer) (A : Option Addr) (c : Nat) (ks : List ByteArray) (hC : Kd.C Kd.string w A ks.length ks) (h : RefMIs w g L) (hl : L.length ≤ 1000000) (hkl : ks.length ≤ 1000000) :
    Calls Tryd.prog 25 #[.pointer (some ⟨g, 0, none⟩), .slice A ks.length c] w fun e w' => ∃ v, e = .returned v ∧ Kd.R kAnswer 101 w' w.heap.size (fun _ => True) v (ks.map (refA L)) ∧ Below w.heap.size w w' := by
  have hgl := h.lt
  obtain ⟨A0, c0, hg, hlc, hCL⟩ := h
  have hcell0 : w.cell? ⟨g, 0, none⟩ = some (.slice A0 L.length c0) := by simp [World.cell?, hg]
  have HC := Aside0.mk (And.intro hC hCL)
  have HL := Aside0.mk (And.intro hl hkl)
  have hml := hC.2.1
  have hml2 := hCL.2.1
  clear hC hl hkl hg hlc hCL
  go_enter Tryd.func25, Tryd.ntmps25
  go_wp2
  go_loopg [5, 6] ks.length (fun kq v5 v6 w' => ∃ (x : Nat), v6 = .int .i64 x ∧ Aside0 (x + kq = ks.length) ∧ Aside0 (Kd.R kAnswer 101 w' w.heap.size (fun _ => True) v5 ((ks.take x).map (refA L))) ∧ Aside0 (Below w.heap.size w w'))
  case atStart => exact ⟨0, rfl, ⟨by simp⟩, ⟨by simpa using Kd.R_nil _ _ _ _ _⟩, ⟨Below.refl _ _⟩⟩
  case round =>
    obtain ⟨x, rfl, HK, HO, HB⟩ := hrel
    by_cases q : x < ks.length
    · have q' : (x : Int) < (ks.length : Int) := by omega
      have p1 : (0 : Int) ≤ (x : Int) := by omega
      obtain ⟨g1, rfl⟩ : ∃ g1, gk = g1 + 1 := ⟨gk - 1, by have := HK.out; omega⟩
      obtain ⟨ad, e, k0⟩ := Kd.at_string (Kd.C_below HC.out.1 HB.out) (x : Int) p1 q'
      cases e
      rw [Int.toNat_natCast] at k0
      have HX : Aside0 (rdOf ByteArray.empty ks (x : Int) = ks[x]) := ⟨by rw [rdOf_get (by simpa using q)]; simp⟩
      generalize rdOf ByteArray.empty ks (x : Int) = key at *
      have HMl : Aside0 (((ks.take x).map (refA L)).length ≤ 1000000000) := ⟨by rw [List.length_map, List.length_take]; have := HL.out.2; omega⟩
      obtain ⟨wo, rfl⟩ : ∃ wo : World, wo = wr := ⟨_, rfl⟩
      go_wp2_with fail
      go_loopg [8] L.length (fun kq v8 w' => ∃ (y : Nat) (s : Answer), v8 = .int .i64 y ∧ Aside0 (y + kq = L.length) ∧ Aside0 (s = seekL Pr.S101.f0 key (L.take y) ⟨key, false, ⟨#[]⟩, 0⟩) ∧ Aside0 (w'.heap[wo.heap.size]? = some (.cells #[.string s.f0, .bool s.f1, .string s.f2, .int .u32 s.f3] 101 (0, 0))) ∧ Aside0 (Below wo.heap.size wo w'))
      case atStart => exact ⟨0, ⟨key, false, ⟨#[]⟩, 0⟩, rfl, ⟨by simp⟩, ⟨rfl⟩, ⟨heap_alloc_new _ _⟩, ⟨below_alloc (Below.refl _ _) _⟩⟩
      case round =>
        obtain ⟨y, s, rfl, HK2, HS, HBX, HB2⟩ := hrel
        obtain ⟨hz0, hz1, hz2, hz3, hf0, hf1, hf2, hf3⟩ := box_cell4 HBX.out
        have HBW : Aside0 (Below w.heap.size w wr) := ⟨below_then HB.out HB.out.size HB2.out⟩
        have hcell := pw_cell_below HBW.out hcell0
        have hgr : g < wr.heap.size := Nat.lt_of_lt_of_le hgl HBW.out.size
        have hlo : wo.heap.size < wr.heap.size := (Array.getElem?_eq_some_iff.1 HBX.out).1
        by_cases qy : y < L.length
        · have qy' : (y : Int) < (L.length : Int) := by omega
          have py : (0 : Int) ≤ (y : Int) := by omega
          obtain ⟨g2, rfl⟩ : ∃ g2, gk = g2 + 1 := ⟨gk - 1, by have := HK2.out; omega⟩
          obtain ⟨ad2, e2, d0, d1, d2, d3⟩ := atAnswer (Kd.C_below HC.out.2 HBW.out) (y : Int) py qy'
          cases e2
          rw [Int.toNat_natCast] at d0 d1 d2 d3
          have HY : Aside0 (rdAnswer L (y : Int) = L[y]) := ⟨by rw [rdAnswer_get (by simpa using qy)]; simp⟩
          generalize rdAnswer L (y : Int) = u at *
          replace k0 := pw_cell_below HB2.out k0
          have HNX : Aside0 (seekL Pr.S101.f0 key (L.take (y + 1)) ⟨key, false, ⟨#[]⟩, 0⟩ = if u.f0 = key then u else s) := ⟨by
            rw [List.take_succ_eq_append_getElem qy, seekL_snoc, ← HS.out, HY.out]⟩
          by_cases hk : u.f0 = key
          · have HN2 := HNX.out
            rw [if_pos hk] at HN2
            have HN3 := Aside0.mk HN2
            have heq : (u.f0.toList == key.toList) = true := by rw [hk]; exact beq_self_eq_true _
            clear hk HN2
            go_wp2_with fail
            go_quiet (fail)
            go_wp2
            go_roundg g2
            case measure => omega
            case rel => exact ⟨y + 1, u, by go_num, ⟨by have := HK2.out; omega⟩, ⟨HN3.out.symm⟩, ⟨(box_set4 HBX.out HB2.out (Nat.le_refl _) _ _ _ _).1⟩, ⟨pw_below_drewN (box_set4 HBX.out HB2.out (Nat.le_refl _) _ _ _ _).2 _⟩⟩
          · have HN2 := HNX.out
            rw [if_neg hk] at HN2
            have HN3 := Aside0.mk HN2
            have heq : (u.f0.toList == key.toList) = false := beq_false_of_ne fun h => hk (bytes_ext (by rwa [Lib.toList_data, Lib.toList_data] at h))
            clear hk HN2
            go_wp2_with fail
            go_quiet (fail)
            go_wp2
            go_roundg g2
            case measure => omega
            case rel => exact ⟨y + 1, s, by go_num, ⟨by have := HK2.out; omega⟩, ⟨HN3.out.symm⟩, ⟨HBX.out⟩, ⟨pw_below_drewN HB2.out _⟩⟩
        · have e : L.take y = L := List.take_of_length_le (by omega)
          rw [e] at HS
          clear e
          have HO2 : Aside0 (Kd.R kAnswer 101 wr w.heap.size (fun _ => True) u5 ((ks.take x).map (refA L))) := ⟨Kd.R_below HO.out HB2.out⟩
          have HN : Aside0 ((ks.take (x + 1)).map (refA L) = (ks.take x).map (refA L) ++ [s]) := ⟨by
            rw [List.take_succ_eq_append_getElem q, List.map_append, List.map_cons, List.map_nil, ← HX.out, HS.out]; rfl⟩
          go_wp2_with (at_builtin; refine appAnswer (w0 := w) w.heap.size rfl (.tmp 49) (.tmp 51) wr.heap.size rfl u5 ((ks.take x).map (refA L)) s rfl rfl rfl ?aO ?aB ?aS ?aL ?_; (case aO => exact HO2.out); (case aB => exact HBW.out); (case aS => exact HBW.out.size); (case aL => exact HMl.out); intro v1 w3 ho hb hg hat; have HO3 := Aside0.mk ho; have HB3 := Aside0.mk hb; clear ho hb hg hat)
          go_roundg g1
          case measure => omega
          case rel => exact ⟨x + 1, by go_num, ⟨by have := HK.out; omega⟩, ⟨by rw [HN.out]; exact HO3.out⟩, HB3⟩
    · have e : ks.take x = ks := List.take_of_length_le (by omega)
      rw [e] at HO
      clear e
      go_wp2
      go_ret
      exact ⟨_, rfl, HO.out, HB.out⟩

/-! ### Keys -/
set_option maxHeartbeats 2000000 in
set_option maxRecDepth 100000 in
theorem refKeys_any (w : World) (g : Nat) (L : List Answer) (h : RefMIs w g L) (hl : L.length ≤ 1000000) :
    Calls Tryd.prog 31 #[.pointer (some ⟨g, 0, none⟩)] w fun e w' => ∃ v, e = .returned v ∧ Kd.R Kd.string 9 w' w.heap.size (fun _ => True) v (L.map Pr.S101.f0) ∧ Below w.heap.size w w' := by
  have hgl := h.lt
  obtain ⟨A, c, hg, hlc, hC⟩ := h
  have hcell0 : w.cell? ⟨g, 0, none⟩ = some (.slice A L.length c) := by simp [World.cell?, hg]
  have HC := Aside0.mk hC
  have HL := Aside0.mk hl
  clear hC hl hg hlc
  go_enter Tryd.func31, Tryd.ntmps31
  go_wp2
  go_loopg [3, 4] L.length (fun kq v3 v4 w' => ∃ (x : Nat), v4 = .int .i64 x ∧ Aside0 (x + kq = L.length) ∧ Aside0 (Kd.R Kd.string 9 w' w.heap.size (fun _ => True) v3 ((L.take x).map Pr.S101.f0)) ∧ Aside0 (Below w.heap.size w w'))
  case atStart => exact ⟨0, rfl, ⟨by simp⟩, ⟨by simpa using Kd.R_nil _ _ _ _ _⟩, ⟨Below.refl _ _⟩⟩
  case round =>
    obtain ⟨x, rfl, HK, HO, HB⟩ := hrel
    have hcell := pw_cell_below HB.out hcell0
    have hgr : g < wr.heap.size := Nat.lt_of_lt_of_le hgl HB.out.size
    by_cases q : x < L.length
    · have q' : (x : Int) < (L.length : Int) := by omega
      have p1 : (0 : Int) ≤ (x : Int) := by omega
      obtain ⟨g1, rfl⟩ : ∃ g1, gk = g1 + 1 := ⟨gk - 1, by have := HK.out; omega⟩
      obtain ⟨ad, e, d0, _⟩ := atAnswer (Kd.C_below HC.out HB.out) (x : Int) p1 q'
      cases e
      rw [Int.toNat_natCast] at d0
      have HX : Aside0 (rdAnswer L (x : Int) = L[x]) := ⟨by rw [rdAnswer_get (by simpa using q)]; simp⟩
      generalize rdAnswer L (x : Int) = y at *
      have HMl : Aside0 (((L.take x).map Pr.S101.f0).length ≤ 1000000000) := ⟨by rw [List.length_map, List.length_take]; have := HL.out; omega⟩
      go_wp2_with (at_builtin; refine appStr (w0 := w) w.heap.size rfl (.tmp 14) (.tmp 23) wr.heap.size rfl u3 ((L.take x).map Pr.S101.f0) y.f0 rfl rfl rfl ?aO ?aB ?aS ?aL ?_; (case aO => exact HO.out); (case aB => exact HB.out); (case aS => exact HB.out.size); (case aL => exact HMl.out); intro v1 w3 ho hb hg hat; have HO3 := Aside0.mk ho; have HB3 := Aside0.mk hb; clear ho hb hg hat)
      go_roundg g1
      case measure => omega
      case rel =>
        refine ⟨x + 1, by rw [wsucc x (by have := HL.out; omega)], ⟨by have := HK.out; omega⟩, ⟨?_⟩, HB3⟩
        rw [List.take_succ_eq_append_getElem q, List.map_append, List.map_cons, List.map_nil, ← HX.out]
        exact HO3.out
    · have e : L.take x = L := List.take_of_length_le (by omega)
      rw [e] at HO
      clear e
      go_wp2
      go_ret
      exact ⟨_, rfl, HO.out, HB.out⟩
end Go.Proofs.YtmionoghpjpbaaaDoor
