/-
  cachepotlaw15.Step: group.
-/
import Derived.Test.YtmionoghpjpbaaaDoorSame
import Derived.Test.YtmionoghpjpbaaaDoorSteps15
import Derived.Test.YtmionoghpjpbaaaDoorMade
namespace Go.Proofs.YtmionoghpjpbaaaDoor
open Go.RowKit Go.Proofs.YtmionoghpjpbaaaDoorW.PrintWords Go.Proofs.YtmionoghpjpbaaaDoorW.PrintLast Go.Proofs.YtmionoghpjpbaaaDoorW.PrintMore
open Go.Proofs.YtmionoghpjpbaaaDoorM
set_option linter.unusedVariables false
set_option linter.unusedSimpArgs false

def sixS (a b c : Int) (A3 : Option Addr) (n3 c3 : Nat) (A4 : Option Addr) (n4 c4 : Nat) (r : Bool) : Array Value := #[.int .i64 a, .int .u32 b, .int .u32 c, .slice A3 n3 c3, .slice A4 n4 c4, .bool r]
theorem sixCells {W : World} {B : Nat} {a b c d e f : Value} {t : TypeId} (h : W.heap[B]? = some (.cells #[a, b, c, d, e, f] t (0, 0))) :
    W.cell? ⟨B, 0, none⟩ = some a ∧ W.cell? ⟨B, 1, none⟩ = some b ∧ W.cell? ⟨B, 2, none⟩ = some c ∧ W.cell? ⟨B, 3, none⟩ = some d ∧ W.cell? ⟨B, 4, none⟩ = some e ∧ W.cell? ⟨B, 5, none⟩ = some f := by
  refine ⟨?_, ?_, ?_, ?_, ?_, ?_⟩ <;> simp [World.cell?, h]
theorem fourCells {W : World} {B : Nat} {a b c d : Value} {t : TypeId} (h : W.heap[B]? = some (.cells #[a, b, c, d] t (0, 0))) :
    W.cell? ⟨B, 0, none⟩ = some a ∧ W.cell? ⟨B, 1, none⟩ = some b ∧ W.cell? ⟨B, 2, none⟩ = some c ∧ W.cell? ⟨B, 3, none⟩ = some d ∧ W.frozen? ⟨B, 0, none⟩ = false ∧ W.frozen? ⟨B, 1, none⟩ = false ∧ W.frozen? ⟨B, 2, none⟩ = false ∧ W.frozen? ⟨B, 3, none⟩ = false := by
  refine ⟨?_, ?_, ?_, ?_, ?_, ?_, ?_, ?_⟩ <;> simp [World.cell?, World.frozen?, h]
theorem blkB {w W : World} {B : Nat} {o : Obj} (h : w.heap[B]? = some o) (hb : Below w.heap.size w W) : W.heap[B]? = some o := (hb.block B (Array.getElem?_eq_some_iff.1 h).1).trans h

theorem set4 {w w2 : World} {n B : Nat} {a b c d : Value} {e : TypeId} (hbx : w2.heap[B]? = some (.cells #[a, b, c, d] e (0, 0))) (hb : Below n w w2) (hB : n ≤ B) (x y z u : Value) :
    ((((w2.setCell ⟨B, 0, none⟩ x).setCell ⟨B, 1, none⟩ y).setCell ⟨B, 2, none⟩ z).setCell ⟨B, 3, none⟩ u).heap[B]? = some (.cells #[x, y, z, u] e (0, 0)) ∧ Below n w ((((w2.setCell ⟨B, 0, none⟩ x).setCell ⟨B, 1, none⟩ y).setCell ⟨B, 2, none⟩ z).setCell ⟨B, 3, none⟩ u) := by
  obtain ⟨h1, b1⟩ := box_set1 (i := 0) hbx hb hB x
  obtain ⟨h2, b2⟩ := box_set1 (i := 1) h1 b1 hB y
  obtain ⟨h3, b3⟩ := box_set1 (i := 2) h2 b2 hB z
  obtain ⟨h4, b4⟩ := box_set1 (i := 3) h3 b3 hB u
  exact ⟨h4, b4⟩
theorem set4_far {w2 : World} {B k : Nat} (hk : k ≠ B) (x y z u : Value) : ((((w2.setCell ⟨B, 0, none⟩ x).setCell ⟨B, 1, none⟩ y).setCell ⟨B, 2, none⟩ z).setCell ⟨B, 3, none⟩ u).heap[k]? = w2.heap[k]? :=
  (Below.heap_setCell _ _ _ _ hk).trans ((Below.heap_setCell _ _ _ _ hk).trans ((Below.heap_setCell _ _ _ _ hk).trans (Below.heap_setCell _ _ _ _ hk)))

theorem R_afar {α : Type} {d : Kd α} {e base n c : Nat} {ok : Nat → Prop} {w : World} {A : Option Addr} {xs : List α} (h : d.R e w base ok (.slice A n c) xs) : ∀ ad, A = some ad → base ≤ ad.block := by
  rintro ad rfl
  exact ((Kd.R_bound h).1 ad.block (by simp [Value.ownBlock])).2.1

/-- What a step writes; r: of its raw ones. -/
def IsGroup (f3 : List Raw) (f4 : List Write) (r : Bool) (ws : List Write) : Prop := if r then ws = (f4.take 8).map shortW else IsWrites f3 6 ws
theorem IsGroup.unique {f3 : List Raw} {f4 : List Write} {r : Bool} {a b : List Write} (ha : IsGroup f3 f4 r a) (hb : IsGroup f3 f4 r b) : a = b := by
  unfold IsGroup at ha hb
  cases r
  · exact IsWrites.unique ha hb
  · exact ha.trans hb.symm
theorem IsGroup.len {f3 : List Raw} {f4 : List Write} {r : Bool} {a : List Write} (ha : IsGroup f3 f4 r a) : a.length ≤ 12 := by
  unfold IsGroup at ha
  cases r
  · exact IsWrites.len ha
  · have e : a = (f4.take 8).map shortW := ha
    rw [e, List.length_map, List.length_take]
    omega
theorem IsGroup.small {f3 : List Raw} {f4 : List Write} {r : Bool} {a : List Write} (ha : IsGroup f3 f4 r a) : ∀ y ∈ a, y.f0.size ≤ 60 := by
  intro y hy
  unfold IsGroup at ha
  cases r
  · exact Nat.le_trans (name_size (IsWrites.keys ha y hy)) (by omega)
  · have e : a = (f4.take 8).map shortW := ha
    rw [e] at hy
    obtain ⟨z, _, rfl⟩ := List.mem_map.1 hy
    exact shortT_size 60 z.f0
/-- What a step's slices lie as. -/
structure GroupAt (w : World) (f3 : List Raw) (A3 : Option Addr) (c3 : Nat) (f4 : List Write) (A4 : Option Addr) (c4 : Nat) : Prop where
  l3 : f3.length ≤ c3
  r3 : Kd.C kRaw w A3 f3.length f3
  l4 : f4.length ≤ c4
  r4 : Kd.C kWrite w A4 f4.length f4
theorem GroupAt.below {w w' : World} {f3 : List Raw} {f4 : List Write} {A3 A4 : Option Addr} {c3 c4 : Nat} (h : GroupAt w f3 A3 c3 f4 A4 c4) (hb : Below w.heap.size w w') : GroupAt w' f3 A3 c3 f4 A4 c4 :=
  ⟨h.l3, Kd.C_below h.r3 hb, h.l4, Kd.C_below h.r4 hb⟩

set_option maxHeartbeats 4000000 in
set_option maxRecDepth 100000 in
theorem group_any (a b c : Int) (f3 : List Raw) (f4 : List Write) (r : Bool) (A3 : Option Addr) (c3 : Nat) (A4 : Option Addr) (c4 : Nat) (w : World) (hN : Names w) (h : GroupAt w f3 A3 c3 f4 A4 c4) (hs : ∀ r ∈ f3, r.f2.size ≤ 4611686018427387904) :
    Calls Tryd.prog 46 #[.agg (sixS a b c A3 f3.length c3 A4 f4.length c4 r)] w fun e w' => ∃ A5 c5 ws, e = .returned (.agg #[.int .u32 b, .int .u32 0, .int .u32 c, .slice A5 ws.length c5]) ∧ Kd.C kWrite w' A5 ws.length ws ∧ ws.length ≤ c5 ∧ IsGroup f3 f4 r ws ∧ Below w.heap.size w w' ∧ ∀ ad, A5 = some ad → w.heap.size ≤ ad.block := by
  unfold sixS
  have HBX : Aside0 (((w.alloc (.cells #[.int .i64 a, .int .u32 b, .int .u32 c, .slice A3 f3.length c3, .slice A4 f4.length c4, .bool r] 71)).alloc (.cells #[.int .u32 0, .int .u32 0, .int .u32 0, .slice none 0 0] 74)).heap[w.heap.size]? = some (.cells #[.int .i64 a, .int .u32 b, .int .u32 c, .slice A3 f3.length c3, .slice A4 f4.length c4, .bool r] 71 (0, 0))) := ⟨(heap_alloc_old _ _ (by simp)).trans (heap_alloc_new _ _)⟩
  have HBY : Aside0 (((w.alloc (.cells #[.int .i64 a, .int .u32 b, .int .u32 c, .slice A3 f3.length c3, .slice A4 f4.length c4, .bool r] 71)).alloc (.cells #[.int .u32 0, .int .u32 0, .int .u32 0, .slice none 0 0] 74)).heap[w.heap.size + 1]? = some (.cells #[.int .u32 0, .int .u32 0, .int .u32 0, .slice none 0 0] 74 (0, 0))) := ⟨by
    have := heap_alloc_new (w.alloc (.cells #[.int .i64 a, .int .u32 b, .int .u32 c, .slice A3 f3.length c3, .slice A4 f4.length c4, .bool r] 71)) (.cells #[.int .u32 0, .int .u32 0, .int .u32 0, .slice none 0 0] 74)
    simpa using this⟩
  have HBL : Aside0 (Below w.heap.size w ((w.alloc (.cells #[.int .i64 a, .int .u32 b, .int .u32 c, .slice A3 f3.length c3, .slice A4 f4.length c4, .bool r] 71)).alloc (.cells #[.int .u32 0, .int .u32 0, .int .u32 0, .slice none 0 0] 74))) := ⟨below_alloc (below_alloc (Below.refl _ _) _) _⟩
  have HS := Aside0.mk hs
  have HNW : Aside0 (∀ W, Below w.heap.size w W → GroupAt W f3 A3 c3 f4 A4 c4 ∧ Names W) := ⟨fun W hb => ⟨h.below hb, hN.below hb hN.lt⟩⟩
  clear h hN hs
  go_enter Tryd.func46, Tryd.ntmps46
  go_wp2_with fail
  refine (handWrites_any A3 c3 f3 6 (by omega) _ (HNW.out _ HBL.out).2 (HNW.out _ HBL.out).1.r3 HS.out).mono ?_
  rintro e w2 ⟨v, ws, rfl, hR, hW, hb⟩
  obtain ⟨A5, c5, rfl, hc5, hC5⟩ := Kd.R_reads hR
  have HB2 : Aside0 (Below w.heap.size w w2) := ⟨below_then HBL.out HBL.out.size hb⟩
  have HX2 := Aside0.mk (blkB HBX.out hb)
  have HY2 := Aside0.mk (blkB HBY.out hb)
  have HC5 := Aside0.mk (And.intro hC5 (And.intro hc5 hW))
  have HRB : Aside0 (Kd.R kWrite 44 w2 (w.heap.size + 2) (fun k => True ∧ w.heap.size + 2 ≤ k ∧ k < w2.heap.size ∧ ∃ q, q ∈ 44 :: kWrite.E ∧ ∃ cells, w2.heap[k]? = some (.cells cells q (0, 0))) (.slice A5 ws.length c5) ws) := ⟨Kd.R_bound (Kd.R_lower hR (by simp))⟩
  have HLTY : Aside0 (w.heap.size + 1 < w2.heap.size) := ⟨(Array.getElem?_eq_some_iff.1 HY2.out).1⟩
  clear hR hW hb hC5 hc5 HBX HBY HBL
  obtain ⟨b0, b1, b2, b3, b4, b5⟩ := sixCells HX2.out
  cases r
  · obtain ⟨y0, y1, y2, y3, z0, z1, z2, z3⟩ := fourCells HY2.out
    have hl0 : w.heap.size < w2.heap.size := by have := HLTY.out; omega
    have hl1 : w.heap.size + 1 < w2.heap.size := HLTY.out
    obtain ⟨n5, hn5⟩ : ∃ n5, Aside0 (n5 = ws.length) := ⟨_, ⟨rfl⟩⟩
    rw [← hn5.out]
    have HRn : Aside0 (Kd.R kWrite 44 w2 (w.heap.size + 2) (fun k => True ∧ w.heap.size + 2 ≤ k ∧ k < w2.heap.size ∧ ∃ q, q ∈ 44 :: kWrite.E ∧ ∃ cells, w2.heap[k]? = some (.cells cells q (0, 0))) (.slice A5 n5 c5) ws) := ⟨by rw [hn5.out]; exact HRB.out⟩
    have HGn : Aside0 (ws.length ≤ c5 ∧ IsGroup f3 f4 false ws) := ⟨HC5.out.2.1, HC5.out.2.2⟩
    go_wp2
    obtain ⟨h4, hb4⟩ := set4 HY2.out HB2.out (by omega) (.int .u32 b) (.int .u32 0) (.int .u32 c) (.slice A5 n5 c5)
    have hC9 := (Kd.R_reads' (Kd.R_step HRn.out (fun k hk _ => set4_far (B := w.heap.size + 1) (k := k) (by have := hk.2.1; have h9 := HLTY.out; omega) (.int .u32 b) (.int .u32 0) (.int .u32 c) (.slice A5 n5 c5)))).2.2
    obtain ⟨y0, y1, y2, y3, _, _, _, _⟩ := fourCells h4
    generalize (((w2.setCell ⟨w.heap.size + 1, 0, none⟩ (.int .u32 b)).setCell ⟨w.heap.size + 1, 1, none⟩ (.int .u32 0)).setCell ⟨w.heap.size + 1, 2, none⟩ (.int .u32 c)).setCell ⟨w.heap.size + 1, 3, none⟩ (.slice A5 n5 c5) = wf at *
    exact bodyPost_ret (v := .agg #[.int .u32 b, .int .u32 0, .int .u32 c, .slice A5 n5 c5]) (by simp [results, Tryd.results46, go_sem, y0, y1, y2, y3]) rfl ⟨A5, c5, ws, by rw [hn5.out], hC9, HGn.out.1, HGn.out.2, hb4, fun ad e => by have := R_afar HRn.out ad e; omega⟩
  · go_wp2_with fail
    refine (writesB_any A4 c4 f4 8 w2 (HNW.out _ HB2.out).1.r4 (HNW.out _ HB2.out).1.l4 (by omega) (by omega)).mono ?_
    rintro e w3 ⟨v, rfl, hR, hb⟩
    obtain ⟨W9, hW9⟩ : ∃ W9, Aside0 ((f4.take (8 : Int).toNat).map shortW = W9) := ⟨_, ⟨rfl⟩⟩
    rw [hW9.out] at hR
    obtain ⟨A9, c9, rfl, hc9, _⟩ := Kd.R_reads hR
    obtain ⟨n9, hn9⟩ : ∃ n9, Aside0 (n9 = W9.length) := ⟨_, ⟨rfl⟩⟩
    rw [← hn9.out]
    have HRn : Aside0 (Kd.R kWrite 44 w3 (w.heap.size + 2) (fun k => True ∧ w.heap.size + 2 ≤ k ∧ k < w3.heap.size ∧ ∃ q, q ∈ 44 :: kWrite.E ∧ ∃ cells, w3.heap[k]? = some (.cells cells q (0, 0))) (.slice A9 n9 c9) W9) := ⟨Kd.R_bound (Kd.R_lower (by rw [hn9.out]; exact hR) HLTY.out)⟩
    have HGn : Aside0 (W9.length ≤ c9 ∧ IsGroup f3 f4 true W9) := ⟨hc9, hW9.out.symm⟩
    have HB3 : Aside0 (Below w.heap.size w w3) := ⟨below_then HB2.out HB2.out.size hb⟩
    have HX3 := Aside0.mk (blkB HX2.out hb)
    have HY3 := Aside0.mk (blkB HY2.out hb)
    have HL3 : Aside0 (w.heap.size + 1 < w3.heap.size) := ⟨Nat.lt_of_lt_of_le HLTY.out hb.size⟩
    clear hR hb b0 b1 b2 b3 b4 b5 hc9
    obtain ⟨b0, b1, b2, b3, b4, b5⟩ := sixCells HX3.out
    obtain ⟨y0, y1, y2, y3, z0, z1, z2, z3⟩ := fourCells HY3.out
    have hl0 : w.heap.size < w3.heap.size := by have := HL3.out; omega
    have hl1 : w.heap.size + 1 < w3.heap.size := HL3.out
    go_wp2
    obtain ⟨h4, hb4⟩ := set4 HY3.out HB3.out (by omega) (.int .u32 b) (.int .u32 0) (.int .u32 c) (.slice A9 n9 c9)
    have hC9 := (Kd.R_reads' (Kd.R_step HRn.out (fun k hk _ => set4_far (B := w.heap.size + 1) (k := k) (by have := hk.2.1; have h9 := HL3.out; omega) (.int .u32 b) (.int .u32 0) (.int .u32 c) (.slice A9 n9 c9)))).2.2
    obtain ⟨y0, y1, y2, y3, _, _, _, _⟩ := fourCells h4
    generalize (((w3.setCell ⟨w.heap.size + 1, 0, none⟩ (.int .u32 b)).setCell ⟨w.heap.size + 1, 1, none⟩ (.int .u32 0)).setCell ⟨w.heap.size + 1, 2, none⟩ (.int .u32 c)).setCell ⟨w.heap.size + 1, 3, none⟩ (.slice A9 n9 c9) = wf at *
    exact bodyPost_ret (v := .agg #[.int .u32 b, .int .u32 0, .int .u32 c, .slice A9 n9 c9]) (by simp [results, Tryd.results46, go_sem, y0, y1, y2, y3]) rfl ⟨A9, c9, W9, by rw [hn9.out], hC9, HGn.out.1, HGn.out.2, hb4, fun ad e => by have := R_afar HRn.out ad e; omega⟩
end Go.Proofs.YtmionoghpjpbaaaDoor
