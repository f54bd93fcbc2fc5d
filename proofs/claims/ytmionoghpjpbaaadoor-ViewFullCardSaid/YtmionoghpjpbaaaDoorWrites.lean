/-
  cachepothand.Writes, cachepothand.Keys.
-/
import Derived.Test.YtmionoghpjpbaaaDoorHand
import Derived.Deep.CutRange
namespace Go.Proofs.YtmionoghpjpbaaaDoor
open Go.RowKit Go.Proofs.YtmionoghpjpbaaaDoorW.PrintWords Go.Proofs.YtmionoghpjpbaaaDoorW.PrintLast Go.Proofs.YtmionoghpjpbaaaDoorW.PrintMore
open Go.Proofs.YtmionoghpjpbaaaDoorM
open Go.Sort (setCell_eq mapBlock onCells)
set_option linter.unusedVariables false
set_option linter.unusedSimpArgs false
attribute [local go_sem ↓] Go.wp_at_zero Go.wp_at_succ

abbrev Raw := Pr.S86
abbrev kRaw := Pr.k86
abbrev rdRaw := Pr.rd_T86
theorem atRaw {w : World} {A : Option Addr} {n : Nat} {xs : List Raw} (h : Kd.C kRaw w A n xs) (i : Int) (h0 : 0 ≤ i) (h1 : i < n) : ∃ ad, A = some ad ∧ w.cell? (ad.add (i.toNat * 3)) = some (.int .i64 (rdRaw xs i).f0) ∧ w.cell? ⟨(ad.add (i.toNat * 3)).block, (ad.add (i.toNat * 3)).off + 1, none⟩ = some (.bool (rdRaw xs i).f1) ∧ w.cell? ⟨(ad.add (i.toNat * 3)).block, (ad.add (i.toNat * 3)).off + 2, none⟩ = some (.string (rdRaw xs i).f2) := Pr.at_T86 h i h0 h1
theorem rdRaw_get {xs : List Raw} {i : Int} (h : i.toNat < xs.length) : rdRaw xs i = xs[i.toNat] := by
  show xs.getD i.toNat _ = _
  rw [List.getD_eq_getElem?_getD, List.getElem?_eq_getElem h]
  rfl

/-! ### Val -/
theorem short_f (s : ByteArray) (n : Int) (h : 0 ≤ n) : Pr.cachepotbook_Short.f s n = some (s.extract 0 (mn (s.size : Int) n).toNat) := by
  unfold Pr.cachepotbook_Short.f
  rw [if_pos (by unfold mn; split <;> omega), if_pos (by unfold mn; split <;> omega)]
theorem fill_f : ∃ r, Pr.cachepotref1_Fill.f 50 120 40 = some r ∧ r.size = 40 := ⟨⟨(List.replicate 40 (120 : UInt8)).toArray⟩, by kernel_rfl, by kernel_rfl⟩
theorem val_f (s : ByteArray) (n : Int) (h : s.size ≤ 4611686018427387904) : ∃ r, Pr.cachepothand_Val.f 50 s n = some r := by
  obtain ⟨r, h1, h2⟩ := fill_f
  unfold Pr.cachepothand_Val.f
  have hp : ∃ t, Pr.cachepotbook_Pick.f n 9 = some t := by
    unfold Pr.cachepotbook_Pick.f
    rw [if_neg (by omega)]
    split <;> exact ⟨_, rfl⟩
  obtain ⟨t, ht⟩ := hp
  rw [ht, h1]
  simp only [Option.bind_some]
  by_cases h8 : t = 8
  · rw [if_pos h8, if_pos (by rw [h2]; omega), short_f _ _ (by omega)]
    exact ⟨_, rfl⟩
  · rw [if_neg h8, short_f _ _ (by omega)]
    exact ⟨_, rfl⟩
def valOf (s : ByteArray) (n : Int) : ByteArray := (Pr.cachepothand_Val.f 50 s n).getD ByteArray.empty
theorem val_any (s : ByteArray) (n : Int) (h : s.size ≤ 4611686018427387904) (w : World) : Calls Tryd.prog 52 #[.string s, .int .i64 n] w fun e w' => e = .returned (.string (valOf s n)) ∧ Below w.heap.size w w' := by
  obtain ⟨r, hr⟩ := val_f s n h
  have e : valOf s n = r := by unfold valOf; rw [hr]; rfl
  rw [e]
  exact Pr.cachepothand_Val.calls 50 s n r w hr

/-- A box that a call has left alone. -/
theorem box_left {w W : World} {cs : Array Value} {e : TypeId} (h : Below (w.alloc (.cells cs e)).drew.heap.size (w.alloc (.cells cs e)).drew W) : W.heap[w.heap.size]? = some (.cells cs e (0, 0)) := by
  have h1 : (w.alloc (.cells cs e)).drew.heap[w.heap.size]? = some (.cells cs e (0, 0)) := heap_alloc_new w _
  exact (h.block _ (Array.getElem?_eq_some_iff.1 h1).1).trans h1
theorem box_cell3 {W : World} {B : Nat} {a b c : Value} {e : TypeId} (h : W.heap[B]? = some (.cells #[a, b, c] e (0, 0))) :
    W.cell? ⟨B, 0, none⟩ = some a ∧ W.cell? ⟨B, 1, none⟩ = some b ∧ W.cell? ⟨B, 2, none⟩ = some c ∧ W.frozen? ⟨B, 0, none⟩ = false ∧ W.frozen? ⟨B, 1, none⟩ = false ∧ W.frozen? ⟨B, 2, none⟩ = false := by
  refine ⟨?_, ?_, ?_, ?_, ?_, ?_⟩ <;> simp [World.cell?, World.frozen?, h]

theorem box_set1 {w w2 : World} {n B i : Nat} {cs : Array Value} {e : TypeId} (hbx : w2.heap[B]? = some (.cells cs e (0, 0))) (hb : Below n w w2) (hB : n ≤ B) (u : Value) :
    (w2.setCell ⟨B, i, none⟩ u).heap[B]? = some (.cells (cs.setIfInBounds i u) e (0, 0)) ∧ Below n w (w2.setCell ⟨B, i, none⟩ u) := by
  constructor
  · rw [setCell_eq]
    simp [mapBlock, Array.getElem?_modify, hbx, onCells]
  · exact hb.setCell hB u
theorem box_set3 {w w2 : World} {n B : Nat} {a b c : Value} {e : TypeId} (hbx : w2.heap[B]? = some (.cells #[a, b, c] e (0, 0))) (hb : Below n w w2) (hB : n ≤ B) (x y z : Value) :
    (((w2.setCell ⟨B, 0, none⟩ x).setCell ⟨B, 1, none⟩ y).setCell ⟨B, 2, none⟩ z).heap[B]? = some (.cells #[x, y, z] e (0, 0)) ∧ Below n w (((w2.setCell ⟨B, 0, none⟩ x).setCell ⟨B, 1, none⟩ y).setCell ⟨B, 2, none⟩ z) := by
  obtain ⟨h1, b1⟩ := box_set1 (i := 0) hbx hb hB x
  obtain ⟨h2, b2⟩ := box_set1 (i := 1) h1 b1 hB y
  obtain ⟨h3, b3⟩ := box_set1 (i := 2) h2 b2 hB z
  exact ⟨h3, b3⟩

/-! ### Writes -/
def rawW (x : Raw) : Write := ⟨keyN x.f0, x.f1, if x.f1 then ByteArray.empty else valOf x.f2 (IntKind.i64.wrap (x.f0.tdiv 12))⟩
def kOneA : Write := ⟨⟨#[97]⟩, false, ⟨#[49]⟩⟩
theorem reps_oneA (w : World) : Reps (kWrite.K w) kWrite.sz [kOneA] [.string ⟨#[97]⟩, .bool false, .string ⟨#[49]⟩] := by
  refine ⟨rfl, fun j p hp => ?_⟩
  obtain ⟨h1, h2⟩ := List.getElem?_eq_some_iff.1 hp
  obtain rfl : j = 0 := by simpa using h1
  rw [← h2]
  exact kWrite_mk w kOneA
def rawL (l : List Raw) : List Write := if l = [] then [kOneA] else l.map rawW
def IsWrites (l : List Raw) (most : Nat) (ws : List Write) : Prop := IsMade (rawL (l.take most)) ws

set_option maxHeartbeats 4000000 in
set_option maxRecDepth 100000 in
theorem handWrites_any (A : Option Addr) (c : Nat) (l : List Raw) (most : Nat) (hm : most ≤ 100) (w : World) (hN : Names w) (hC : Kd.C kRaw w A l.length l) (hs : ∀ x ∈ l, x.f2.size ≤ 4611686018427387904) :
    Calls Tryd.prog 32 #[.slice A l.length c, .int .i64 most] w fun e w' => ∃ v ws, e = .returned v ∧ Kd.R kWrite 44 w' w.heap.size (fun _ => True) v ws ∧ IsWrites l most ws ∧ Below w.heap.size w w' := by
  have HC := Aside0.mk hC
  have HN := Aside0.mk hN
  have HMo := Aside0.mk hm
  have HS := Aside0.mk hs
  clear hC hs hN hm
  go_enter Tryd.func32, Tryd.ntmps32
  go_wp2
  go_loopg [5, 6] most (fun kq v5 v6 w' => ∃ (x : Nat), v6 = .int .i64 x ∧ Aside0 (x + kq = most) ∧ Aside0 (Kd.R kWrite 44 w' w.heap.size (fun _ => True) v5 ((l.take x).map rawW)) ∧ Aside0 (Below w.heap.size w w'))
  case atStart => exact ⟨0, rfl, ⟨by simp⟩, ⟨by simpa using Kd.R_nil _ _ _ _ _⟩, ⟨Below.refl _ _⟩⟩
  case round =>
    obtain ⟨x, rfl, HK, HO, HB⟩ := hrel
    by_cases q : x < l.length
    · have q' : (x : Int) < (l.length : Int) := by omega
      by_cases qm : x < most
      · have qm' : (x : Int) < (most : Int) := by omega
        have p1 : (0 : Int) ≤ (x : Int) := by omega
        obtain ⟨g1, rfl⟩ : ∃ g1, gk = g1 + 1 := ⟨gk - 1, by have := HK.out; omega⟩
        obtain ⟨ad, e, d0, d1, d2⟩ := atRaw (Kd.C_below HC.out HB.out) (x : Int) p1 q'
        cases e
        rw [Int.toNat_natCast] at d0 d1 d2
        have HX : Aside0 (rdRaw l (x : Int) = l[x]) := ⟨by rw [rdRaw_get (by simpa using q)]; simp⟩
        generalize rdRaw l (x : Int) = y at *
        have HNm : Aside0 (Names wr) := ⟨HN.out.below HB.out HN.out.lt⟩
        have HSy : Aside0 (y.f2.size ≤ 4611686018427387904) := ⟨by rw [HX.out]; exact HS.out _ (List.getElem_mem q)⟩
        go_upto_region 5 with fail
        go_cut [7] from 8 to 50 (fun v7 wx => ∃ B, v7 = .pointer (some ⟨B, 0, none⟩) ∧ Aside0 (wx.heap[B]? = some (.cells #[.string (keyN y.f0), .bool y.f1, .string ⟨#[]⟩] 44 (0, 0))) ∧ Aside0 (wr.heap.size ≤ B) ∧ Aside0 (Below wr.heap.size wr wx))
        case first =>
          have e0 : wr.drew.cell? (ad.add (x * 3)) = some (.int .i64 y.f0) := d0
          have e1 : wr.drew.cell? ⟨(ad.add (x * 3)).block, (ad.add (x * 3)).off + 1, none⟩ = some (.bool y.f1) := d1
          have a0 : ∀ o, (wr.alloc o).drew.cell? (ad.add (x * 3)) = some (.int .i64 y.f0) := fun o => pw_cell_below (below_alloc (Below.refl _ _) o) d0
          have a1 : ∀ o, (wr.alloc o).drew.cell? ⟨(ad.add (x * 3)).block, (ad.add (x * 3)).off + 1, none⟩ = some (.bool y.f1) := fun o => pw_cell_below (below_alloc (Below.refl _ _) o) d1
          go_region_held3 (fun w' => w'.cell? (ad.add (x * 3)) = some (.int .i64 y.f0) ∧ w'.cell? ⟨(ad.add (x * 3)).block, (ad.add (x * 3)).off + 1, none⟩ = some (.bool y.f1))
            (first | (with_reducible exact ⟨e0, e1⟩) | (with_reducible exact ⟨k0, k1⟩) | (with_reducible exact ⟨a0 _, a1 _⟩) | (with_reducible exact ⟨b0 _, b1 _⟩) | (with_reducible exact ⟨s0 _ _ _, s1 _ _ _⟩))
            (first
              | (go_at_call 37; refine (handKey_any y.f0 wr.drew HNm.out).mono ?_; rintro e w2 ⟨rfl, hb3⟩; have HB3 : Aside0 (Below wr.heap.size wr w2) := ⟨below_undrew hb3⟩; have k0 := pw_cell_below HB3.out d0; have k1 := pw_cell_below HB3.out d1; have b0 : ∀ o, (w2.alloc o).cell? (ad.add (x * 3)) = some (.int .i64 y.f0) := fun o => pw_cell_below (below_alloc HB3.out o) d0; have b1 : ∀ o, (w2.alloc o).cell? ⟨(ad.add (x * 3)).block, (ad.add (x * 3)).off + 1, none⟩ = some (.bool y.f1) := fun o => pw_cell_below (below_alloc HB3.out o) d1)
              | (go_at_call 37; refine (handKey_any y.f0 (wr.alloc _).drew (HNm.out.alloc _)).mono ?_; rintro e w2 ⟨rfl, hb3⟩; have hbx := box_left hb3; obtain ⟨hx0, hx1, hx2, hf0, hf1, hf2⟩ := box_cell3 hbx; have HBX := Aside0.mk hbx; clear hbx; have HB3 : Aside0 (Below wr.heap.size wr w2) := ⟨below_then (below_alloc (Below.refl _ _) _) (below_size (below_alloc (Below.refl _ _) _)) (below_undrew hb3)⟩; have k0 := pw_cell_below HB3.out d0; have k1 := pw_cell_below HB3.out d1; have s0 : ∀ u v z, (((w2.setCell ⟨wr.heap.size, 0, none⟩ u).setCell ⟨wr.heap.size, 1, none⟩ v).setCell ⟨wr.heap.size, 2, none⟩ z).cell? (ad.add (x * 3)) = some (.int .i64 y.f0) := fun u v z => pw_cell_below (box_set3 HBX.out HB3.out (Nat.le_refl _) u v z).2 d0; have s1 : ∀ u v z, (((w2.setCell ⟨wr.heap.size, 0, none⟩ u).setCell ⟨wr.heap.size, 1, none⟩ v).setCell ⟨wr.heap.size, 2, none⟩ z).cell? ⟨(ad.add (x * 3)).block, (ad.add (x * 3)).off + 1, none⟩ = some (.bool y.f1) := fun u v z => pw_cell_below (box_set3 HBX.out HB3.out (Nat.le_refl _) u v z).2 d1))
          · go_wp2_with fail
            go_meet
            exact ⟨_, rfl, ⟨heap_alloc_new w2 _⟩, ⟨HB3.out.size⟩, ⟨below_alloc HB3.out _⟩⟩
          · go_wp2_with fail
            go_meet
            exact ⟨_, rfl, ⟨(box_set3 HBX.out HB3.out (Nat.le_refl _) _ _ _).1⟩, ⟨Nat.le_refl _⟩, ⟨(box_set3 HBX.out HB3.out (Nat.le_refl _) _ _ _).2⟩⟩
        case rest =>
          obtain ⟨B, rfl, HBX, HBG, HBB⟩ := hcut
          obtain ⟨hx0, hx1, hx2, hf0, hf1, hf2⟩ := box_cell3 HBX.out
          have HNE : Aside0 (ad.add (x * 3) ≠ ⟨B, 2, none⟩ ∧ (⟨(ad.add (x * 3)).block, (ad.add (x * 3)).off + 2, none⟩ : Addr) ≠ ⟨B, 2, none⟩) := ⟨by
            have h1 := World.block_lt_of_cell? wr _ d0
            have h2 := HBG.out
            constructor
            · intro e; rw [e] at h1; exact absurd h1 (by simp; omega)
            · intro e; have := congrArg Addr.block e; simp only at this; omega⟩
          replace d0 := pw_cell_below HBB.out d0
          replace d2 := pw_cell_below HBB.out d2
          have HO2 : Aside0 (Kd.R kWrite 44 wc w.heap.size (fun _ => True) u5 ((l.take x).map rawW)) := ⟨Kd.R_below HO.out HBB.out⟩
          have HB2 : Aside0 (Below w.heap.size w wc) := ⟨below_then HB.out HB.out.size HBB.out⟩
          have HMl : Aside0 (((l.take x).map rawW).length ≤ 1000000000) := ⟨by rw [List.length_map, List.length_take]; have := HMo.out; omega⟩
          have HB0 := Aside0.mk HB.out
          have HU : Aside0 (∀ k, (True ∧ w.heap.size ≤ k ∧ k < wr.heap.size ∧ ∃ q, q ∈ 44 :: kWrite.E ∧ ∃ cells, wr.heap[k]? = some (.cells cells q (0, 0))) → k ≠ B) := ⟨fun k hk => by have := HBG.out; omega⟩
          have HOb := Aside0.mk (Kd.R_bound HO.out)
          clear HO HB
          cases hd : y.f1
          · rw [hd] at hx1 HBX
            obtain ⟨vv, HVV⟩ : ∃ vv, Aside0 (valOf y.f2 (IntKind.i64.wrap (y.f0.tdiv 12)) = vv) := ⟨_, ⟨rfl⟩⟩
            have HR : Aside0 (rawW l[x] = ⟨keyN y.f0, false, vv⟩) := ⟨by rw [← HX.out, ← HVV.out]; unfold rawW; rw [hd]; rfl⟩
            clear hd
            have e0 : wc.drew.cell? (ad.add (x * 3)) = some (.int .i64 y.f0) := d0
            have e2 : wc.drew.cell? ⟨(ad.add (x * 3)).block, (ad.add (x * 3)).off + 2, none⟩ = some (.string y.f2) := d2
            go_wp2_with fail
            go_region_held3 (fun w' => w'.cell? (ad.add (x * 3)) = some (.int .i64 y.f0) ∧ w'.cell? ⟨(ad.add (x * 3)).block, (ad.add (x * 3)).off + 2, none⟩ = some (.string y.f2))
              (first | (with_reducible exact ⟨e0, e2⟩) | (with_reducible exact ⟨k0, k2⟩) | (with_reducible exact ⟨s0 _, s2 _⟩))
              (first
                | (go_at_call 52; refine (val_any y.f2 (IntKind.i64.wrap (y.f0.tdiv 12)) HSy.out wc.drew).mono ?_; rintro e w5 ⟨rfl, hb5⟩; rw [HVV.out]; have HV := Aside0.mk (below_undrew hb5); have hbx := (HV.out.block B (Array.getElem?_eq_some_iff.1 HBX.out).1).trans HBX.out; obtain ⟨hy0, hy1, hy2, hg0, hg1, hg2⟩ := box_cell3 hbx; have HBY := Aside0.mk hbx; clear hbx; have k0 := pw_cell_below HV.out d0; have k2 := pw_cell_below HV.out d2; have s0 : ∀ u, (w5.setCell ⟨B, 2, none⟩ u).cell? (ad.add (x * 3)) = some (.int .i64 y.f0) := fun u => (World.cell?_setCell_other _ _ _ _ (Ne.symm HNE.out.1)).trans k0; have s2 : ∀ u, (w5.setCell ⟨B, 2, none⟩ u).cell? ⟨(ad.add (x * 3)).block, (ad.add (x * 3)).off + 2, none⟩ = some (.string y.f2) := fun u => (World.cell?_setCell_other _ _ _ _ (Ne.symm HNE.out.2)).trans k2))
            have HO5 : Aside0 (Kd.R kWrite 44 (w5.setCell ⟨B, 2, none⟩ (.string vv)) w.heap.size (fun _ => True) u5 ((l.take x).map rawW)) := ⟨Kd.R_mono (Kd.R_far (p := ⟨B, 2, none⟩) (Kd.R_step HOb.out (fun k hk hlt => (HV.out.block k (Nat.lt_of_lt_of_le hlt HBB.out.size)).trans (HBB.out.block k hlt))) (fun k hk => HU.out k hk) _) (fun _ _ => trivial)⟩
            have HB6 : Aside0 (Below w.heap.size w (w5.setCell ⟨B, 2, none⟩ (.string vv))) := ⟨(below_then HB2.out HB2.out.size HV.out).setCell (by have := HBG.out; have := HB0.out.size; simp only; omega) _⟩
            obtain ⟨hz0, hz1, hz2, _, _, _⟩ := box_cell3 (box_set1 (i := 2) HBY.out (Below.refl 0 w5) (Nat.zero_le _) (.string vv)).1
            generalize w5.setCell ⟨B, 2, none⟩ (.string vv) = w7 at *
            go_wp2_with (at_builtin; refine appWrite (w0 := w) w.heap.size rfl (.tmp 47) (.tmp 49) w7.heap.size rfl u5 ((l.take x).map rawW) ⟨keyN y.f0, false, vv⟩ rfl rfl ?aX ?aO ?aB ?aS ?aL ?_; (case aX => simp); (case aO => exact HO5.out); (case aB => exact HB6.out); (case aS => exact below_size HB6.out); (case aL => exact HMl.out); intro v1 w6 ho hb hg hat; have HR1 := Aside0.mk ho; have HB5 := Aside0.mk hb; clear ho hb hg hat)
            go_roundg g1
            case measure => omega
            case rel =>
              refine ⟨x + 1, by rw [wsucc x (by have := HMo.out; omega)], ⟨by have := HK.out; omega⟩, ⟨?_⟩, HB5⟩
              rw [List.take_succ_eq_append_getElem q, List.map_append, List.map_cons, List.map_nil, HR.out]
              exact HR1.out
          · rw [hd] at hx1 HBX
            have HR : Aside0 (rawW l[x] = ⟨keyN y.f0, true, ByteArray.empty⟩) := ⟨by rw [← HX.out]; unfold rawW; rw [hd]; rfl⟩
            clear hd
            go_wp2_with (at_builtin; refine appWrite (w0 := w) w.heap.size rfl (.tmp 47) (.tmp 49) wc.heap.size rfl u5 ((l.take x).map rawW) ⟨keyN y.f0, true, ByteArray.empty⟩ rfl rfl ?aX ?aO ?aB ?aS ?aL ?_; (case aX => simp); (case aO => exact HO2.out); (case aB => exact HB2.out); (case aS => exact below_size HB2.out); (case aL => exact HMl.out); intro v1 w6 ho hb hg hat; have HR1 := Aside0.mk ho; have HB5 := Aside0.mk hb; clear ho hb hg hat)
            go_roundg g1
            case measure => omega
            case rel =>
              refine ⟨x + 1, by rw [wsucc x (by have := HMo.out; omega)], ⟨by have := HK.out; omega⟩, ⟨?_⟩, HB5⟩
              rw [List.take_succ_eq_append_getElem q, List.map_append, List.map_cons, List.map_nil, HR.out]
              exact HR1.out
      · have e : l.take x = l.take most := by rw [show x = most by have := HK.out; omega]
        rw [e] at HO
        clear e
        obtain ⟨ws0, hws⟩ : ∃ ws0, Aside0 ((l.take most).map rawW = ws0) := ⟨_, ⟨rfl⟩⟩
        rw [hws.out] at HO
        have HLn : Aside0 (ws0.length ≤ 1000000) := ⟨by rw [← hws.out, List.length_map, List.length_take]; have := HMo.out; omega⟩
        have HSz : Aside0 (∀ x ∈ ws0, x.f0.size ≤ 1000000000) := ⟨fun x hx => by
          rw [← hws.out] at hx
          obtain ⟨y, _, rfl⟩ := List.mem_map.1 hx
          exact Nat.le_trans (nameAt_size _) (by omega)⟩
        obtain ⟨A1, c1, rfl, hc1, hr1⟩ := Kd.R_reads HO.out
        have HRd := Aside0.mk (And.intro hr1 hc1)
        clear hc1 hr1
        by_cases h0 : ws0.length = 0
        · have HW : Aside0 (rawL (l.take most) = [kOneA]) := ⟨by
            have : l.take most = [] := by
              have h1 := hws.out
              rw [List.eq_nil_of_length_eq_zero h0] at h1
              exact List.map_eq_nil_iff.1 h1
            unfold rawL
            rw [if_pos this]⟩
          go_wp2_with fail
          refine (batchMake_any (some ⟨wr.heap.size, 0, none⟩) 1 [kOneA] _ (C_lit kWrite wr 44 [kOneA] _ (reps_oneA _) (by simp [maxLen])) (by simp) (by simp) (by intro x hx; rw [List.mem_singleton.1 hx]; simp [kOneA, ByteArray.size])).mono ?_
          rintro e w3 ⟨v, ws, rfl, hR, hM, hb⟩
          have HF : Aside0 (Kd.R kWrite 44 w3 w.heap.size (fun _ => True) v ws ∧ IsWrites l most ws ∧ Below w.heap.size w w3) := ⟨Kd.R_lower hR (below_size (below_alloc HB.out _)), by unfold IsWrites; rw [HW.out]; exact hM, below_then (below_alloc HB.out _) (below_size (below_alloc HB.out _)) hb⟩
          clear hR hM hb
          go_wp2_with fail
          go_ret
          exact ⟨v, ws, rfl, HF.out⟩
        · have HW : Aside0 (rawL (l.take most) = ws0) := ⟨by
            have : ¬ l.take most = [] := fun h => h0 (by rw [← hws.out, h]; rfl)
            unfold rawL
            rw [if_neg this, hws.out]⟩
          have h0' : ¬ (ws0.length : Int) = 0 := by omega
          go_wp2_with fail
          refine (batchMake_any A1 c1 ws0 _ HRd.out.1 HRd.out.2 HLn.out HSz.out).mono ?_
          rintro e w3 ⟨v, ws, rfl, hR, hM, hb⟩
          have HF : Aside0 (Kd.R kWrite 44 w3 w.heap.size (fun _ => True) v ws ∧ IsWrites l most ws ∧ Below w.heap.size w w3) := ⟨Kd.R_lower hR HB.out.size, by unfold IsWrites; rw [HW.out]; exact hM, below_then HB.out HB.out.size hb⟩
          clear hR hM hb
          go_wp2_with fail
          go_ret
          exact ⟨v, ws, rfl, HF.out⟩
    · have e : l.take x = l.take most := by rw [List.take_of_length_le (by omega), List.take_of_length_le (by have := HK.out; omega)]
      rw [e] at HO
      clear e
      obtain ⟨ws0, hws⟩ : ∃ ws0, Aside0 ((l.take most).map rawW = ws0) := ⟨_, ⟨rfl⟩⟩
      rw [hws.out] at HO
      have HLn : Aside0 (ws0.length ≤ 1000000) := ⟨by rw [← hws.out, List.length_map, List.length_take]; have := HMo.out; omega⟩
      have HSz : Aside0 (∀ x ∈ ws0, x.f0.size ≤ 1000000000) := ⟨fun x hx => by
        rw [← hws.out] at hx
        obtain ⟨y, _, rfl⟩ := List.mem_map.1 hx
        exact Nat.le_trans (nameAt_size _) (by omega)⟩
      obtain ⟨A1, c1, rfl, hc1, hr1⟩ := Kd.R_reads HO.out
      have HRd := Aside0.mk (And.intro hr1 hc1)
      clear hc1 hr1
      by_cases h0 : ws0.length = 0
      · have HW : Aside0 (rawL (l.take most) = [kOneA]) := ⟨by
          have : l.take most = [] := by
            have h1 := hws.out
            rw [List.eq_nil_of_length_eq_zero h0] at h1
            exact List.map_eq_nil_iff.1 h1
          unfold rawL
          rw [if_pos this]⟩
        go_wp2_with fail
        refine (batchMake_any (some ⟨wr.heap.size, 0, none⟩) 1 [kOneA] _ (C_lit kWrite wr 44 [kOneA] _ (reps_oneA _) (by simp [maxLen])) (by simp) (by simp) (by intro x hx; rw [List.mem_singleton.1 hx]; simp [kOneA, ByteArray.size])).mono ?_
        rintro e w3 ⟨v, ws, rfl, hR, hM, hb⟩
        have HF : Aside0 (Kd.R kWrite 44 w3 w.heap.size (fun _ => True) v ws ∧ IsWrites l most ws ∧ Below w.heap.size w w3) := ⟨Kd.R_lower hR (below_size (below_alloc HB.out _)), by unfold IsWrites; rw [HW.out]; exact hM, below_then (below_alloc HB.out _) (below_size (below_alloc HB.out _)) hb⟩
        clear hR hM hb
        go_wp2_with fail
        go_ret
        exact ⟨v, ws, rfl, HF.out⟩
      · have HW : Aside0 (rawL (l.take most) = ws0) := ⟨by
          have : ¬ l.take most = [] := fun h => h0 (by rw [← hws.out, h]; rfl)
          unfold rawL
          rw [if_neg this, hws.out]⟩
        have h0' : ¬ (ws0.length : Int) = 0 := by omega
        go_wp2_with fail
        refine (batchMake_any A1 c1 ws0 _ HRd.out.1 HRd.out.2 HLn.out HSz.out).mono ?_
        rintro e w3 ⟨v, ws, rfl, hR, hM, hb⟩
        have HF : Aside0 (Kd.R kWrite 44 w3 w.heap.size (fun _ => True) v ws ∧ IsWrites l most ws ∧ Below w.heap.size w w3) := ⟨Kd.R_lower hR HB.out.size, by unfold IsWrites; rw [HW.out]; exact hM, below_then HB.out HB.out.size hb⟩
        clear hR hM hb
        go_wp2_with fail
        go_ret
        exact ⟨v, ws, rfl, HF.out⟩
end Go.Proofs.YtmionoghpjpbaaaDoor
