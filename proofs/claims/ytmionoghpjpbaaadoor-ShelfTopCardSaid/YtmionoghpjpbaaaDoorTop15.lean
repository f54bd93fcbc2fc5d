/-
  The law ShelfTop: it returns true.
-/
import Derived.Test.YtmionoghpjpbaaaDoorGroup15
import Derived.Test.YtmionoghpjpbaaaDoorDrops
import Derived.Deep.RegionHeld3
import Derived.Deep.DrawnRows
namespace Go.Proofs.YtmionoghpjpbaaaDoor
open Go.RowKit Go.Proofs.YtmionoghpjpbaaaDoorW.PrintWords Go.Proofs.YtmionoghpjpbaaaDoorW.PrintLast Go.Proofs.YtmionoghpjpbaaaDoorW.PrintMore
open Go.Proofs.YtmionoghpjpbaaaDoorM
set_option linter.unusedVariables false
set_option linter.unusedSimpArgs false
attribute [local go_sem ↓] Go.wp_at_zero Go.wp_at_succ

/-! ### plain -/
/-- A shelf whose cells are of the twelve names, From between 1 and Seq. -/
structure GoodT (s : ShS) : Prop where
  cnt : Counts s.1 s.2
  named : ∀ k c, s.1 k = some c → k ∈ nameL ∧ c.f0 = k ∧ 1 ≤ c.f2 ∧ c.f2 ≤ c.f1
theorem GoodT.zero : GoodT (fun _ => none, 0) := ⟨Counts.zero, fun k c h => by cases h⟩
theorem GoodT.lay1G {s : ShS} (h : GoodT s) (i fr : Int) (h1 : 1 ≤ fr) (h2 : fr ≤ i) (x : Write) (hx : x.f0 ∈ nameL) : GoodT (lay1 i fr s x) := by
  unfold lay1
  split
  · refine ⟨h.cnt.delC _, fun k c hk => ?_⟩
    have hk' : (if k = x.f0 then none else s.1 k) = some c := hk
    split at hk'
    · cases hk'
    · exact h.named k c hk'
  · refine ⟨h.cnt.putC _ _, fun k c hk => ?_⟩
    have hk' : (if k = x.f0 then some (⟨x.f0, i, fr⟩ : Cell) else s.1 k) = some c := hk
    split at hk'
    · rename_i e
      subst e
      cases hk'
      exact ⟨hx, rfl, h1, h2⟩
    · exact h.named k c hk'
theorem GoodT.laysG {i fr : Int} (h1 : 1 ≤ fr) (h2 : fr ≤ i) : ∀ (ws : List Write) {s : ShS}, GoodT s → (∀ x ∈ ws, x.f0 ∈ nameL) → GoodT (lays i fr s ws)
  | [], s, h, _ => h
  | x :: ws, s, h, hx => GoodT.laysG h1 h2 ws (h.lay1G i fr h1 h2 x (hx x (by simp))) fun y hy => hx y (List.mem_cons_of_mem _ hy)
theorem GoodT.le {s : ShS} (h : GoodT s) : s.2 ≤ 12 := by
  have := h.cnt.le nameL fun k hk => by
    obtain ⟨c, hc⟩ := Option.isSome_iff_exists.1 hk
    exact (h.named k c hc).1
  simpa [nameL] using this
theorem GoodT.small {s : ShS} (h : GoodT s) (k : ByteArray) (hk : (s.1 k).isSome = true) : k.size ≤ 4 := by
  obtain ⟨c, hc⟩ := Option.isSome_iff_exists.1 hk
  exact name_size (h.named k c hc).1

theorem groupField : ∀ (a b c d : Value) (W : World), (Instr.field 74 (.agg #[a, b, c, d]) 3).run Tryd.prog W = .ok d W := by
  intro a b c d W
  have h := Tryd.underlying74
  simp [Instr.field, h, go_sem]
  rfl
theorem box_set1at {w2 : World} {B i : Nat} {cs : Array Value} {e : TypeId} (hbx : w2.heap[B]? = some (.cells cs e (0, 0))) (u : Value) : (w2.setCell ⟨B, i, none⟩ u).heap[B]? = some (.cells (cs.setIfInBounds i u) e (0, 0)) := (box_set1 (n := 0) hbx (Below.refl 0 w2) (Nat.zero_le _) u).1

set_option maxHeartbeats 8000000 in
set_option maxRecDepth 100000 in
theorem shelfTopLaw_any (A : Option Addr) (c : Nat) (l : List Step15) (seq : Int) (h0s : 0 ≤ seq) (w : World) (hN : Names w) (hC : Kd.C kStep15 w A l.length l) (hs : ∀ x ∈ l, okStep15 x) :
    Calls Tryd.prog 7 #[.slice A l.length c, .int .u32 seq] w fun e w' => e = .returned (.bool true) ∧ Below w.heap.size w w' := by
  have HC := Aside0.mk hC
  have HN := Aside0.mk hN
  have HS := Aside0.mk hs
  have hml := hC.2.1
  clear hC hs hN
  go_enter Tryd.func7, Tryd.ntmps7
  go_wp2_with fail
  refine (shelfNew_any w).mono ?_
  rintro e w1 ⟨rfl, hw1⟩
  have HA := Aside0.mk (shelfNew_is w)
  rw [← hw1] at HA
  have HB1 : Aside0 (Below w.heap.size w w1) := ⟨by rw [hw1]; exact ((Below.refl _ _).alloc (Nat.le_refl _) _).alloc (by simp) _⟩
  clear hw1
  go_wp2_with fail
  refine (alive15_any _).mono ?_
  rintro e w2 ⟨rfl, hb⟩
  have HA2 : Aside0 (ShelfIs w2 (w.heap.size + 1) w.heap.size 0 (fun _ => none)) := ⟨HA.out.below hb⟩
  have HB2 : Aside0 (Below w.heap.size w w2) := ⟨below_then HB1.out HB1.out.size hb⟩
  clear hb HA HB1
  go_wp2_with fail
  go_loopg [6] (min 20 l.length) (fun kq v6 w' => ∃ (i : Nat) (s : ShS), v6 = .int .i64 i ∧ Aside0 (i + kq = min 20 l.length) ∧ Aside0 (ShelfIs w' (w.heap.size + 1) w.heap.size s.2 s.1) ∧ Aside0 (GoodT s) ∧ Aside0 (Below w.heap.size w w'))
  case atStart => exact ⟨0, (fun _ => none, 0), rfl, ⟨by omega⟩, HA2, ⟨GoodT.zero⟩, HB2⟩
  case round =>
    obtain ⟨i, s, rfl, HK, HAr, HG, HB⟩ := hrel
    by_cases q : i < min 20 l.length
    · have q' : (i : Int) < (l.length : Int) := by omega
      have qm : (i : Int) < 20 := by omega
      have p1 : (0 : Int) ≤ (i : Int) := by omega
      obtain ⟨g1, rfl⟩ : ∃ g1, gk = g1 + 1 := ⟨gk - 1, by have := HK.out; omega⟩
      obtain ⟨ad, e, A3, c3, A4, c4, d0, d1, d2, d3, d4, d5, r3, r4⟩ := atStep15 HC.out (i : Int) p1 q'
      cases e
      rw [Int.toNat_natCast] at d0 d1 d2 d3 d4 d5
      have hil : i < l.length := by omega
      have HX : Aside0 (rdStep15 l (i : Int) = l[i]) := ⟨by rw [rdStep15_get (by simpa using hil)]; simp⟩
      have HOK : Aside0 (okStep15 (rdStep15 l (i : Int))) := ⟨by rw [HX.out]; exact HS.out _ (List.getElem_mem hil)⟩
      generalize rdStep15 l (i : Int) = x at *
      have hx1 := (bounds_u32 HOK.out.2.1).1
      have hx2 := (bounds_u32 HOK.out.2.2.1).1
      have HNW : Aside0 (∀ W, Below w.heap.size w W → GroupAt W x.f3 A3 c3 x.f4 A4 c4 ∧ Names W) := ⟨fun W hb => ⟨(GroupAt.mk r3.1 r3.2 r4.1 r4.2).below hb, HN.out.below hb HN.out.lt⟩⟩
      have HRS : Aside0 (∀ r ∈ x.f3, r.f2.size ≤ 4611686018427387904) := ⟨fun r hr => Nat.le_trans (HOK.out.2.2.2.1 r hr) (by decide)⟩
      replace d0 := pw_cell_below HB.out d0
      replace d1 := pw_cell_below HB.out d1
      replace d2 := pw_cell_below HB.out d2
      replace d3 := pw_cell_below HB.out d3
      replace d4 := pw_cell_below HB.out d4
      replace d5 := pw_cell_below HB.out d5
      clear r3 r4 HX
      obtain ⟨fr, hfr⟩ : ∃ fr : Int, Aside0 ((1 + x.f2 % ((i : Int) + 1)) % 4294967296 = fr ∧ 1 ≤ fr ∧ fr ≤ (i : Int) + 1) := by
        have e1 := Int.emod_nonneg x.f2 (show (i : Int) + 1 ≠ 0 by omega)
        have e2 := Int.emod_lt_of_pos x.f2 (show (0 : Int) < (i : Int) + 1 by omega)
        generalize x.f2 % ((i : Int) + 1) = m at *
        exact ⟨_, ⟨rfl, by omega, by omega⟩⟩
      go_upto_region 10 with fail
      rw [hfr.out.1]
      clear d0 d1 d2 d3 d4 d5
      obtain ⟨wB, hwB⟩ : ∃ wB, wB = wr.alloc (.cells #[.int .i64 x.f0, .int .u32 x.f1, .int .u32 fr, .slice A3 x.f3.length c3, .slice A4 x.f4.length c4, .bool false] 71) := ⟨_, rfl⟩
      have HBX : Aside0 (wB.heap[wr.heap.size]? = some (.cells #[.int .i64 x.f0, .int .u32 x.f1, .int .u32 fr, .slice A3 x.f3.length c3, .slice A4 x.f4.length c4, .bool false] 71 (0, 0))) := ⟨by rw [hwB]; exact heap_alloc_new _ _⟩
      have HBB : Aside0 (Below wr.heap.size wr wB) := ⟨by rw [hwB]; exact below_alloc (Below.refl _ _) _⟩
      rw [← hwB]
      clear hwB
      have HBw : Aside0 (Below w.heap.size w wB) := ⟨below_then HB.out HB.out.size HBB.out⟩
      have HAB : Aside0 (ShelfIs wB (w.heap.size + 1) w.heap.size s.2 s.1) := ⟨HAr.out.below HBB.out⟩
      have hlr : wr.heap.size < wB.heap.size := (Array.getElem?_eq_some_iff.1 HBX.out).1
      have HLR : Aside0 (w.heap.size < wr.heap.size) := ⟨by have := HAr.out.lt; omega⟩
      obtain ⟨b0, b1, b2, b3, b4, b5⟩ := sixCells HBX.out
      have HKP : Aside0 (∀ W, Below wB.heap.size wB W → W.cell? ⟨wr.heap.size, 0, none⟩ = some (.int .i64 x.f0) ∧ W.cell? ⟨wr.heap.size, 1, none⟩ = some (.int .u32 x.f1) ∧ W.cell? ⟨wr.heap.size, 2, none⟩ = some (.int .u32 fr) ∧ W.cell? ⟨wr.heap.size, 3, none⟩ = some (.slice A3 x.f3.length c3) ∧ W.cell? ⟨wr.heap.size, 4, none⟩ = some (.slice A4 x.f4.length c4) ∧ W.cell? ⟨wr.heap.size, 5, none⟩ = some (.bool false)) := ⟨fun W hb => sixCells (blkB HBX.out hb)⟩
      have hcur : Below wB.heap.size wB wB.drew := below_drew (Below.refl _ _)
      have hfld := groupField
      have hw1 : IntKind.i64.wrap ((i : Int) + 1) = (i : Int) + 1 := IntWalk.i64_in _ (by omega)
      have hw2 : IntKind.u32.wrap ((i : Int) + 1) = (i : Int) + 1 := by rw [IntKind.wrap_u32]; omega
      go_region_held3 (fun W => W.cell? ⟨wr.heap.size, 0, none⟩ = some (.int .i64 x.f0) ∧ W.cell? ⟨wr.heap.size, 1, none⟩ = some (.int .u32 x.f1) ∧ W.cell? ⟨wr.heap.size, 2, none⟩ = some (.int .u32 fr) ∧ W.cell? ⟨wr.heap.size, 3, none⟩ = some (.slice A3 x.f3.length c3) ∧ W.cell? ⟨wr.heap.size, 4, none⟩ = some (.slice A4 x.f4.length c4) ∧ W.cell? ⟨wr.heap.size, 5, none⟩ = some (.bool false))
        (first | exact ⟨b0, b1, b2, b3, b4, b5⟩ | exact HKP.out _ hcur | exact hkeep)
        (first | (go_at_call 46; refine (group_any x.f0 x.f1 fr x.f3 x.f4 false A3 c3 A4 c4 _ (HNW.out _ (below_then HBw.out HBw.out.size hcur)).2 (HNW.out _ (below_then HBw.out HBw.out.size hcur)).1 HRS.out).mono ?_; rintro e wk ⟨A5, c5, ws, rfl, hC5, hc5, hW, hbk⟩; replace hcur := below_then hcur hcur.size hbk; clear hbk) | (go_at_call 45; refine (shelfApply_any _ (w.heap.size + 1) w.heap.size s.2 s.1 ((i : Int) + 1) 0 fr _ _ ws hC5 (HAB.out.below hcur) ?mn ?ms).mono ?_; (case mn => have := HG.out.le; have := hW.len; simp only [maxLen]; omega); (case ms => intro y hy; exact Nat.le_trans (hW.small y hy) (by simp [maxLen])); rintro e wm ⟨rfl, ha, hg⟩; have hkeep := sixCells ((hg.block _ (Nat.lt_of_lt_of_le hlr hcur.size) (fun e => by injection e with e; have := HLR.out; omega)).trans (blkB HBX.out hcur))))
      have HF : Aside0 (ShelfIs wm (w.heap.size + 1) w.heap.size (lays ((i : Int) + 1) fr s ws).2 (lays ((i : Int) + 1) fr s ws).1 ∧ GoodT (lays ((i : Int) + 1) fr s ws) ∧ Below w.heap.size w wm) :=
        ⟨ha, GoodT.laysG hfr.out.2.1 hfr.out.2.2 ws HG.out (IsWrites.keys (show IsWrites x.f3 6 ws from hW)), (below_then HBw.out HBw.out.size hcur).grown hg (below_then HBw.out HBw.out.size hcur).size (fun k hk => by cases hk; exact Nat.le_refl _)⟩
      clear hfld hw1 hw2 ha hg hkeep hcur hC5 hc5 hW b0 b1 b2 b3 b4 b5
      go_wp2
      go_roundg g1
      case measure => omega
      case rel => exact ⟨i + 1, _, by go_num, ⟨by have := HK.out; omega⟩, ⟨HF.out.1⟩, ⟨HF.out.2.1⟩, ⟨HF.out.2.2⟩⟩
    · have hsplit : ¬ (i : Int) < (l.length : Int) ∨ ((i : Int) < (l.length : Int) ∧ ¬ (i : Int) < 20) := by omega
      have HSZ : Aside0 (∀ k, (s.1 k).isSome = true → k.size ≤ 1000000000) := ⟨fun k hk => Nat.le_trans (HG.out.small k hk) (by omega)⟩
      clear q
      rcases hsplit with q1 | ⟨q1, q2⟩
      all_goals
        go_wp2_with fail
        obtain ⟨sq, hsq⟩ : ∃ sq : Int, Aside0 (seq % 22 = sq ∧ 0 ≤ sq) := ⟨_, ⟨rfl, Int.emod_nonneg _ (by omega)⟩⟩
        rw [hsq.out.1]
        refine (shelfTop_any wr (w.heap.size + 1) w.heap.size s.2 s.1 sq HAr.out).mono ?_
        rintro e w3 ⟨⟨tp, rfl, ht⟩, hb⟩
        have HT := Aside0.mk ht
        have HA3 : Aside0 (ShelfIs w3 (w.heap.size + 1) w.heap.size s.2 s.1) := ⟨HAr.out.below hb⟩
        have HB3 : Aside0 (Below w.heap.size w w3) := ⟨below_then HB.out HB.out.size hb⟩
        clear ht hb
        go_wp2_with fail
        refine (shelfDrop_any w3 (w.heap.size + 1) w.heap.size s.2 s.1 sq tp HA3.out (by have := HG.out.le; omega) HSZ.out).mono ?_
        rintro e w4 ⟨v9, out, rfl, hR, hri, hm, hA, hg⟩
        obtain ⟨A9, c9, rfl⟩ := Kd.R_slice hR
        have HFK : Aside0 (∀ k c, (dropsC s out).1 k = some c → s.1 k = some c ∧ ¬ c.f1 ≤ sq ∧ ¬ c.f2 ≤ tp) := ⟨fun k c hc => by
          by_cases hmm : k ∈ out
          · rw [(dropsC_get out s k).1 hmm] at hc; cases hc
          · rw [(dropsC_get out s k).2 hmm] at hc
            have ho : outP sq tp c = false := by
              cases ho : outP sq tp c
              · rfl
              · exact absurd ((hm k).2 ⟨c, hc, ho⟩) hmm
            simp [outP] at ho
            exact ⟨hc, by omega, by omega⟩⟩
        have HA4 := Aside0.mk hA
        have HB4 : Aside0 (Below w.heap.size w w4) := ⟨HB3.out.grown hg HB3.out.size (fun k hk => by cases hk; exact Nat.le_refl _)⟩
        have HN4 : Aside0 (Names w4) := ⟨HN.out.below HB4.out HN.out.lt⟩
        clear hR hri hm hA hg HA3 HB3
        obtain ⟨f2, hf2⟩ : ∃ f2, Aside0 ((dropsC s out).1 = f2) := ⟨_, ⟨rfl⟩⟩
        obtain ⟨n2, hn2⟩ : ∃ n2, Aside0 ((dropsC s out).2 = n2) := ⟨_, ⟨rfl⟩⟩
        rw [hf2.out, hn2.out] at HA4
        rw [hf2.out] at HFK
        go_wp2
        go_loopg [9] 12 (fun kq v9 w' => ∃ (j : Nat), v9 = .int .i64 j ∧ Aside0 (j + kq = 12) ∧ Aside0 (ShelfIs w' (w.heap.size + 1) w.heap.size n2 f2) ∧ Aside0 (Below w.heap.size w w') ∧ Aside0 (Names w'))
        case atStart => exact ⟨0, rfl, ⟨rfl⟩, HA4, HB4, HN4⟩
        case round =>
          obtain ⟨j, rfl, HK3, HAj, HBj, HNj⟩ := hrel
          by_cases q : j < 12
          · have q' : (j : Int) < 12 := by omega
            obtain ⟨g1, rfl⟩ : ∃ g1, gk = g1 + 1 := ⟨gk - 1, by have := HK3.out; omega⟩
            go_wp2_with fail
            refine (handKey_any (j : Int) wr HNj.out).mono ?_
            rintro e w8 ⟨rfl, hb⟩
            have HKN : Aside0 ((keyN (j : Int)).size ≤ maxLen) := ⟨Nat.le_trans (name_size (keyN_mem _)) (by simp [maxLen])⟩
            obtain ⟨kk, hkk⟩ : ∃ kk, Aside0 (keyN (j : Int) = kk) := ⟨_, ⟨rfl⟩⟩
            rw [hkk.out] at HKN ⊢
            have HA8 : Aside0 (ShelfIs w8 (w.heap.size + 1) w.heap.size n2 f2) := ⟨HAj.out.below hb⟩
            have HB8 : Aside0 (Below w.heap.size w w8 ∧ Names w8) := ⟨below_then HBj.out HBj.out.size hb, HNj.out.below hb HNj.out.lt⟩
            clear hb HAj HBj HNj
            go_wp2_with fail
            refine (shelfGet_any w8 (w.heap.size + 1) w.heap.size _ _ kk HA8.out HKN.out).mono ?_
            rintro e w9 ⟨rfl, hb⟩
            have HA9 : Aside0 (ShelfIs w9 (w.heap.size + 1) w.heap.size n2 f2) := ⟨HA8.out.below hb⟩
            have HB9 : Aside0 (Below w.heap.size w w9 ∧ Names w9) := ⟨below_then HB8.out.1 HB8.out.1.size hb, HB8.out.2.below hb HB8.out.2.lt⟩
            clear hb HA8 HB8
            cases hf : f2 kk with
            | none =>
              clear hf
              rw [show eCell.enc ((none : Option Cell).getD zCell) = .agg #[.string ⟨#[]⟩, .int .u32 0, .int .u32 0] from rfl, show (none : Option Cell).isSome = false from rfl]
              go_wp2
              go_roundg g1
              case measure => omega
              case rel => exact ⟨j + 1, by first | go_num | rw [wsucc j (by omega)], ⟨by have := HK3.out; omega⟩, ⟨HA9.out.alloc _⟩, ⟨below_alloc HB9.out.1 _⟩, ⟨HB9.out.2.alloc _⟩⟩
            | some c1 =>
              obtain ⟨_, h1, h2⟩ := HFK.out kk c1 hf
              clear hf
              rw [show eCell.enc ((some c1 : Option Cell).getD zCell) = .agg #[.string c1.f0, .int .u32 c1.f1, .int .u32 c1.f2] from rfl, show (some c1 : Option Cell).isSome = true from rfl]
              go_wp2
              go_roundg g1
              case measure => omega
              case rel => exact ⟨j + 1, by first | go_num | rw [wsucc j (by omega)], ⟨by have := HK3.out; omega⟩, ⟨HA9.out.alloc _⟩, ⟨below_alloc HB9.out.1 _⟩, ⟨HB9.out.2.alloc _⟩⟩
          · obtain rfl : j = 12 := by have := HK3.out; omega
            have htop : tp ≤ sq := by
              obtain ⟨_, _, h3⟩ := HT.out
              rcases h3 with h3 | ⟨k, c, h4, h5, h6⟩
              · rw [h3]; exact hsq.out.2
              · have := HG.out.named k c h4
                omega
            go_wp2_with fail
            refine (shelfTop_any wr (w.heap.size + 1) w.heap.size n2 f2 sq HAj.out).mono ?_
            rintro e w10 ⟨⟨t0, rfl, ht⟩, hb⟩
            obtain rfl : t0 = 0 := by
              obtain ⟨_, _, h3⟩ := ht
              rcases h3 with h3 | ⟨k, c, h4, h5, _⟩
              · exact h3
              · have h9 := (HFK.out k c h4).2.1
                exact absurd h5 (by omega)
            have HB10 : Aside0 (Below w.heap.size w w10) := ⟨below_then HBj.out HBj.out.size hb⟩
            clear ht hb
            go_wp2
            go_ret
            exact ⟨rfl, HB10.out⟩
end Go.Proofs.YtmionoghpjpbaaaDoor
