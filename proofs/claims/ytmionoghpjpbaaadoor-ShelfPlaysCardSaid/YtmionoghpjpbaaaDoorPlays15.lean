/-
  The law ShelfPlays: it returns true.
-/
import Derived.Test.YtmionoghpjpbaaaDoorRefApply
import Derived.Deep.CutBlock
import Derived.Deep.DeepCutAuto
import Derived.Deep.RegionWith
namespace Go.Proofs.YtmionoghpjpbaaaDoor
section
open Go.RowKit Go.Proofs.YtmionoghpjpbaaaDoorW.PrintWords Go.Proofs.YtmionoghpjpbaaaDoorW.PrintLast Go.Proofs.YtmionoghpjpbaaaDoorW.PrintMore
open Go.Proofs.YtmionoghpjpbaaaDoorM
set_option linter.unusedVariables false
set_option linter.unusedSimpArgs false
attribute [local go_sem ↓] Go.wp_at_zero Go.wp_at_succ
attribute [local go_sem high] eqvCell

/-! ### plain -/
/-- The two shelves say the same. -/
structure BothS (f : ByteArray → Option Cell) (n : Nat) (L : List Cell) (i : Nat) : Prop where
  lists : Lists keyC f L
  cnt : Counts f n
  l_le : L.length ≤ 12 * i
  small : ∀ a ∈ L, a.f0.size ≤ 1000000000
theorem BothS.num {f : ByteArray → Option Cell} {n : Nat} {L : List Cell} {i : Nat} (h : BothS f n L i) : n = L.length := by
  have := h.cnt.eq (L.map keyC) h.lists.nodup (fun k => h.lists.mem k)
  simpa using this
theorem BothS.key {f : ByteArray → Option Cell} {n : Nat} {L : List Cell} {i : Nat} (h : BothS f n L i) (s : ByteArray) (hs : (f s).isSome = true) : s.size ≤ 1000000000 := by
  obtain ⟨c, hc⟩ := Option.isSome_iff_exists.1 hs
  obtain ⟨h1, h2⟩ := (h.lists.get s c).1 hc
  rw [← h2]
  exact h.small c h1
theorem BothS.more {f : ByteArray → Option Cell} {n : Nat} {L : List Cell} {i : Nat} (h : BothS f n L i) : BothS f n L (i + 1) := ⟨h.lists, h.cnt, by have := h.l_le; omega, h.small⟩
theorem counts_drops : ∀ (out : List ByteArray) (s : ShS), Counts s.1 s.2 → Counts (dropsC s out).1 (dropsC s out).2
  | [], s, h => h
  | x :: out, s, h => counts_drops out (del s.1 x, delN s.1 x s.2) (h.delC x)
theorem counts_lays {seq fr : Int} : ∀ (ws : List Write) (s : ShS), Counts s.1 s.2 → Counts (lays seq fr s ws).1 (lays seq fr s ws).2
  | [], s, h => h
  | x :: ws, s, h => counts_lays ws (lay1 seq fr s x) (by
      unfold lay1
      split
      · exact h.delC _
      · exact h.putC _ _)
theorem lists_drop {f : ByteArray → Option Cell} {n : Nat} {L : List Cell} (h : Lists keyC f L) (a b : Int) : Lists keyC (dropsC (f, n) (goneL a b L)).1 (keptL a b L) := by
  refine ⟨List.Pairwise.sublist ((List.filter_sublist).map keyC) h.rises, fun k c => ?_⟩
  have hg := dropsC_get (goneL a b L) (f, n) k
  have hm : k ∈ goneL a b L ↔ ∃ d, f k = some d ∧ outP a b d = true := by
    unfold goneL
    rw [List.mem_map]
    constructor
    · rintro ⟨d, h1, h2⟩
      obtain ⟨h3, h4⟩ := List.mem_filter.1 h1
      exact ⟨d, (h.get k d).2 ⟨h3, h2⟩, h4⟩
    · rintro ⟨d, h1, h2⟩
      obtain ⟨h3, h4⟩ := (h.get k d).1 h1
      exact ⟨d, List.mem_filter.2 ⟨h3, h2⟩, h4⟩
  unfold keptL
  rw [List.mem_filter]
  constructor
  · intro hc
    by_cases hk : k ∈ goneL a b L
    · rw [hg.1 hk] at hc; cases hc
    · rw [hg.2 hk] at hc
      obtain ⟨h1, h2⟩ := (h.get k c).1 hc
      refine ⟨⟨h1, ?_⟩, h2⟩
      cases ho : outP a b c
      · rfl
      · exact absurd (hm.2 ⟨c, hc, ho⟩) hk
  · rintro ⟨⟨h1, h2⟩, h3⟩
    have hc := (h.get k c).2 ⟨h1, h3⟩
    have hk : ¬ k ∈ goneL a b L := fun hk => by
      obtain ⟨d, h4, h5⟩ := hm.1 hk
      rw [hc] at h4
      cases h4
      rw [h5] at h2
      cases h2
    rw [hg.2 hk]
    exact hc
theorem BothS.drop {f : ByteArray → Option Cell} {n : Nat} {L : List Cell} {i : Nat} (h : BothS f n L i) (a b : Int) : BothS (dropsC (f, n) (goneL a b L)).1 (dropsC (f, n) (goneL a b L)).2 (keptL a b L) (i + 1) :=
  ⟨lists_drop h.lists a b, counts_drops _ (f, n) h.cnt, by have := keptL_le a b L; have := h.l_le; omega, fun c hc => h.small c (List.mem_filter.1 hc).1⟩
theorem sixFree {W : World} {B : Nat} {a b c d e f : Value} {t : TypeId} (h : W.heap[B]? = some (.cells #[a, b, c, d, e, f] t (0, 0))) : W.frozen? ⟨B, 1, none⟩ = false ∧ W.frozen? ⟨B, 2, none⟩ = false := by
  constructor <;> simp [World.frozen?, h]
theorem handKey_ex (n : Int) (w : World) (h : Names w) : Calls Tryd.prog 37 #[.int .i64 n] w fun e w' => ∃ key, e = .returned (.string key) ∧ key ∈ nameL ∧ Below w.heap.size w w' :=
  (handKey_any n w h).mono fun e w' h => ⟨_, h.1, keyN_mem n, h.2⟩
theorem groupFieldR : ∀ (a b c d : Value) (W : World), (Instr.field 74 (.agg #[a, b, c, d]) 3).run Tryd.prog W = .ok d W := by
  intro a b c d W
  have h := Tryd.underlying74
  simp [Instr.field, h, go_sem]
  rfl
/-- What a call leaves. -/
def RunOf (w0 : World) (g b gr i : Nat) (e : Ending) (w' : World) : Prop :=
  ∃ f n L, e = .returned (.bool true) ∧ ShelfIs w' g b n f ∧ RefSIs w' gr L ∧ BothS f n L (i + 1) ∧ Below w0.heap.size w0 w'

set_option maxHeartbeats 16000000 in
set_option maxRecDepth 100000 in
theorem run_any (w0 w : World) (g b gr i : Nat) (f : ByteArray → Option Cell) (n : Nat) (L : List Cell) (x0 x1 x2 : Int) (f3 : List Raw) (f4 : List Write) (r : Bool) (A3 : Option Addr) (c3 : Nat) (A4 : Option Addr) (c4 : Nat)
    (hb0 : Below w0.heap.size w0 w) (hgb : w0.heap.size ≤ b) (hgr : w0.heap.size ≤ gr) (hne : g ≠ gr ∧ b ≠ gr) (hS : ShelfIs w g b n f) (hR : RefSIs w gr L) (hBS : BothS f n L i) (hi : i ≤ 100)
    (hNW : ∀ W, Below w0.heap.size w0 W → GroupAt W f3 A3 c3 f4 A4 c4 ∧ Names W) (hs : ∀ r ∈ f3, r.f2.size ≤ 4611686018427387904) :
    Calls Tryd.prog 47 #[.pointer (some ⟨g, 0, none⟩), .pointer (some ⟨gr, 0, none⟩), .agg (sixS x0 x1 x2 A3 f3.length c3 A4 f4.length c4 r)] w (RunOf w0 g b gr i) := by
  unfold sixS
  have HNUM : Aside0 (g < w.heap.size ∧ b < w.heap.size ∧ gr < w.heap.size ∧ w0.heap.size ≤ b ∧ w0.heap.size ≤ gr ∧ g ≠ gr ∧ b ≠ gr ∧ w0.heap.size ≤ w.heap.size) := ⟨hS.lt, hS.2.lt, hR.lt, hgb, hgr, hne.1, hne.2, hb0.size⟩
  have HSR : Aside0 (∀ W, Below w.heap.size w W → ShelfIs W g b n f ∧ RefSIs W gr L ∧ Below w0.heap.size w0 W) := ⟨fun W hb => ⟨hS.below hb, hR.below hb, below_then hb0 hb0.size hb⟩⟩
  have HBS := Aside0.mk hBS
  have HNW := Aside0.mk hNW
  have HS := Aside0.mk hs
  have HLL : Aside0 (L.length ≤ 100000 ∧ n ≤ 100000) := ⟨by have := hBS.l_le; omega, by have := hBS.num; have := hBS.l_le; omega⟩
  obtain ⟨B, hB⟩ : ∃ B, Aside0 (w.heap.size = B) := ⟨_, ⟨rfl⟩⟩
  clear hb0 hgb hgr hne hS hR hBS hi hNW hs
  go_enter Tryd.func47, Tryd.ntmps47
  go_upto_if 14 with fail
  rw [hB.out]
  obtain ⟨wB, hwB⟩ : ∃ wB, wB = w.alloc (.cells #[.int .i64 x0, .int .u32 x1, .int .u32 x2, .slice A3 f3.length c3, .slice A4 f4.length c4, .bool r] 71) := ⟨_, rfl⟩
  have HX0 : Aside0 (wB.heap[B]? = some (.cells #[.int .i64 x0, .int .u32 x1, .int .u32 x2, .slice A3 f3.length c3, .slice A4 f4.length c4, .bool r] 71 (0, 0))) := ⟨by rw [hwB, ← hB.out]; exact heap_alloc_new _ _⟩
  have HB0 : Aside0 (Below w.heap.size w wB) := ⟨by rw [hwB]; exact below_alloc (Below.refl _ _) _⟩
  rw [← hwB]
  clear hwB
  have HBN : Aside0 (g < B ∧ b < B ∧ gr < B ∧ w.heap.size ≤ B) := ⟨by have := HNUM.out; have := hB.out; omega⟩
  go_cut [] (fun wx => ∃ a1 a2 : Int, Aside0 (wx.heap[B]? = some (.cells #[.int .i64 x0, .int .u32 a1, .int .u32 a2, .slice A3 f3.length c3, .slice A4 f4.length c4, .bool r] 71 (0, 0))) ∧ Aside0 (Below w.heap.size w wx))
  case first =>
    obtain ⟨b0, b1, b2, b3, b4, b5⟩ := sixCells HX0.out
    obtain ⟨z1, z2⟩ := sixFree HX0.out
    cases r
    · go_wp2
      go_meet
      obtain ⟨h1, h2⟩ := box_set1 (i := 1) HX0.out HB0.out HBN.out.2.2.2 (.int .u32 (x1.tmod 20))
      obtain ⟨h3, h4⟩ := box_set1 (i := 2) h1 h2 HBN.out.2.2.2 (.int .u32 (x2.tmod 20))
      exact ⟨_, _, ⟨h3⟩, ⟨h4⟩⟩
    · go_wp2
      go_meet
      exact ⟨_, _, HX0, HB0⟩
  case rest =>
    obtain ⟨a1, a2, HX1, HB1⟩ := hcut
    obtain ⟨b0, b1, b2, b3, b4, b5⟩ := sixCells HX1.out
    have hlB : B < wc.heap.size := (Array.getElem?_eq_some_iff.1 HX1.out).1
    go_wp2_with fail
    refine (handKey_ex _ wc (HNW.out _ (HSR.out _ HB1.out).2.2).2).mono ?_
    rintro e w2 ⟨key, rfl, hkey, hb⟩
    have HKEY : Aside0 (key.size ≤ maxLen) := ⟨Nat.le_trans (name_size hkey) (by simp [maxLen])⟩
    have HX2 := Aside0.mk (blkB HX1.out hb)
    have HB2 : Aside0 (Below w.heap.size w w2) := ⟨below_then HB1.out HB1.out.size hb⟩
    have hl2 : B < w2.heap.size := (Array.getElem?_eq_some_iff.1 HX2.out).1
    clear hb hkey b0 b1 b2 b3 b4 b5
    obtain ⟨b0, b1, b2, b3, b4, b5⟩ := sixCells HX2.out
    obtain ⟨p, hp0, hp9, hpick⟩ : ∃ p : Int, 0 ≤ p ∧ p < 9 ∧ Aside0 (Pr.cachepotbook_Pick.f x0 9 = some p) := by
      obtain ⟨p, h1, h2, h3⟩ := pickB x0 9 (by omega) (by omega)
      exact ⟨p, h1, h2, ⟨h3⟩⟩
    go_wp2_with fail
    refine (Pr.cachepotbook_Pick.calls x0 9 p _ hpick.out).mono ?_
    rintro e w3 ⟨rfl, hd⟩
    have hb := hd.below
    have HX3 := Aside0.mk (blkB HX2.out hb)
    have HB3 : Aside0 (Below w.heap.size w w3) := ⟨below_then HB2.out HB2.out.size hb⟩
    have hl3 : B < w3.heap.size := (Array.getElem?_eq_some_iff.1 HX3.out).1
    clear hb hd b0 b1 b2 b3 b4 b5 hl2 hlB HX1 HX2 HB1 HB2 HX0 HB0
    obtain ⟨b0, b1, b2, b3, b4, b5⟩ := sixCells HX3.out
    have hsp : p = 5 ∨ p = 6 ∨ p = 7 ∨ p = 8 ∨ (¬ p = 5 ∧ ¬ p = 6 ∧ ¬ p = 7 ∧ ¬ p = 8) := by omega
    rcases hsp with h | h | h | h | ⟨h5, h6, h7, h8⟩
    · subst h
      clear hp0 hp9
      go_upto_if 35 with fail
      go_cut [] (fun wx => ∃ a1 a2 : Int, Aside0 (wx.heap[B]? = some (.cells #[.int .i64 x0, .int .u32 a1, .int .u32 a2, .slice A3 f3.length c3, .slice A4 f4.length c4, .bool r] 71 (0, 0))) ∧ Aside0 (Below w.heap.size w wx))
      case first =>
        obtain ⟨z1, z2⟩ := sixFree HX3.out
        cases r
        · go_wp2
          go_meet
          obtain ⟨h1, h2⟩ := box_set1 (i := 1) HX3.out HB3.out HBN.out.2.2.2 (.int .u32 (a1.tmod 5))
          obtain ⟨h3, h4⟩ := box_set1 (i := 2) h1 h2 HBN.out.2.2.2 (.int .u32 (a2.tmod 5))
          exact ⟨_, _, ⟨h3⟩, ⟨h4⟩⟩
        · go_wp2
          go_meet
          exact ⟨_, _, HX3, HB3⟩
      case rest =>
        clear b0 b1 b2 b3 b4 b5 hl3 HX3 HB3 a1 a2
        obtain ⟨a1, a2, HX1, HB1⟩ := hcut
        have hbx := HX1.out
        have hlB : B < wc.heap.size := (Array.getElem?_eq_some_iff.1 hbx).1
        obtain ⟨b0, b1, b2, b3, b4, b5⟩ := sixCells HX1.out
        obtain ⟨hSh, hRs, hB0⟩ := HSR.out wc.drew (below_drew HB1.out)
        have hBw : w.heap.size ≤ wc.heap.size := HB1.out.size
        obtain ⟨KD, hKD⟩ : ∃ KD, Aside0 (goneL a1 a2 L = KD) := ⟨_, ⟨rfl⟩⟩
        have HKD : Aside0 (KD.length ≤ 1000000000) := ⟨by rw [← hKD.out]; have := goneL_le a1 a2 L; have := HLL.out; omega⟩
        have HGL : Aside0 (∀ out, Rises out → (∀ s, s ∈ out ↔ ∃ c, f s = some c ∧ outP a1 a2 c = true) → out = KD) := ⟨fun out h1 h2 => by rw [← hKD.out]; exact HBS.out.lists.keysL h1 h2⟩
        go_wp2_with fail
        go_region_held3 (fun W => W.cell? ⟨B, 1, none⟩ = some (.int .u32 a1) ∧ W.cell? ⟨B, 2, none⟩ = some (.int .u32 a2))
          (first | exact ⟨b1, b2⟩ | exact ⟨(sixCells hbx).2.1, (sixCells hbx).2.2.1⟩)
          (first
            | (go_at_call 41; refine (shelfDrop_any _ g b n f a1 a2 hSh (by have := HLL.out; omega) HBS.out.key).mono ?_; rintro e wd ⟨vd, outd, rfl, hRd, hrid, hmd, hAd, hgd⟩; have hod := HGL.out outd hrid hmd; rw [hod] at hRd hAd; obtain ⟨Ad, cd, rfl, hcd, hCd⟩ := Kd.R_reads hRd; replace hRd := Kd.R_lower hRd hBw; replace hbx := (hgd.block B hlB (fun e => by injection e with e; have := HBN.out; omega)).trans hbx; replace hRs := hRs.map hSh.2 hgd; (try replace hCe := C_cells hCe (fun _ _ hc => MapIs_cell hSh.2 hgd hc) (fun _ _ h => h)); replace hB0 := hB0.grown hgd hB0.size (fun k hk => by cases hk; have := HNUM.out; omega); replace hBw := Nat.le_trans hBw hgd.size; replace hlB := Nat.lt_of_lt_of_le hlB hgd.size; clear hSh; have hSh := hAd; clear hAd hrid hmd hgd)
            | (go_at_call 87; refine (refSDrop_any _ gr L a1 a2 hRs (by have := HLL.out; omega)).mono ?_; rintro e we ⟨ve, rfl, hRe, hre, hge⟩; rw [hKD.out] at hRe; obtain ⟨Ae, ce, rfl, hce, hCe⟩ := Kd.R_reads hRe; replace hbx := (hge.block B hlB (fun e => by injection e with e; have := HBN.out; omega)).trans hbx; replace hSh := hSh.kept hge (fun e => by injection e with e; have := HNUM.out; omega) (fun e => by injection e with e; have := HNUM.out; omega); (try replace hCd := (Kd.R_reads' (Kd.R_grown (Kd.R_bound hRd) hge (fun k hk e => by cases e; have := hk.2.1; have := HNUM.out; omega))).2.2); replace hB0 := hB0.grown hge hB0.size (fun k hk => by cases hk; have := HNUM.out; omega); replace hBw := Nat.le_trans hBw hge.size; replace hlB := Nat.lt_of_lt_of_le hlB hge.size; clear hRs; have hRs := hre; clear hre hge hRe)
            | (go_at_call 29; refine (sameTexts_any _ _ _ _ KD _ hCd hcd hCe hce HKD.out).mono ?_; rintro e wz ⟨rfl, hbz⟩; replace hSh := hSh.below hbz; replace hRs := hRs.below hbz; replace hB0 := below_then hB0 hB0.size hbz; replace hbx := blkB hbx hbz))
        all_goals go_wp2_with fail
        all_goals
          go_ret
          refine ⟨_, _, _, rfl, hSh, hRs, ?_, hB0⟩
          rw [← hKD.out]
          exact HBS.out.drop a1 a2
    · subst h
      clear hp0 hp9
      obtain ⟨hSh, hRs, hB0⟩ := HSR.out w3 HB3.out
      go_wp2_with fail
      refine (shelfGet_any _ g b n f key hSh HKEY.out).mono ?_
      rintro e w4 ⟨rfl, hb⟩
      replace hSh := hSh.below hb
      replace hRs := hRs.below hb
      replace hB0 := below_then hB0 hB0.size hb
      clear hb b0 b1 b2 b3 b4 b5 HX3 HB3
      have HSh := Aside0.mk hSh
      have HRs := Aside0.mk hRs
      have HB4 := Aside0.mk hB0
      clear hSh hRs hB0
      obtain ⟨c, hc⟩ : ∃ c, Aside0 ((f key).getD zCell = c) := ⟨_, ⟨rfl⟩⟩
      obtain ⟨q, hq⟩ : ∃ q, Aside0 ((f key).isSome = q) := ⟨_, ⟨rfl⟩⟩
      rw [hc.out, hq.out]
      unfold eCell
      go_wp2_with fail
      refine (refSGet_any _ gr L f key (HRs.out.alloc _) HBS.out.lists (by have := HLL.out; omega)).mono ?_
      rintro e w5 ⟨rfl, hb⟩
      have HB5 : Aside0 (Below w4.heap.size w4 w5) := ⟨below_then (below_alloc (Below.refl _ _) _) (by simp) hb⟩
      have HQ8 := Aside0.mk (blkB (heap_alloc_new _ _) hb)
      obtain ⟨d0, d1, d2⟩ : w5.cell? ⟨w4.heap.size, 0, none⟩ = some (.string c.f0) ∧ w5.cell? ⟨w4.heap.size, 1, none⟩ = some (.int .u32 c.f1) ∧ w5.cell? ⟨w4.heap.size, 2, none⟩ = some (.int .u32 c.f2) := by
        have h8 := HQ8.out
        refine ⟨?_, ?_, ?_⟩ <;> simp [World.cell?, h8]
      have hl5 : w4.heap.size < w5.heap.size := (Array.getElem?_eq_some_iff.1 HQ8.out).1
      clear hb
      rw [hc.out, hq.out]
      unfold eCell
      go_wp2_with fail
      go_ret
      have hbA : Below w4.heap.size w4 (w5.alloc (.cells #[.string c.f0, .int .u32 c.f1, .int .u32 c.f2] 57)) := below_alloc HB5.out _
      exact ⟨_, _, _, rfl, HSh.out.below hbA, HRs.out.below hbA, HBS.out.more, below_then HB4.out HB4.out.size hbA⟩
    · subst h
      clear hp0 hp9
      have hlB : B < w3.heap.size := hl3
      have hbx : w3.drew.heap[B]? = some (.cells #[.int .i64 x0, .int .u32 a1, .int .u32 a2, .slice A3 f3.length c3, .slice A4 f4.length c4, .bool r] 71 (0, 0)) := HX3.out
      obtain ⟨hSh, hRs, hB0⟩ := HSR.out w3.drew (below_drew HB3.out)
      have hBw : w.heap.size ≤ w3.heap.size := HB3.out.size
      obtain ⟨KD, hKD⟩ : ∃ KD, Aside0 (liveL a1 L = KD) := ⟨_, ⟨rfl⟩⟩
      have HKD : Aside0 (KD.length ≤ 1000000000) := ⟨by rw [← hKD.out]; have := List.length_filter_le (fun c : Cell => c.f1 == a1) L; have := HLL.out; simp only [liveL, List.length_map]; omega⟩
      have HGL : Aside0 (∀ out, Rises out → (∀ s, s ∈ out ↔ ∃ c, f s = some c ∧ (fun c : Cell => c.f1 == a1) c = true) → out = KD) := ⟨fun out h1 h2 => by rw [← hKD.out]; exact HBS.out.lists.keysL h1 h2⟩
      go_wp2_with fail
      go_region_held3 (fun W => W.cell? ⟨B, 1, none⟩ = some (.int .u32 a1) ∧ W.cell? ⟨B, 2, none⟩ = some (.int .u32 a2))
        (first | exact ⟨b1, b2⟩ | exact ⟨(sixCells hbx).2.1, (sixCells hbx).2.2.1⟩)
        (first
          | (go_at_call 40; refine (shelfLive_any _ g b n f a1 hSh (by have := HLL.out; omega) HBS.out.key).mono ?_; rintro e wd ⟨vd, outd, rfl, hRd, hrid, hmd, hbd⟩; have hod := HGL.out outd hrid hmd; rw [hod] at hRd; obtain ⟨Ad, cd, rfl, hcd, hCd⟩ := Kd.R_reads hRd; clear hRd; (try replace hCe := Kd.C_below hCe hbd); replace hSh := hSh.below hbd; replace hRs := hRs.below hbd; replace hB0 := below_then hB0 hB0.size hbd; replace hbx := blkB hbx hbd)
          | (go_at_call 89; refine (refSLive_any _ gr L a1 hRs (by have := HLL.out; omega)).mono ?_; rintro e we ⟨ve, rfl, hRe, hbe⟩; rw [hKD.out] at hRe; obtain ⟨Ae, ce, rfl, hce, hCe⟩ := Kd.R_reads hRe; clear hRe; (try replace hCd := Kd.C_below hCd hbe); replace hSh := hSh.below hbe; replace hRs := hRs.below hbe; replace hB0 := below_then hB0 hB0.size hbe; replace hbx := blkB hbx hbe)
          | (go_at_call 29; refine (sameTexts_any _ _ _ _ KD _ hCd hcd hCe hce HKD.out).mono ?_; rintro e wz ⟨rfl, hbz⟩; replace hSh := hSh.below hbz; replace hRs := hRs.below hbz; replace hB0 := below_then hB0 hB0.size hbz; replace hbx := blkB hbx hbz))
      all_goals go_wp2_with fail
      all_goals
        go_ret
        exact ⟨_, _, _, rfl, hSh, hRs, HBS.out.more, hB0⟩
    · subst h
      clear hp0 hp9
      have hlB : B < w3.heap.size := hl3
      have hbx : w3.drew.heap[B]? = some (.cells #[.int .i64 x0, .int .u32 a1, .int .u32 a2, .slice A3 f3.length c3, .slice A4 f4.length c4, .bool r] 71 (0, 0)) := HX3.out
      obtain ⟨hSh, hRs, hB0⟩ := HSR.out w3.drew (below_drew HB3.out)
      go_wp2_with fail
      go_region_held3 (fun W => W.cell? ⟨B, 1, none⟩ = some (.int .u32 a1) ∧ W.cell? ⟨B, 2, none⟩ = some (.int .u32 a2))
        (first | exact ⟨b1, b2⟩ | exact ⟨(sixCells hbx).2.1, (sixCells hbx).2.2.1⟩)
        (first
          | (go_at_call 43; refine (shelfTop_any _ g b n f a1 hSh).mono ?_; rintro e wd ⟨⟨td, rfl, htd⟩, hbd⟩; (try replace hte := IsTopR.unique HBS.out.lists htd hte; subst hte); replace hSh := hSh.below hbd; replace hRs := hRs.below hbd; replace hB0 := below_then hB0 hB0.size hbd; replace hbx := blkB hbx hbd)
          | (go_at_call 90; refine (refSTop_any _ gr L a1 hRs (by have := HLL.out; omega)).mono ?_; rintro e we ⟨⟨te, rfl, hte⟩, rfl⟩; (try replace hte := IsTopR.unique HBS.out.lists htd hte; subst hte)))
      all_goals go_wp2_with fail
      all_goals
        go_ret
        exact ⟨_, _, _, rfl, hSh, hRs, HBS.out.more, hB0⟩
    · have hfld := groupFieldR
      obtain ⟨hSh, hRs, hB0⟩ := HSR.out w3 HB3.out
      have HSh := Aside0.mk hSh
      have HRs := Aside0.mk hRs
      have HB4 := Aside0.mk hB0
      clear hSh hRs hB0
      go_wp2_with fail
      refine (group_any x0 a1 a2 f3 f4 r A3 c3 A4 c4 _ (HNW.out _ HB4.out).2 (HNW.out _ HB4.out).1 HS.out).mono ?_
      rintro e w4 ⟨A5, c5, ws, rfl, hC5, hc5, hW5, hb, hfar⟩
      have HX4 := Aside0.mk (blkB HX3.out hb)
      replace HSh := Aside0.mk (HSh.out.below hb)
      replace HRs := Aside0.mk (HRs.out.below hb)
      replace HB4 := Aside0.mk (below_then HB4.out HB4.out.size hb)
      have hl4 : B < w4.heap.size := (Array.getElem?_eq_some_iff.1 HX4.out).1
      clear hb hfar b0 b1 b2 b3 b4 b5
      have HWS := Aside0.mk hW5
      have HC5 := Aside0.mk hC5
      clear hW5 hC5 hc5
      go_wp2_with fail
      refine (shelfApply_any _ g b n f a1 0 a2 _ _ ws HC5.out HSh.out ?mn ?ms).mono ?_
      case mn => have := HWS.out.len; have := HLL.out; simp only [maxLen]; omega
      case ms => intro y hy; exact Nat.le_trans (HWS.out.small y hy) (by simp [maxLen])
      rintro e w5 ⟨rfl, ha, hg⟩
      have HX5 := Aside0.mk ((hg.block _ hl4 (fun e => by injection e with e; have := HBN.out; omega)).trans HX4.out)
      have HSh5 := Aside0.mk ha
      have HRs5 := Aside0.mk (HRs.out.map HSh.out.2 hg)
      have HB5 := Aside0.mk (HB4.out.grown hg HB4.out.size (fun k hk => by cases hk; have := HNUM.out; omega))
      have hl5 : B < w5.heap.size := (Array.getElem?_eq_some_iff.1 HX5.out).1
      clear ha hg HX4 HX3 HC5
      obtain ⟨b0, b1, b2, b3, b4, b5⟩ := sixCells HX5.out
      go_wp2_with fail
      refine (group_any x0 a1 a2 f3 f4 r A3 c3 A4 c4 _ (HNW.out _ HB5.out).2 (HNW.out _ HB5.out).1 HS.out).mono ?_
      rintro e w6 ⟨A6, c6, ws6, rfl, hC6, hc6, hW6, hb, hfar⟩
      obtain rfl : ws = ws6 := HWS.out.unique hW6
      have HSh6 := Aside0.mk (HSh5.out.below hb)
      have HRs6 := Aside0.mk (HRs5.out.below hb)
      have HB6 := Aside0.mk (below_then HB5.out HB5.out.size hb)
      have HC6 := Aside0.mk hC6
      have HA6 : Aside0 (∀ ad, A6 = some ad → ad.block ≠ gr) := ⟨fun ad e => by have := hfar ad e; have := HBN.out; omega⟩
      clear hb hfar hW6 hC6 hc6 b0 b1 b2 b3 b4 b5
      go_wp2_with fail
      refine (refApply_any _ gr L f n a1 0 a2 _ _ ws HC6.out HA6.out HRs6.out HBS.out.lists ?hl ?hs HBS.out.small).mono ?_
      case hl => have := HWS.out.len; have := HLL.out; omega
      case hs => intro y hy; exact Nat.le_trans (HWS.out.small y hy) (by omega)
      rintro e w7 ⟨L', rfl, hr, hL', hlen, hsm, hg⟩
      have hSh7 := HSh6.out.kept hg (fun e => by injection e with e; have := HNUM.out; omega) (fun e => by injection e with e; have := HNUM.out; omega)
      have hB7 := HB6.out.grown hg HB6.out.size (fun k hk => by cases hk; have := HNUM.out; omega)
      go_wp2
      go_ret
      exact ⟨_, _, L', rfl, hSh7, hr, ⟨hL', counts_lays ws (f, n) HBS.out.cnt, by have := HWS.out.len; have := HBS.out.l_le; omega, hsm⟩, hB7⟩
end
section
open Go.RowKit Go.Proofs.YtmionoghpjpbaaaDoorW.PrintWords Go.Proofs.YtmionoghpjpbaaaDoorW.PrintLast Go.Proofs.YtmionoghpjpbaaaDoorW.PrintMore
open Go.Proofs.YtmionoghpjpbaaaDoorM
set_option linter.unusedVariables false
set_option linter.unusedSimpArgs false
attribute [local go_sem ↓] Go.wp_at_zero Go.wp_at_succ

theorem BothS.zero : BothS (fun _ => none) 0 [] 0 := ⟨Lists.nil _, Counts.zero, by simp, by simp⟩
theorem BothS.keys {f : ByteArray → Option Cell} {n : Nat} {L : List Cell} {i : Nat} (h : BothS f n L i) {out : List ByteArray} (hr : Rises out) (hm : ∀ s, s ∈ out ↔ ∃ c, f s = some c ∧ (fun _ => true) c = true) : out = L.map Pr.S57.f0 := by
  have := h.lists.keysL (p := fun _ => true) hr hm
  rwa [show L.filter (fun _ => true) = L by simp] at this
theorem RefSIs.cell {w : World} {g : Nat} {L : List Cell} (h : RefSIs w g L) : ∃ A c, w.cell? ⟨g, 0, none⟩ = some (.slice A L.length c) := by
  obtain ⟨A, c, h1, _⟩ := h
  exact ⟨A, c, by simp [World.cell?, h1]⟩

set_option maxHeartbeats 16000000 in
set_option maxRecDepth 100000 in
theorem shelfPlays_any (A : Option Addr) (c : Nat) (l : List Step15) (w : World) (hN : Names w) (hC : Kd.C kStep15 w A l.length l) (hs : ∀ x ∈ l, okStep15 x) :
    Calls Tryd.prog 8 #[.slice A l.length c] w fun e w' => e = .returned (.bool true) ∧ Below w.heap.size w w' := by
  have HC := Aside0.mk hC
  have HN := Aside0.mk hN
  have HS := Aside0.mk hs
  have hml := hC.2.1
  clear hC hs hN
  go_enter Tryd.func8, Tryd.ntmps8
  go_wp2_with fail
  refine (shelfNew_any w).mono ?_
  rintro e w1 ⟨rfl, hw1⟩
  have HA := Aside0.mk (shelfNew_is w)
  rw [← hw1] at HA
  have HB1 : Aside0 (Below w.heap.size w w1) := ⟨by rw [hw1]; exact ((Below.refl _ _).alloc (Nat.le_refl _) _).alloc (by simp) _⟩
  clear hw1
  go_wp2_with fail
  refine (alive15_any _).mono ?_
  rintro e w2 ⟨rfl, hb⟩
  have HA2 : Aside0 (ShelfIs w2 (w.heap.size + 1) w.heap.size 0 (fun _ => none)) := ⟨HA.out.below hb⟩
  have HB2 : Aside0 (Below w.heap.size w w2) := ⟨below_then HB1.out HB1.out.size hb⟩
  have HR2 := Aside0.mk (refSNew_is w2)
  have HGR : Aside0 (w.heap.size + 1 < w2.heap.size) := ⟨HA2.out.lt⟩
  clear hb HA HB1
  go_wp2_with fail
  go_loopg [5] (min 40 l.length) (fun kq v5 w' => ∃ (i : Nat) (f : ByteArray → Option Cell) (n : Nat) (L : List Cell), v5 = .int .i64 i ∧ Aside0 (i + kq = min 40 l.length) ∧ Aside0 (ShelfIs w' (w.heap.size + 1) w.heap.size n f ∧ RefSIs w' w2.heap.size L) ∧ Aside0 (BothS f n L i) ∧ Aside0 (Below w.heap.size w w'))
  case atStart => exact ⟨0, fun _ => none, 0, [], rfl, ⟨by omega⟩, ⟨HA2.out.alloc _, HR2.out⟩, ⟨BothS.zero⟩, ⟨below_alloc HB2.out _⟩⟩
  case round =>
    obtain ⟨i, f, n, L, rfl, HK, HAR, HBo, HB⟩ := hrel
    by_cases q : i < min 40 l.length
    · have q' : (i : Int) < (l.length : Int) := by omega
      have qm : (i : Int) < 40 := by omega
      have p1 : (0 : Int) ≤ (i : Int) := by omega
      obtain ⟨g1, rfl⟩ : ∃ g1, gk = g1 + 1 := ⟨gk - 1, by have := HK.out; omega⟩
      obtain ⟨ad, e, A3, c3, A4, c4, d0, d1, d2, d3, d4, d5, r3, r4⟩ := atStep15 HC.out (i : Int) p1 q'
      cases e
      rw [Int.toNat_natCast] at d0 d1 d2 d3 d4 d5
      have hil : i < l.length := by omega
      have HX : Aside0 (rdStep15 l (i : Int) = l[i]) := ⟨by rw [rdStep15_get (by simpa using hil)]; simp⟩
      have HOK : Aside0 (okStep15 (rdStep15 l (i : Int))) := ⟨by rw [HX.out]; exact HS.out _ (List.getElem_mem hil)⟩
      generalize rdStep15 l (i : Int) = x at *
      have HNW : Aside0 (∀ W, Below w.heap.size w W → GroupAt W x.f3 A3 c3 x.f4 A4 c4 ∧ Names W) := ⟨fun W hb => ⟨(GroupAt.mk r3.1 r3.2 r4.1 r4.2).below hb, HN.out.below hb HN.out.lt⟩⟩
      have HRS : Aside0 (∀ r ∈ x.f3, r.f2.size ≤ 4611686018427387904) := ⟨fun r hr => Nat.le_trans (HOK.out.2.2.2.1 r hr) (by decide)⟩
      replace d0 := pw_cell_below HB.out d0
      replace d1 := pw_cell_below HB.out d1
      replace d2 := pw_cell_below HB.out d2
      replace d3 := pw_cell_below HB.out d3
      replace d4 := pw_cell_below HB.out d4
      replace d5 := pw_cell_below HB.out d5
      clear r3 r4 HX
      go_upto_region 8 with fail
      go_cut [50] (fun v50 wx => v50 = .bool false ∧ ∃ (f' : ByteArray → Option Cell) (n' : Nat) (L' : List Cell), Aside0 (ShelfIs wx (w.heap.size + 1) w.heap.size n' f' ∧ RefSIs wx w2.heap.size L') ∧ Aside0 (BothS f' n' L' (i + 1)) ∧ Aside0 (Below w.heap.size w wx))
      case first =>
        have hSh := HAR.out.1.drew
        have hRs := HAR.out.2.drew
        have hB0 := below_drew HB.out
        have HLT : Aside0 (w.heap.size + 1 < w2.heap.size ∧ i ≤ 100) := ⟨HGR.out, by omega⟩
        have HH : Aside0 (w.heap.size ≤ w.heap.size ∧ w.heap.size ≤ w2.heap.size ∧ (w.heap.size + 1 ≠ w2.heap.size ∧ w.heap.size ≠ w2.heap.size)) := ⟨by have := HGR.out; omega⟩
        have HRUN := Aside0.mk (run_any w wr.drew (w.heap.size + 1) w.heap.size w2.heap.size i f n L x.f0 x.f1 x.f2 x.f3 x.f4 x.f5 A3 c3 A4 c4 hB0 HH.out.1 HH.out.2.1 HH.out.2.2 hSh hRs HBo.out HLT.out.2 HNW.out HRS.out)
        unfold sixS at HRUN
        clear HAR HK q
        go_region_with (first
          | (go_at_call 47; refine (HRUN.out).mono ?_; rintro e wk ⟨f', n', L', rfl, hSh', hRs', hBS', hbk⟩; obtain ⟨AL, cL, hcell⟩ := hRs'.cell; obtain rfl := hBS'.num; have HBS' := Aside0.mk hBS'; have HLL : Aside0 (L'.length ≤ 1000000) := ⟨by have := hBS'.l_le; have := HLT.out; omega⟩; obtain ⟨KK, hKK⟩ : ∃ KK, Aside0 (L'.map Pr.S57.f0 = KK) := ⟨_, ⟨rfl⟩⟩; have HKL : Aside0 (KK.length ≤ 1000000000) := ⟨by rw [← hKK.out, List.length_map]; have := HLL.out; omega⟩; clear hBS' hB0 hSh hRs HRUN)
          | (go_at_call 42; refine (shelfLen_any _ (w.heap.size + 1) w.heap.size _ f' hSh').mono ?_; rintro e wl ⟨rfl, rfl⟩)
          | (go_at_call 48; refine (shelfKeys_any _ (w.heap.size + 1) w.heap.size _ f' hSh' ?hn HBS'.out.key).mono ?_; (case hn => have := HLL.out; omega); rintro e wd ⟨vd, outd, rfl, hRd, hrid, hmd, hbd⟩; have hod := HBS'.out.keys hrid hmd; rw [hod, hKK.out] at hRd; obtain ⟨Ad, cd, rfl, hcd, hCd⟩ := Kd.R_reads hRd; (try replace hCe := Kd.C_below hCe hbd); replace hSh' := hSh'.below hbd; replace hRs' := hRs'.below hbd; replace hbk := below_then hbk hbk.size hbd; clear hRd hrid hmd hod hbd)
          | (go_at_call 49; refine (refSKeys_any _ w2.heap.size L' hRs' HLL.out).mono ?_; rintro e we ⟨ve, rfl, hRe, hbe⟩; rw [hKK.out] at hRe; obtain ⟨Ae, ce, rfl, hce, hCe⟩ := Kd.R_reads hRe; (try replace hCd := Kd.C_below hCd hbe); replace hSh' := hSh'.below hbe; replace hRs' := hRs'.below hbe; replace hbk := below_then hbk hbk.size hbe; clear hRe hbe)
          | (go_at_call 29; refine (sameTexts_any _ _ _ _ KK _ hCd hcd hCe hce HKL.out).mono ?_; rintro e wz ⟨rfl, hbz⟩; replace hSh' := hSh'.below hbz; replace hRs' := hRs'.below hbz; replace hbk := below_then hbk hbk.size hbz; clear hbz))
        all_goals go_wp2_with fail
        all_goals
          go_meet
          exact ⟨rfl, f', _, L', ⟨hSh', hRs'⟩, HBS', ⟨hbk⟩⟩
      case rest =>
        obtain ⟨rfl, f', n', L', HAR', HBo', HB'⟩ := hcut
        go_wp2
        go_roundg g1
        case measure => omega
        case rel => exact ⟨i + 1, f', n', L', by go_num, ⟨by have := HK.out; omega⟩, HAR', HBo', HB'⟩
    · have hsplit : ¬ (i : Int) < (l.length : Int) ∨ ((i : Int) < (l.length : Int) ∧ ¬ (i : Int) < 40) := by omega
      clear q
      rcases hsplit with q1 | ⟨q1, q2⟩
      all_goals
        go_wp2_with fail
        go_ret
        exact ⟨rfl, HB.out⟩
end
end Go.Proofs.YtmionoghpjpbaaaDoor
