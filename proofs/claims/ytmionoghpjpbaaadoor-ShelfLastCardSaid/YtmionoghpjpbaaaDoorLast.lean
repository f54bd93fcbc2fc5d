/-
  The law ShelfLast: it returns true.
-/
import Derived.Test.YtmionoghpjpbaaaDoorDrops
namespace Go.Proofs.YtmionoghpjpbaaaDoor
open Go.RowKit Go.Proofs.YtmionoghpjpbaaaDoorW.PrintWords Go.Proofs.YtmionoghpjpbaaaDoorW.PrintLast Go.Proofs.YtmionoghpjpbaaaDoorW.PrintMore
open Go.Proofs.YtmionoghpjpbaaaDoorM
set_option linter.unusedVariables false
set_option linter.unusedSimpArgs false
attribute [local go_sem high] eqvCell

/-! ### plain -/
/-- What a batch's last write of a key leaves. -/
def cellW (i : Int) (k : ByteArray) (c : Option Cell) : Option Write → Option Cell
  | none => c
  | some y => if y.f1 then none else some ⟨k, i, i⟩
theorem lays_at (i : Int) (k : ByteArray) (ws : List Write) (s : ShS) : ∀ n, n ≤ ws.length → (lays i i s (ws.take n)).1 k = cellW i k (s.1 k) (lastW (ws.take n) k)
  | 0, _ => rfl
  | n + 1, hn => by
    have ih := lays_at i k ws s n (by omega)
    have hn' : n < ws.length := by omega
    rw [lays_snoc i i s ws n hn', List.take_succ_eq_append_getElem hn', lastW_snoc]
    generalize ws[n] = x
    generalize lays i i s (ws.take n) = t at *
    by_cases hk : x.f0 = k
    · rw [if_pos hk]
      subst hk
      show (lay1 i i t x).1 x.f0 = if x.f1 then none else some ⟨x.f0, i, i⟩
      unfold lay1
      by_cases hd : x.f1 = true
      · rw [if_pos hd, if_pos hd]; simp [del]
      · rw [if_neg hd, if_neg hd]; simp [put]
    · rw [if_neg hk, ← ih]
      have hk' : ¬ k = x.f0 := fun h => hk h.symm
      unfold lay1
      split
      · simp [del, hk']
      · simp [put, hk']
theorem lays_get (i : Int) (k : ByteArray) (ws : List Write) (s : ShS) : (lays i i s ws).1 k = cellW i k (s.1 k) (lastW ws k) := by
  have := lays_at i k ws s ws.length (Nat.le_refl _)
  rwa [List.take_length] at this
def isAt (f : ByteArray → Option Cell) (seq : Int) (k : ByteArray) : Bool := match f k with | some c => c.f1 == seq | none => false

set_option maxHeartbeats 8000000 in
set_option maxRecDepth 100000 in
theorem shelfLast_any (A : Option Addr) (c : Nat) (l : List (List Raw)) (key seq : Int) (h0s : 0 ≤ seq) (w : World) (hN : Names w) (hC : Kd.C kRows w A l.length l) (hs : ∀ r ∈ l, ∀ x ∈ r, x.f2.size ≤ 4611686018427387904) :
    Calls Tryd.prog 5 #[.slice A l.length c, .int .i64 key, .int .u32 seq] w fun e w' => e = .returned (.bool true) ∧ Below w.heap.size w w' := by
  have HC := Aside0.mk hC
  have HN := Aside0.mk hN
  have HS := Aside0.mk hs
  clear hC hs hN
  go_enter Tryd.func5, Tryd.ntmps5
  go_wp2_with fail
  refine (made_any A c l w HN.out HC.out HS.out).mono ?_
  rintro e w1 ⟨s, rfl, hA, hM, hb⟩
  have HM := Aside0.mk hM
  have HA := Aside0.mk hA
  have HB1 := Aside0.mk hb
  have HG := Aside0.mk hM.good
  have HN1 : Aside0 (Names w1) := ⟨HN.out.below hb HN.out.lt⟩
  clear hA hM hb
  go_wp2_with fail
  refine (alive15_any _).mono ?_
  rintro e w3 ⟨rfl, hb⟩
  have HA3 : Aside0 (ShelfIs w3 (w.heap.size + 1) w.heap.size s.2 s.1) := ⟨HA.out.below hb⟩
  have HB3 : Aside0 (Below w.heap.size w w3) := ⟨below_then HB1.out HB1.out.size hb⟩
  have HN3 : Aside0 (Names w3) := ⟨HN1.out.below hb HN1.out.lt⟩
  clear hb HA HB1 HN1
  go_wp2_with fail
  refine (handKey_any key w3 HN3.out).mono ?_
  rintro e w4 ⟨rfl, hb⟩
  have HKK : Aside0 (keyN key ∈ nameL ∧ (keyN key).size ≤ maxLen) := ⟨keyN_mem key, Nat.le_trans (name_size (keyN_mem key)) (by simp [maxLen])⟩
  obtain ⟨k, hk⟩ : ∃ k, Aside0 (keyN key = k) := ⟨_, ⟨rfl⟩⟩
  rw [hk.out] at HKK ⊢
  have HA4 : Aside0 (ShelfIs w4 (w.heap.size + 1) w.heap.size s.2 s.1) := ⟨HA3.out.below hb⟩
  have HB4 : Aside0 (Below w.heap.size w w4) := ⟨below_then HB3.out HB3.out.size hb⟩
  have HN4 : Aside0 (Names w4) := ⟨HN3.out.below hb HN3.out.lt⟩
  clear hb HA3 HB3 HN3
  have HW1 : Aside0 (keyN key = k) := hk
  go_wp2
  go_loopg [10] (min 20 l.length) (fun kq v10 w' => ∃ (x : Nat) (t : ShS) (d : Cell), v10 = .int .i64 x ∧ Aside0 (x + kq = min 20 l.length) ∧ Aside0 (MadeAt l x t ∧ d = (t.1 k).getD zCell) ∧ Aside0 (w'.heap[w4.heap.size]? = some (.cells #[.string d.f0, .int .u32 d.f1, .int .u32 d.f2] 57 (0, 0))) ∧ Aside0 (Below w4.heap.size w4 w'))
  case atStart => exact ⟨0, (fun _ => none, 0), zCell, rfl, ⟨by omega⟩, ⟨rfl, rfl⟩, ⟨heap_alloc_new _ _⟩, ⟨below_alloc (Below.refl _ _) _⟩⟩
  case round =>
    obtain ⟨x, t, d, rfl, HK, HT, HBX, HB⟩ := hrel
    obtain ⟨hx0, hx1, hx2, hf0, hf1, hf2⟩ := box_cell3 HBX.out
    by_cases q : x < min 20 l.length
    · have q' : (x : Int) < (l.length : Int) := by omega
      have qm : x < 20 := by omega
      replace q : x < l.length := by omega
      · have qm' : (x : Int) < 20 := by omega
        have p1 : (0 : Int) ≤ (x : Int) := by omega
        obtain ⟨g1, rfl⟩ : ∃ g1, gk = g1 + 1 := ⟨gk - 1, by have := HK.out; omega⟩
        have HBW : Aside0 (Below w.heap.size w wr) := ⟨below_then HB4.out HB4.out.size HB.out⟩
        obtain ⟨ad, cs, e, _, hK, hcell⟩ := Kd.C_get (Kd.C_below HC.out HBW.out) [] (x : Int) p1 q'
        cases e
        obtain ⟨A2, c2, rfl, hle, hC2⟩ := hK
        have d0 := hcell 0 _ rfl
        rw [show ((x : Int).toNat * kRows.sz + 0) = x by simp [Kd.slice]] at d0
        have HE : Aside0 (l.getD (x : Int).toNat [] = l.getD x []) := ⟨by simp⟩
        rw [HE.out] at d0 hC2
        have HRS : Aside0 (∀ y ∈ l.getD x [], y.f2.size ≤ 4611686018427387904) := ⟨by
          rw [List.getD_eq_getElem?_getD, List.getElem?_eq_getElem q]
          exact HS.out _ (List.getElem_mem q)⟩
        obtain ⟨r, hr⟩ : ∃ r, Aside0 (l.getD x [] = r) := ⟨_, ⟨rfl⟩⟩
        rw [hr.out] at d0 hC2 HRS
        have HC2 := Aside0.mk hC2
        have HNm : Aside0 (Names wr) := ⟨HN4.out.below HB.out HN4.out.lt⟩
        clear hcell hC2 HE hle
        go_wp2_with fail
        refine (handWrites_any A2 c2 r 5 (by omega) wr HNm.out HC2.out HRS.out).mono ?_
        rintro e w5 ⟨v, ws, rfl, hR, hW, hb⟩
        obtain ⟨A3, c3, rfl, hc3, hr3⟩ := Kd.R_reads hR
        have HRR := Aside0.mk (And.intro hr3 hc3)
        have HW := Aside0.mk (And.intro hW hb)
        clear hR hW hb hc3 hr3
        go_wp2_with fail
        refine (find_any A3 c3 ws k w5 HRR.out.1 HRR.out.2 (by have := HW.out.1.len; omega)).mono ?_
        rintro e w6 ⟨rfl, hb⟩
        have HB6 : Aside0 (Below w4.heap.size w4 w6) := ⟨below_then (below_then HB.out HB.out.size HW.out.2) (below_then HB.out HB.out.size HW.out.2).size hb⟩
        have HX6 : Aside0 (w6.heap[w4.heap.size]? = some (.cells #[.string d.f0, .int .u32 d.f1, .int .u32 d.f2] 57 (0, 0))) := ⟨(hb.block _ (Nat.lt_of_lt_of_le (Array.getElem?_eq_some_iff.1 HBX.out).1 HW.out.2.size)).trans ((HW.out.2.block _ (Array.getElem?_eq_some_iff.1 HBX.out).1).trans HBX.out)⟩
        have HM1 : Aside0 (MadeAt l (x + 1) (lays ((x + 1 : Nat) : Int) ((x + 1 : Nat) : Int) t ws) ∧ (lays ((x + 1 : Nat) : Int) ((x + 1 : Nat) : Int) t ws).1 k = cellW ((x + 1 : Nat) : Int) k (t.1 k) (lastW ws k)) := ⟨⟨t, ws, HT.out.1, by rw [hr.out]; exact HW.out.1, rfl⟩, lays_get _ _ _ _⟩
        obtain ⟨t2, ht2⟩ : ∃ t2, Aside0 (lays ((x + 1 : Nat) : Int) ((x + 1 : Nat) : Int) t ws = t2) := ⟨_, ⟨rfl⟩⟩
        rw [ht2.out] at HM1
        clear hb d0 hx0 hx1 hx2 hf0 hf1 hf2 HBX HB HBW
        cases hlw : lastW ws k with
        | none =>
          have HM2 : Aside0 ((t2.1 k).getD zCell = d) := ⟨by rw [HM1.out.2, hlw, HT.out.2]; rfl⟩
          clear hlw
          rw [show aggW ((none : Option Write).getD zWrite) = .agg #[.string ⟨#[]⟩, .bool false, .string ⟨#[]⟩] from rfl, show (none : Option Write).isSome = false from rfl]
          go_wp2
          go_roundg g1
          case measure => omega
          case rel => exact ⟨x + 1, t2, d, by first | go_num | rw [wsucc x (by omega)], ⟨by have := HK.out; omega⟩, ⟨HM1.out.1, HM2.out.symm⟩, ⟨(heap_alloc_old _ _ (Array.getElem?_eq_some_iff.1 HX6.out).1).trans HX6.out⟩, ⟨below_alloc HB6.out _⟩⟩
        | some y =>
          rw [show aggW ((some y).getD zWrite) = .agg #[.string y.f0, .bool y.f1, .string y.f2] from rfl, show (some y).isSome = true from rfl]
          have HO : Aside0 (∀ o, (w6.alloc o).heap[w4.heap.size]? = some (.cells #[.string d.f0, .int .u32 d.f1, .int .u32 d.f2] 57 (0, 0))) := ⟨fun o => (heap_alloc_old _ _ (Array.getElem?_eq_some_iff.1 HX6.out).1).trans HX6.out⟩
          obtain ⟨hy0, hy1, hy2, hg0, hg1, hg2⟩ := box_cell3 HX6.out
          have hlt6 : w4.heap.size < w6.heap.size := (Array.getElem?_eq_some_iff.1 HX6.out).1
          have hne6 : ¬ w4.heap.size = w6.heap.size := by omega
          have hne6' : ¬ w6.heap.size = w4.heap.size := by omega
          cases hd : y.f1
          · have HM2 : Aside0 ((t2.1 k).getD zCell = ⟨k, (x : Int) + 1, (x : Int) + 1⟩) := ⟨by rw [HM1.out.2, hlw]; show (if y.f1 then none else some (⟨k, ((x + 1 : Nat) : Int), ((x + 1 : Nat) : Int)⟩ : Cell)).getD zCell = _; rw [hd]; rfl⟩
            clear hd hlw
            go_wp2
            go_roundg g1
            case measure => omega
            case rel =>
              obtain ⟨b1, b2⟩ := box_set3 HX6.out HB6.out (Nat.le_refl _) (.string ⟨#[]⟩) (.int .u32 0) (.int .u32 0)
              obtain ⟨b3, b4⟩ := box_set3 b1 b2 (Nat.le_refl _) (.string k) (.int .u32 ((x : Int) + 1)) (.int .u32 ((x : Int) + 1))
              exact ⟨x + 1, t2, ⟨k, (x : Int) + 1, (x : Int) + 1⟩, by first | go_num | rw [wsucc x (by omega)], ⟨by have := HK.out; omega⟩, ⟨HM1.out.1, HM2.out.symm⟩, ⟨(heap_alloc_old _ _ (Array.getElem?_eq_some_iff.1 b3).1).trans b3⟩, ⟨below_alloc b4 _⟩⟩
          · have HM2 : Aside0 ((t2.1 k).getD zCell = zCell) := ⟨by rw [HM1.out.2, hlw]; show (if y.f1 then none else some (⟨k, ((x + 1 : Nat) : Int), ((x + 1 : Nat) : Int)⟩ : Cell)).getD zCell = _; rw [hd]; rfl⟩
            clear hd hlw
            go_wp2
            go_roundg g1
            case measure => omega
            case rel =>
              obtain ⟨b1, b2⟩ := box_set3 HX6.out HB6.out (Nat.le_refl _) (.string ⟨#[]⟩) (.int .u32 0) (.int .u32 0)
              exact ⟨x + 1, t2, zCell, by first | go_num | rw [wsucc x (by omega)], ⟨by have := HK.out; omega⟩, ⟨HM1.out.1, HM2.out.symm⟩, ⟨(heap_alloc_old _ _ (Array.getElem?_eq_some_iff.1 b1).1).trans b1⟩, ⟨below_alloc b2 _⟩⟩
    · have HX : Aside0 (d = (s.1 k).getD zCell) := ⟨by
        have e : x = min 20 l.length := by have := HK.out; omega
        have h1 := HT.out.1
        rw [e] at h1
        rw [← h1.unique HM.out]
        exact HT.out.2⟩
      have HAr : Aside0 (ShelfIs wr (w.heap.size + 1) w.heap.size s.2 s.1) := ⟨HA4.out.below HB.out⟩
      have HNr : Aside0 (Names wr) := ⟨HN4.out.below HB.out HN4.out.lt⟩
      have HBr : Aside0 (Below w.heap.size w wr) := ⟨below_then HB4.out HB4.out.size HB.out⟩
      have hlr : w4.heap.size < wr.heap.size := (Array.getElem?_eq_some_iff.1 HBX.out).1
      have hsplit : ¬ x < l.length ∨ (x < l.length ∧ ¬ (x : Int) < 20) := by omega
      clear q HM HA4 HB4 HN4 HT HB
      rcases hsplit with q1 | ⟨q1, q2⟩
      all_goals
        go_wp2_with fail
        refine (shelfGet_any wr (w.heap.size + 1) w.heap.size _ _ k HAr.out HKK.out.2).mono ?_
        rintro e w7 ⟨rfl, hb⟩
        have HX7 : Aside0 (w7.heap[w4.heap.size]? = some (.cells #[.string d.f0, .int .u32 d.f1, .int .u32 d.f2] 57 (0, 0))) := ⟨(hb.block _ (Array.getElem?_eq_some_iff.1 HBX.out).1).trans HBX.out⟩
        have HA7 : Aside0 (ShelfIs w7 (w.heap.size + 1) w.heap.size s.2 s.1) := ⟨HAr.out.below hb⟩
        have HB7 : Aside0 (Below w.heap.size w w7) := ⟨below_then HBr.out HBr.out.size hb⟩
        have HN7 : Aside0 (Names w7) := ⟨HNr.out.below hb HNr.out.lt⟩
        have hl7 : w4.heap.size < w7.heap.size := (Array.getElem?_eq_some_iff.1 HX7.out).1
        clear hb HAr HBr HNr hx0 hx1 hx2 hf0 hf1 hf2 HBX hlr
        have hq : ∃ c0 ok, Aside0 (d = c0 ∧ (s.1 k).getD zCell = c0 ∧ (s.1 k).isSome = ok ∧ ((c0 = zCell ∧ ok = false) ∨ (1 ≤ c0.f1 ∧ ok = true))) := by
          cases hf : s.1 k with
          | none => exact ⟨zCell, false, ⟨by rw [HX.out, hf]; rfl, rfl, rfl, .inl ⟨rfl, rfl⟩⟩⟩
          | some c0 => exact ⟨c0, true, ⟨by rw [HX.out, hf]; rfl, rfl, rfl, .inr ⟨(HG.out.named k c0 hf).2.2.2, rfl⟩⟩⟩
        obtain ⟨c0, ok, HQ⟩ := hq
        rw [HQ.out.2.1, HQ.out.2.2.1]
        rw [HQ.out.1] at HX7
        obtain ⟨hy0, hy1, hy2, _, _, _⟩ := box_cell3 HX7.out
        rw [show eCell.enc c0 = .agg #[.string c0.f0, .int .u32 c0.f1, .int .u32 c0.f2] from rfl]
        have hd1 : (c0.f1 != 0) = ok := by
          rcases HQ.out.2.2.2 with ⟨h1, h2⟩ | ⟨h1, h2⟩
          · rw [h1, h2]; rfl
          · rw [h2, bne_iff_ne]; omega
        have hd2 : (c0.f1 == 0) = !ok := by rw [← hd1, bne, Bool.not_not]
        have hd3 : decide (c0.f1 = 0) = !ok := by rw [← hd2]; rfl
        go_wp2
        have HAl : Aside0 (ShelfIs (w7.alloc (.cells #[.string c0.f0, .int .u32 c0.f1, .int .u32 c0.f2] 57)) (w.heap.size + 1) w.heap.size s.2 s.1) := ⟨HA7.out.alloc _⟩
        have HBl : Aside0 (Below w.heap.size w (w7.alloc (.cells #[.string c0.f0, .int .u32 c0.f1, .int .u32 c0.f2] 57))) := ⟨below_alloc HB7.out _⟩
        have HNl : Aside0 (Names (w7.alloc (.cells #[.string c0.f0, .int .u32 c0.f1, .int .u32 c0.f2] 57))) := ⟨HN7.out.alloc _⟩
        clear hd1 hd2 hd3 hy0 hy1 hy2 HX7 HQ hl7 HA7 HB7 HN7
        obtain ⟨sq, hsq⟩ : ∃ sq : Int, Aside0 (seq % 22 = sq) := ⟨_, ⟨rfl⟩⟩
        rw [hsq.out]
        go_loopg [15, 16] 12 (fun kq v15 v16 w' => ∃ (i : Nat), v16 = .int .i64 i ∧ v15 = .int .i64 (countN (isAt s.1 sq) i : Nat) ∧ Aside0 (i + kq = 12) ∧ Aside0 (ShelfIs w' (w.heap.size + 1) w.heap.size s.2 s.1) ∧ Aside0 (Below w.heap.size w w') ∧ Aside0 (Names w'))
        case atStart => exact ⟨0, rfl, rfl, ⟨rfl⟩, HAl, HBl, HNl⟩
        case round =>
          obtain ⟨i, rfl, rfl, HK3, HAi, HBi, HNi⟩ := hrel
          by_cases q : i < 12
          · have q' : (i : Int) < 12 := by omega
            obtain ⟨g1, rfl⟩ : ∃ g1, gk = g1 + 1 := ⟨gk - 1, by have := HK3.out; omega⟩
            go_wp2_with fail
            refine (handKey_any (i : Int) wr HNi.out).mono ?_
            rintro e w8 ⟨rfl, hb⟩
            have HKN : Aside0 (keyN (i : Int) = nameAt i ∧ (nameAt i).size ≤ maxLen) := ⟨by unfold keyN; rw [pickN_small i q], Nat.le_trans (nameAt_size i) (by simp [maxLen])⟩
            rw [HKN.out.1]
            obtain ⟨kk, hkk⟩ : ∃ kk, Aside0 (nameAt i = kk) := ⟨_, ⟨rfl⟩⟩
            rw [hkk.out] at HKN ⊢
            have HA8 : Aside0 (ShelfIs w8 (w.heap.size + 1) w.heap.size s.2 s.1) := ⟨HAi.out.below hb⟩
            have HB8 : Aside0 (Below w.heap.size w w8 ∧ Names w8) := ⟨below_then HBi.out HBi.out.size hb, HNi.out.below hb HNi.out.lt⟩
            clear hb HAi HBi HNi
            go_wp2_with fail
            refine (shelfGet_any w8 (w.heap.size + 1) w.heap.size _ _ kk HA8.out HKN.out.2).mono ?_
            rintro e w9 ⟨rfl, hb⟩
            have HA9 : Aside0 (ShelfIs w9 (w.heap.size + 1) w.heap.size s.2 s.1) := ⟨HA8.out.below hb⟩
            have HB9 : Aside0 (Below w.heap.size w w9 ∧ Names w9) := ⟨below_then HB8.out.1 HB8.out.1.size hb, HB8.out.2.below hb HB8.out.2.lt⟩
            clear hb HA8 HB8
            have HCL : Aside0 (countN (isAt s.1 sq) i ≤ 12) := ⟨by have := countN_le (isAt s.1 sq) i; omega⟩
            have HCS : Aside0 (countN (isAt s.1 sq) (i + 1) = countN (isAt s.1 sq) i + (if isAt s.1 sq kk then 1 else 0)) := ⟨by rw [countN_succ _ i q, hkk.out]⟩
            obtain ⟨cn, hcn⟩ : ∃ cn, Aside0 (countN (isAt s.1 sq) i = cn) := ⟨_, ⟨rfl⟩⟩
            rw [hcn.out] at HCL HCS ⊢
            cases hf : s.1 kk with
            | none =>
              have HF : Aside0 (countN (isAt s.1 sq) (i + 1) = cn) := ⟨by rw [HCS.out]; simp [isAt, hf]⟩
              clear hf
              rw [show eCell.enc ((none : Option Cell).getD zCell) = .agg #[.string ⟨#[]⟩, .int .u32 0, .int .u32 0] from rfl, show (none : Option Cell).isSome = false from rfl]
              go_wp2
              go_roundg g1
              case measure => omega
              case rel => exact ⟨i + 1, by first | go_num | rw [wsucc i (by omega)], by rw [HF.out], ⟨by have := HK3.out; omega⟩, ⟨HA9.out.alloc _⟩, ⟨below_alloc HB9.out.1 _⟩, ⟨HB9.out.2.alloc _⟩⟩
            | some c1 =>
              rw [show eCell.enc ((some c1 : Option Cell).getD zCell) = .agg #[.string c1.f0, .int .u32 c1.f1, .int .u32 c1.f2] from rfl, show (some c1 : Option Cell).isSome = true from rfl]
              cases hp : (c1.f1 == sq)
              · have HF : Aside0 (countN (isAt s.1 sq) (i + 1) = cn) := ⟨by rw [HCS.out]; simp [isAt, hf]; simpa using hp⟩
                clear hf
                go_wp2
                go_roundg g1
                case measure => omega
                case rel => exact ⟨i + 1, by first | go_num | rw [wsucc i (by omega)], by rw [HF.out], ⟨by have := HK3.out; omega⟩, ⟨HA9.out.alloc _⟩, ⟨below_alloc HB9.out.1 _⟩, ⟨HB9.out.2.alloc _⟩⟩
              · have HF : Aside0 (countN (isAt s.1 sq) (i + 1) = cn + 1) := ⟨by rw [HCS.out]; simp [isAt, hf]; simpa using hp⟩
                clear hf
                go_wp2
                go_roundg g1
                case measure => omega
                case rel => exact ⟨i + 1, by first | go_num | rw [wsucc i (by omega)], by rw [HF.out, wsucc cn (by have := HCL.out; omega)], ⟨by have := HK3.out; omega⟩, ⟨HA9.out.alloc _⟩, ⟨below_alloc HB9.out.1 _⟩, ⟨HB9.out.2.alloc _⟩⟩
          · obtain rfl : i = 12 := by have := HK3.out; omega
            obtain ⟨cn, hcn⟩ : ∃ cn, Aside0 (countN (isAt s.1 sq) 12 = cn) := ⟨_, ⟨rfl⟩⟩
            rw [hcn.out]
            go_wp2_with fail
            refine (shelfLive_any wr (w.heap.size + 1) w.heap.size s.2 s.1 sq HAi.out (by have := HG.out.le; omega) (fun k hk => Nat.le_trans (HG.out.small k hk) (by omega))).mono ?_
            rintro e w10 ⟨v, out, rfl, hR, hri, hm, hb⟩
            have hlen : out.length = cn := by
              rw [← hcn.out]
              refine countN_all _ out hri.nodup fun k => ?_
              rw [hm k]
              constructor
              · rintro ⟨c, h1, h2⟩
                exact ⟨(HG.out.named k c h1).1, by simp only [isAt, h1]; exact h2⟩
              · rintro ⟨_, h2⟩
                unfold isAt at h2
                cases hc : s.1 k with
                | none => rw [hc] at h2; cases h2
                | some c => rw [hc] at h2; exact ⟨c, rfl, h2⟩
            obtain ⟨A10, c10, rfl⟩ := Kd.R_slice hR
            have HB10 : Aside0 (Below w.heap.size w w10) := ⟨below_then HBi.out HBi.out.size hb⟩
            clear hR hri hm hb
            rw [hlen]
            clear hlen
            go_wp2
            go_ret
            exact ⟨by simp, HB10.out⟩
end Go.Proofs.YtmionoghpjpbaaaDoor
