/-
  The document's shelf (cachepotref2.Shelf): Apply.
-/
import Derived.Test.YtmionoghpjpbaaaDoorRefShelf
import Derived.Test.YtmionoghpjpbaaaDoorRefCommit
import Derived.Test.YtmionoghpjpbaaaDoorGroup15
namespace Go.Proofs.YtmionoghpjpbaaaDoor
section
open Go.RowKit Go.Proofs.YtmionoghpjpbaaaDoorW.PrintWords Go.Proofs.YtmionoghpjpbaaaDoorW.PrintLast Go.Proofs.YtmionoghpjpbaaaDoorW.PrintMore
open Go.Proofs.YtmionoghpjpbaaaDoorM
set_option linter.unusedVariables false
set_option linter.unusedSimpArgs false
attribute [local go_sem] max2_int min2_int max_two min_two

/-! ### Live -/
def liveL (seq : Int) (L : List Cell) : List ByteArray := (L.filter fun c => c.f1 == seq).map keyC
theorem liveL_take (seq : Int) (L : List Cell) (x : Nat) (h : x < L.length) : liveL seq (L.take (x + 1)) = if L[x].f1 = seq then liveL seq (L.take x) ++ [L[x].f0] else liveL seq (L.take x) := by
  unfold liveL
  rw [List.take_succ_eq_append_getElem h, List.filter_append]
  by_cases e : L[x].f1 = seq
  · simp [e]
  · simp [e]
theorem liveL_le (seq : Int) (L : List Cell) : (liveL seq L).length ≤ L.length := by unfold liveL; rw [List.length_map]; exact List.length_filter_le _ _

set_option maxHeartbeats 2000000 in
set_option maxRecDepth 100000 in
theorem refSLive_any (w : World) (g : Nat) (L : List Cell) (seq : Int) (h : RefSIs w g L) (hl : L.length ≤ 1000000) :
    Calls Tryd.prog 89 #[.pointer (some ⟨g, 0, none⟩), .int .u32 seq] w fun e w' => ∃ v, e = .returned v ∧ Kd.R Kd.string 9 w' w.heap.size (fun _ => True) v (liveL seq L) ∧ Below w.heap.size w w' := by
  have hgl := h.lt
  obtain ⟨A, c, hg, hlc, hC⟩ := h
  have hcell0 : w.cell? ⟨g, 0, none⟩ = some (.slice A L.length c) := by simp [World.cell?, hg]
  have HC := Aside0.mk hC
  have HL := Aside0.mk hl
  clear hC hl hg hlc
  go_enter Tryd.func89, Tryd.ntmps89
  go_wp2
  go_loopg [5, 6] L.length (fun kq v5 v6 w' => ∃ (x : Nat), v6 = .int .i64 x ∧ Aside0 (x + kq = L.length) ∧ Aside0 (Kd.R Kd.string 9 w' w.heap.size (fun _ => True) v5 (liveL seq (L.take x))) ∧ Aside0 (Below w.heap.size w w'))
  case atStart => exact ⟨0, rfl, ⟨by simp⟩, ⟨by simpa [liveL] using Kd.R_nil _ _ _ _ _⟩, ⟨Below.refl _ _⟩⟩
  case round =>
    obtain ⟨x, rfl, HK, HO, HB⟩ := hrel
    have hcell := pw_cell_below HB.out hcell0
    have hgr : g < wr.heap.size := Nat.lt_of_lt_of_le hgl HB.out.size
    by_cases q : x < L.length
    · have q' : (x : Int) < (L.length : Int) := by omega
      have p1 : (0 : Int) ≤ (x : Int) := by omega
      obtain ⟨g1, rfl⟩ : ∃ g1, gk = g1 + 1 := ⟨gk - 1, by have := HK.out; omega⟩
      obtain ⟨ad, e, d0, d1, d2⟩ := atCell (Kd.C_below HC.out HB.out) (x : Int) p1 q'
      cases e
      rw [Int.toNat_natCast] at d0 d1 d2
      have HX : Aside0 (rdCell L (x : Int) = L[x]) := ⟨by rw [rdCell_get (by simpa using q)]; simp⟩
      generalize rdCell L (x : Int) = y at *
      have HMl : Aside0 ((liveL seq (L.take x)).length ≤ 1000000000) := ⟨by have := liveL_le seq (L.take x); rw [List.length_take] at this; have := HL.out; omega⟩
      by_cases hk : y.f1 = seq
      · have HN : Aside0 (liveL seq (L.take (x + 1)) = liveL seq (L.take x) ++ [y.f0]) := ⟨by rw [liveL_take seq L x q, if_pos (by rw [← HX.out]; exact hk), HX.out]⟩
        have heq : (y.f1 == seq) = true := by rw [hk]; exact beq_self_eq_true _
        clear hk
        go_wp2_with (at_builtin; refine appStr (w0 := w) w.heap.size rfl (.tmp 26) (.tmp 35) wr.heap.size rfl u5 (liveL seq (L.take x)) y.f0 rfl rfl rfl ?aO ?aB ?aS ?aL ?_; (case aO => exact HO.out); (case aB => exact HB.out); (case aS => exact HB.out.size); (case aL => exact HMl.out); intro v1 w3 ho hb hg hat; have HO3 := Aside0.mk ho; have HB3 := Aside0.mk hb; clear ho hb hg hat)
        go_roundg g1
        case measure => omega
        case rel => exact ⟨x + 1, by first | go_num | rw [wsucc x (by have := HL.out; omega)], ⟨by have := HK.out; omega⟩, ⟨by rw [HN.out]; exact HO3.out⟩, HB3⟩
      · have HN : Aside0 (liveL seq (L.take (x + 1)) = liveL seq (L.take x)) := ⟨by rw [liveL_take seq L x q, if_neg (by rw [← HX.out]; exact hk)]⟩
        have heq : (y.f1 == seq) = false := beq_eq_false_iff_ne.2 hk
        clear hk
        go_wp2
        go_roundg g1
        case measure => omega
        case rel => exact ⟨x + 1, by first | go_num | rw [wsucc x (by have := HL.out; omega)], ⟨by have := HK.out; omega⟩, ⟨by rw [HN.out]; exact HO.out⟩, HB⟩
    · have e : L.take x = L := List.take_of_length_le (by omega)
      rw [e] at HO
      clear e
      go_wp2
      go_ret
      exact ⟨_, rfl, HO.out, HB.out⟩

/-! ### Top -/
def IsTopR (L : List Cell) (seq t : Int) : Prop := 0 ≤ t ∧ (∀ c ∈ L, c.f1 ≤ seq → c.f2 ≤ t) ∧ (t = 0 ∨ ∃ c ∈ L, c.f1 ≤ seq ∧ c.f2 = t)
theorem IsTopR.unique {f : ByteArray → Option Cell} {L : List Cell} {seq t u : Int} (hL : Lists keyC f L) (h : IsTop f seq t) (h' : IsTopR L seq u) : t = u := by
  obtain ⟨a0, a1, a2⟩ := h
  obtain ⟨b0, b1, b2⟩ := h'
  have h1 : t ≤ u := by
    rcases a2 with rfl | ⟨k, c, h3, h4, rfl⟩
    · exact b0
    · exact b1 c ((hL.get k c).1 h3).1 h4
  have h2 : u ≤ t := by
    rcases b2 with rfl | ⟨c, h3, h4, rfl⟩
    · exact a0
    · exact a1 (keyC c) c ((hL.get (keyC c) c).2 ⟨h3, rfl⟩) h4
  omega
theorem topR_step {L : List Cell} {seq t t' : Int} {x : Nat} (h : IsTopR (L.take x) seq t) (hx : x < L.length) (h1 : t ≤ t') (h2 : L[x].f1 ≤ seq → L[x].f2 ≤ t') (h3 : t' = t ∨ (t' = L[x].f2 ∧ L[x].f1 ≤ seq)) : IsTopR (L.take (x + 1)) seq t' := by
  obtain ⟨a0, a1, a2⟩ := h
  rw [List.take_succ_eq_append_getElem hx]
  refine ⟨by omega, fun c hc hle => ?_, ?_⟩
  · rcases List.mem_append.1 hc with hc | hc
    · have := a1 c hc hle
      omega
    · rw [List.mem_singleton] at hc
      subst hc
      exact h2 hle
  · rcases h3 with rfl | ⟨rfl, hle⟩
    · rcases a2 with h | ⟨c, hc, h4, h5⟩
      · exact .inl h
      · exact .inr ⟨c, List.mem_append.2 (.inl hc), h4, h5⟩
    · exact .inr ⟨L[x], List.mem_append.2 (.inr (List.mem_singleton.2 rfl)), hle, rfl⟩

set_option maxHeartbeats 2000000 in
set_option maxRecDepth 100000 in
theorem refSTop_any (w : World) (g : Nat) (L : List Cell) (seq : Int) (h : RefSIs w g L) (hl : L.length ≤ 1000000) :
    Calls Tryd.prog 90 #[.pointer (some ⟨g, 0, none⟩), .int .u32 seq] w fun e w' => (∃ t, e = .returned (.int .u32 t) ∧ IsTopR L seq t) ∧ w = w' := by
  have hgl := h.lt
  obtain ⟨A, c, hg, hlc, hC⟩ := h
  have hcell : w.cell? ⟨g, 0, none⟩ = some (.slice A L.length c) := by simp [World.cell?, hg]
  have HC := Aside0.mk hC
  have HL := Aside0.mk hl
  clear hC hl hg hlc
  go_enter Tryd.func90, Tryd.ntmps90
  go_wp2
  go_loop [5, 6] (fun v5 v6 => ∃ (x : Nat) (t : Int), v6 = .int .i64 x ∧ v5 = .int .u32 t ∧ Aside0 (x ≤ L.length) ∧ Aside0 (IsTopR (L.take x) seq t)) (fun _ v6 => L.length - (intOf v6).toNat)
  case atStart => exact ⟨0, 0, rfl, rfl, ⟨by omega⟩, ⟨Int.le_refl _, by simp, .inl rfl⟩⟩
  case round =>
    obtain ⟨x, t, rfl, rfl, HK, HT⟩ := hrel
    by_cases q : x < L.length
    · have q' : (x : Int) < (L.length : Int) := by omega
      have p1 : (0 : Int) ≤ (x : Int) := by omega
      obtain ⟨ad, e, d0, d1, d2⟩ := atCell HC.out (x : Int) p1 q'
      cases e
      rw [Int.toNat_natCast] at d0 d1 d2
      have HX : Aside0 (rdCell L (x : Int) = L[x]) := ⟨by rw [rdCell_get (by simpa using q)]; simp⟩
      generalize rdCell L (x : Int) = y at *
      by_cases hk : y.f1 ≤ seq
      · by_cases hm : t < y.f2
        · have HN : Aside0 (IsTopR (L.take (x + 1)) seq y.f2) := ⟨topR_step HT.out q (by omega) (fun _ => by rw [← HX.out]; exact Int.le_refl _) (.inr ⟨by rw [← HX.out], by rw [← HX.out]; exact hk⟩)⟩
          go_wp2
          go_round
          case rel => exact ⟨x + 1, y.f2, by first | go_num | rw [wsucc x (by have := HL.out; omega)], by first | rfl | (congr 1; omega), ⟨by omega⟩, HN⟩
          case measure => have := HL.out; first | (simp [intOf]; omega) | (rw [wsucc x (by omega)]; simp [intOf]; omega)
        · have HN : Aside0 (IsTopR (L.take (x + 1)) seq t) := ⟨topR_step HT.out q (by omega) (fun _ => by rw [← HX.out]; omega) (.inl rfl)⟩
          go_wp2
          go_round
          case rel => exact ⟨x + 1, t, by first | go_num | rw [wsucc x (by have := HL.out; omega)], by first | rfl | (congr 1; omega), ⟨by omega⟩, HN⟩
          case measure => have := HL.out; first | (simp [intOf]; omega) | (rw [wsucc x (by omega)]; simp [intOf]; omega)
      · have HN : Aside0 (IsTopR (L.take (x + 1)) seq t) := ⟨topR_step HT.out q (by omega) (fun h => by rw [← HX.out] at h; exact absurd h hk) (.inl rfl)⟩
        go_wp2
        go_round
        case rel => exact ⟨x + 1, t, by first | go_num | rw [wsucc x (by have := HL.out; omega)], rfl, ⟨by omega⟩, HN⟩
        case measure => have := HL.out; first | (simp [intOf]; omega) | (rw [wsucc x (by omega)]; simp [intOf]; omega)
    · have e : L.take x = L := List.take_of_length_le (by omega)
      rw [e] at HT
      clear e
      go_wp2
      go_ret
      exact ⟨⟨_, rfl, HT.out⟩, rfl⟩

/-! ### Drop -/
def goneL (seq fr : Int) (L : List Cell) : List ByteArray := (L.filter fun c => outP seq fr c).map keyC
def keptL (seq fr : Int) (L : List Cell) : List Cell := L.filter fun c => !outP seq fr c
theorem drop_take (seq fr : Int) (L : List Cell) (x : Nat) (h : x < L.length) : (outP seq fr L[x] = true → goneL seq fr (L.take (x + 1)) = goneL seq fr (L.take x) ++ [L[x].f0] ∧ keptL seq fr (L.take (x + 1)) = keptL seq fr (L.take x)) ∧
    (outP seq fr L[x] = false → goneL seq fr (L.take (x + 1)) = goneL seq fr (L.take x) ∧ keptL seq fr (L.take (x + 1)) = keptL seq fr (L.take x) ++ [L[x]]) := by
  unfold goneL keptL
  rw [List.take_succ_eq_append_getElem h, List.filter_append, List.filter_append]
  constructor
  · intro e; simp [e]
  · intro e; simp [e]
theorem goneL_le (seq fr : Int) (L : List Cell) : (goneL seq fr L).length ≤ L.length := by unfold goneL; rw [List.length_map]; exact List.length_filter_le _ _
theorem keptL_le (seq fr : Int) (L : List Cell) : (keptL seq fr L).length ≤ L.length := List.length_filter_le _ _

set_option maxHeartbeats 4000000 in
set_option maxRecDepth 100000 in
theorem refSDrop_any (w : World) (g : Nat) (L : List Cell) (seq fr : Int) (h : RefSIs w g L) (hl : L.length ≤ 1000000) :
    Calls Tryd.prog 87 #[.pointer (some ⟨g, 0, none⟩), .int .u32 seq, .int .u32 fr] w fun e w' => ∃ v, e = .returned v ∧ Kd.R Kd.string 9 w' w.heap.size (fun _ => True) v (goneL seq fr L) ∧ RefSIs w' g (keptL seq fr L) ∧ w.grownBy w' (some g) := by
  have hgl := h.lt
  have H := Aside0.mk h
  obtain ⟨A, c, hg, hlc, hC⟩ := h
  have hcell0 : w.cell? ⟨g, 0, none⟩ = some (.slice A L.length c) := by simp [World.cell?, hg]
  have HG := Aside0.mk hg
  have HC := Aside0.mk hC
  have HL := Aside0.mk hl
  clear hC hl hg hlc
  go_enter Tryd.func87, Tryd.ntmps87
  go_wp2
  go_loopg [7, 8, 9] L.length (fun kq v7 v8 v9 w' => ∃ (x : Nat), v9 = .int .i64 x ∧ Aside0 (x + kq = L.length) ∧ Aside0 (Kd.R Kd.string 9 w' w.heap.size (fun _ => True) v7 (goneL seq fr (L.take x))) ∧ Aside0 (Kd.R kCell 57 w' w.heap.size (fun _ => True) v8 (keptL seq fr (L.take x))) ∧ Aside0 (Below w.heap.size w w'))
  case atStart => exact ⟨0, rfl, ⟨by simp⟩, ⟨by simpa [goneL] using Kd.R_nil _ _ _ _ _⟩, ⟨by simpa [keptL] using Kd.R_nil _ _ _ _ _⟩, ⟨Below.refl _ _⟩⟩
  case round =>
    obtain ⟨x, rfl, HK, HO, HP, HB⟩ := hrel
    have hcell := pw_cell_below HB.out hcell0
    have hgr : g < wr.heap.size := Nat.lt_of_lt_of_le hgl HB.out.size
    by_cases q : x < L.length
    · have q' : (x : Int) < (L.length : Int) := by omega
      have p1 : (0 : Int) ≤ (x : Int) := by omega
      obtain ⟨g1, rfl⟩ : ∃ g1, gk = g1 + 1 := ⟨gk - 1, by have := HK.out; omega⟩
      obtain ⟨ad, e, d0, d1, d2⟩ := atCell (Kd.C_below HC.out HB.out) (x : Int) p1 q'
      cases e
      rw [Int.toNat_natCast] at d0 d1 d2
      have HX : Aside0 (rdCell L (x : Int) = L[x]) := ⟨by rw [rdCell_get (by simpa using q)]; simp⟩
      generalize rdCell L (x : Int) = y at *
      have HMl : Aside0 ((goneL seq fr (L.take x)).length ≤ 1000000000 ∧ (keptL seq fr (L.take x)).length ≤ 1000000000) := ⟨by have := goneL_le seq fr (L.take x); rw [List.length_take] at this; have := HL.out; omega, by have := keptL_le seq fr (L.take x); rw [List.length_take] at this; have := HL.out; omega⟩
      have HDT := Aside0.mk (drop_take seq fr L x q)
      rw [← HX.out] at HDT
      by_cases ho : outP seq fr y = true
      · have hsp : y.f1 ≤ seq ∨ (¬ y.f1 ≤ seq ∧ y.f2 ≤ fr) := by
          unfold outP at ho
          simp at ho
          omega
        have HN := Aside0.mk (HDT.out.1 ho)
        clear ho HDT
        rcases hsp with h1 | ⟨h1, h2⟩
        all_goals
          go_wp2_with (at_builtin; refine appStr (w0 := w) w.heap.size rfl (.tmp 41) (.tmp 50) wr.heap.size rfl u7 (goneL seq fr (L.take x)) y.f0 rfl rfl rfl ?aO ?aB ?aS ?aL ?_; (case aO => exact HO.out); (case aB => exact HB.out); (case aS => exact HB.out.size); (case aL => exact HMl.out.1); intro v1 w3 ho hb hg hat; have HO3 := Aside0.mk ho; have HB3 := Aside0.mk hb; have HG3 := Aside0.mk hg; clear ho hb hg hat)
          have HP3 : Aside0 (Kd.R kCell 57 w3 w.heap.size (fun _ => True) u8 (keptL seq fr (L.take x))) := ⟨Kd.R_over' HP.out (Kd.R_typed HO.out) (by decide) HG3.out⟩
          go_roundg g1
          case measure => omega
          case rel => exact ⟨x + 1, by first | go_num | rw [wsucc x (by have := HL.out; omega)], ⟨by have := HK.out; omega⟩, ⟨by rw [HN.out.1]; exact HO3.out⟩, ⟨by rw [HN.out.2]; exact HP3.out⟩, HB3⟩
      · have ho' : outP seq fr y = false := by simpa using ho
        have h1 : ¬ y.f1 ≤ seq := by unfold outP at ho'; simp at ho'; omega
        have h2 : ¬ y.f2 ≤ fr := by unfold outP at ho'; simp at ho'; omega
        have HN := Aside0.mk (HDT.out.2 ho')
        clear ho ho' HDT
        go_wp2_with (at_builtin; refine appCell (w0 := w) w.heap.size rfl (.tmp 52) (.tmp 60) wr.heap.size rfl u8 (keptL seq fr (L.take x)) y rfl rfl rfl ?aO ?aB ?aS ?aL ?_; (case aO => exact HP.out); (case aB => exact HB.out); (case aS => exact HB.out.size); (case aL => exact HMl.out.2); intro v1 w3 ho hb hg hat; have HO3 := Aside0.mk ho; have HB3 := Aside0.mk hb; have HG3 := Aside0.mk hg; clear ho hb hg hat)
        have HP3 : Aside0 (Kd.R Kd.string 9 w3 w.heap.size (fun _ => True) u7 (goneL seq fr (L.take x))) := ⟨Kd.R_over' HO.out (Kd.R_typed HP.out) (by decide) HG3.out⟩
        go_roundg g1
        case measure => omega
        case rel => exact ⟨x + 1, by first | go_num | rw [wsucc x (by have := HL.out; omega)], ⟨by have := HK.out; omega⟩, ⟨by rw [HN.out.1]; exact HP3.out⟩, ⟨by rw [HN.out.2]; exact HO3.out⟩, HB3⟩
    · have e : L.take x = L := List.take_of_length_le (by omega)
      rw [e] at HO HP
      clear e
      obtain ⟨A8, c8, n8, rfl, HN8⟩ : ∃ A c n, u8 = .slice A n c ∧ Aside0 (n = (keptL seq fr L).length) := by
        obtain ⟨A, c, e⟩ := Kd.R_slice HP.out
        exact ⟨A, c, _, e, ⟨rfl⟩⟩
      have hblk := (HB.out.block g hgl).trans HG.out
      have hfr : wr.frozen? ⟨g, 0, none⟩ = false := by simp [World.frozen?, hblk]
      have HF : Aside0 (RefSIs (wr.setCell ⟨g, 0, none⟩ (.slice A8 n8 c8)) g (keptL seq fr L) ∧ w.grownBy (wr.setCell ⟨g, 0, none⟩ (.slice A8 n8 c8)) (some g) ∧ Kd.R Kd.string 9 (wr.setCell ⟨g, 0, none⟩ (.slice A8 n8 c8)) w.heap.size (fun _ => True) u7 (goneL seq fr L)) := ⟨RefSIs.set hblk rfl hgl HP.out, World.grownBy.trans (grown_of_below HB.out _) (grown_set _ _ _), Kd.R_mono (Kd.R_far (p := ⟨g, 0, none⟩) (Kd.R_bound HO.out) (fun k hk => by have := hk.2.1; simp only; omega) _) (fun _ _ => trivial)⟩
      clear hblk
      go_wp2
      go_ret
      exact ⟨_, rfl, HF.out.2.2, HF.out.1, HF.out.2.1⟩
end
section
open Go.RowKit Go.Proofs.YtmionoghpjpbaaaDoorW.PrintWords Go.Proofs.YtmionoghpjpbaaaDoorW.PrintLast Go.Proofs.YtmionoghpjpbaaaDoorW.PrintMore
open Go.Proofs.YtmionoghpjpbaaaDoorM
set_option linter.unusedVariables false
set_option linter.unusedSimpArgs false
attribute [local go_sem ↓] Go.wp_at_zero Go.wp_at_succ

theorem cutC_to (A : Option Addr) (n c k : Nat) (hk : k ≤ n) (hc : n ≤ c) (W : World) : (Instr.slice 78 (.slice A n c) none (some (.int .i64 k)) none).run Tryd.prog W = .ok (.slice A k c) W := by
  obtain ⟨i0, hi, hzz⟩ := Option.map_eq_some_iff.1 infoOfCell
  simp only [Prod.mk.injEq] at hzz
  have hel : Tryd.prog.elem 78 = 57 := by simp [Program.elem, Tryd.underlying78]
  have hu : Tryd.prog.underlying 78 = some (.slice (Tryd.prog.elem 78)) := by rw [hel]; exact Tryd.underlying78
  have ha : (A.map fun x => x.add 0) = A := by cases A <;> simp [Addr.add]
  rw [run_slice_h W 78 A n c hu .i64 k (by omega) (by omega), hel]
  simp [sizeOf, typeInfo, hi, hzz.2.1, sliced, Result.andThen, ha]
theorem cutC_from (A : Option Addr) (n c k : Nat) (hk : k ≤ n) (hc : n ≤ c) (W : World) : (Instr.slice 78 (.slice A n c) (some (.int .i64 k)) none none).run Tryd.prog W = .ok (.slice (if c = k then A else A.map (·.add (k * 3))) (n - k) (c - k)) W := by
  obtain ⟨i0, hi, hzz⟩ := Option.map_eq_some_iff.1 infoOfCell
  simp only [Prod.mk.injEq] at hzz
  have hel : Tryd.prog.elem 78 = 57 := by simp [Program.elem, Tryd.underlying78]
  have hu : Tryd.prog.underlying 78 = some (.slice (Tryd.prog.elem 78)) := by rw [hel]; exact Tryd.underlying78
  rw [run_slice_l W 78 A n c hu .i64 k (by omega) (by omega), hel]
  simp [sizeOf, typeInfo, hi, hzz.2.1, sliced, Result.andThen]
theorem C_oneC (w : World) (a : Cell) : Kd.C kCell (w.alloc (.cells #[.string a.f0, .int .u32 a.f1, .int .u32 a.f2] 57)) (some ⟨w.heap.size, 0, none⟩) 1 [a] :=
  C_lit kCell w 57 [a] [.string a.f0, .int .u32 a.f1, .int .u32 a.f2] (Reps.snoc (Reps.none _ _) (kCell_mk _ a) rfl) (by simp [maxLen])
theorem C_keptC {w w' : World} {A : Option Addr} {n : Nat} {xs : List Cell} (hg : w.grownBy w' none) (h : Kd.C kCell w A n xs) : Kd.C kCell w' A n xs :=
  Kd.C_below h ⟨hg.os, hg.tape, hg.output, hg.size, fun i hi => hg.block i hi (by simp)⟩

set_option maxHeartbeats 8000000 in
set_option maxRecDepth 100000 in
theorem refApply_any (w : World) (g : Nat) (L : List Cell) (f : ByteArray → Option Cell) (n : Nat) (seq prev fr : Int) (A : Option Addr) (c : Nat) (l : List Write) (hC : Kd.C kWrite w A l.length l) (hA : ∀ ad, A = some ad → ad.block ≠ g) (h : RefSIs w g L)
    (hL : Lists keyC f L) (hl : L.length + l.length ≤ 1000000) (hs : ∀ x ∈ l, x.f0.size ≤ 1000000000) (hk : ∀ a ∈ L, a.f0.size ≤ 1000000000) :
    Calls Tryd.prog 91 #[.pointer (some ⟨g, 0, none⟩), .agg #[.int .u32 seq, .int .u32 prev, .int .u32 fr, .slice A l.length c]] w fun e w' =>
      ∃ L', e = .returned (.tuple #[]) ∧ RefSIs w' g L' ∧ Lists keyC (lays seq fr (f, n) l).1 L' ∧ L'.length ≤ L.length + l.length ∧ (∀ a ∈ L', a.f0.size ≤ 1000000000) ∧ w.grownBy w' (some g) := by
  have HC : Aside0 (Kd.C kWrite (w.alloc (groupBox seq prev fr (.slice A l.length c))) A l.length l) := ⟨Kd.C_alloc hC _⟩
  have HL := Aside0.mk hl
  have HLi := Aside0.mk hL
  have HS := Aside0.mk (And.intro hs hk)
  have H : Aside0 (RefSIs (w.alloc (groupBox seq prev fr (.slice A l.length c))) g L) := ⟨h.alloc _⟩
  have HA := Aside0.mk hA
  have HGB0 : Aside0 (g < w.heap.size) := ⟨h.lt⟩
  have hml := hC.2.1
  obtain ⟨B, hB⟩ : ∃ B, Aside0 (w.heap.size = B) := ⟨_, ⟨rfl⟩⟩
  have HGX0 : Aside0 ((w.alloc (groupBox seq prev fr (.slice A l.length c))).heap[B]? = some (groupBox seq prev fr (.slice A l.length c))) := ⟨by rw [← hB.out]; exact heap_alloc_new _ _⟩
  have HW0 : Aside0 (w.grownBy (w.alloc (groupBox seq prev fr (.slice A l.length c))) (some g)) := ⟨World.grownBy_alloc _ _ _⟩
  clear hC hl h hA hL hs hk
  go_enter Tryd.func91, Tryd.ntmps91
  rw [hB.out] at HGB0
  go_wp2
  rw [hB.out]
  go_loopg [4] l.length (fun kq v4 w' => ∃ (x : Nat) (L' : List Cell), v4 = .int .i64 x ∧ Aside0 (x + kq = l.length) ∧ Aside0 (RefSIs w' g L') ∧ Aside0 (Lists keyC (lays seq fr (f, n) (l.take x)).1 L' ∧ L'.length ≤ L.length + x ∧ ∀ a ∈ L', a.f0.size ≤ 1000000000) ∧ Aside0 (w.grownBy w' (some g)) ∧ Aside0 (Kd.C kWrite w' A l.length l) ∧ Aside0 (w'.heap[B]? = some (groupBox seq prev fr (.slice A l.length c))))
  case atStart => exact ⟨0, L, rfl, ⟨by simp⟩, H, ⟨by simpa [lays] using HLi.out, by simp, HS.out.2⟩, HW0, HC, HGX0⟩
  case round =>
    obtain ⟨x, L', rfl, HK, HR, HP, HG, HC2, HGX⟩ := hrel
    obtain ⟨gb0, gb1, gb2, gb3, _, _, _, _⟩ := fourCells HGX.out
    have hBr : B < wr.heap.size := (Array.getElem?_eq_some_iff.1 HGX.out).1
    by_cases q : x < l.length
    · have q' : (x : Int) < (l.length : Int) := by omega
      have p1 : (0 : Int) ≤ (x : Int) := by omega
      obtain ⟨g1, rfl⟩ : ∃ g1, gk = g1 + 1 := ⟨gk - 1, by have := HK.out; omega⟩
      obtain ⟨ad2, e, d0, d1, d2⟩ := atWrite HC2.out (x : Int) p1 q'
      have HAD := Aside0.mk (HA.out ad2 e)
      cases e
      rw [Int.toNat_natCast] at d0 d1 d2
      have HX : Aside0 (rdWrite l (x : Int) = l[x]) := ⟨by rw [rdWrite_get (by simpa using q)]; simp⟩
      generalize rdWrite l (x : Int) = y at *
      have HSy : Aside0 (y.f0.size ≤ 1000000000) := ⟨by rw [HX.out]; exact HS.out.1 _ (List.getElem_mem q)⟩
      have HLn : Aside0 (L'.length ≤ 1000000) := ⟨by have := HP.out.2.1; have := HL.out; omega⟩
      obtain ⟨wo, rfl⟩ : ∃ wo : World, wo = wr := ⟨_, rfl⟩
      go_wp2_with fail
      obtain ⟨bw, hbw⟩ : ∃ bw, Aside0 (wo.heap.size = bw) := ⟨_, ⟨rfl⟩⟩
      have HWX0 : Aside0 ((wo.alloc (.cells #[.string y.f0, .bool y.f1, .string y.f2] 44)).heap[bw]? = some (.cells #[.string y.f0, .bool y.f1, .string y.f2] 44 (0, 0))) := ⟨by rw [← hbw.out]; exact heap_alloc_new _ _⟩
      have HBa : Aside0 (Below wo.heap.size wo (wo.alloc (.cells #[.string y.f0, .bool y.f1, .string y.f2] 44))) := ⟨below_alloc (Below.refl _ _) _⟩
      rw [hbw.out]
      refine (refSWithout_any _ g L' y.f0 (HR.out.alloc _) HLn.out).mono ?_
      rintro e w2 ⟨v, rfl, hR, hb⟩
      have HBw : Aside0 (Below wo.heap.size wo w2) := ⟨below_then HBa.out HBa.out.size hb⟩
      have HWX := Aside0.mk (blkB HWX0.out hb)
      replace HGX := Aside0.mk (blkB HGX.out HBw.out)
      have HRlow := Kd.R_lower hR (by simp : wo.heap.size ≤ (wo.alloc (.cells #[.string y.f0, .bool y.f1, .string y.f2] 44)).heap.size)
      obtain ⟨R, hRE⟩ : ∃ R, Aside0 (R = lessC y.f0 L') := ⟨_, ⟨rfl⟩⟩
      have HRE : Aside0 (R = L'.filter fun c => !decide (keyC c = y.f0)) := hRE
      rw [← hRE.out] at HRlow
      clear hR
      have HRL2 : Aside0 (R.length ≤ L'.length) := ⟨by rw [hRE.out]; exact lessC_le _ _⟩
      have HRL : Aside0 (R.length ≤ 1000000) := ⟨by have := HRL2.out; have := HLn.out; omega⟩
      have HRM : Aside0 (∀ a ∈ R, a ∈ L') := ⟨fun a ha => by rw [hRE.out] at ha; exact (List.mem_filter.1 ha).1⟩
      obtain ⟨AR, c1, rfl, hl1, hC1⟩ := Kd.R_reads HRlow
      have HC1 := Aside0.mk hC1
      have HR2 := Aside0.mk HRlow
      obtain ⟨A0, cp0, hblk, _, _⟩ := HR.out
      have hblk2 := (HBw.out.block g HR.out.lt).trans hblk
      have hgw : g < w2.heap.size := (Array.getElem?_eq_some_iff.1 hblk2).1
      have HGo : Aside0 (g < wo.heap.size) := ⟨HR.out.lt⟩
      have HGB : Aside0 (g < B ∧ B < bw ∧ bw < w2.heap.size) := ⟨HGB0.out, by rw [← hbw.out]; exact hBr, (Array.getElem?_eq_some_iff.1 HWX.out).1⟩
      obtain ⟨gv, hgv⟩ : ∃ gv, Aside0 ((.slice A0 L'.length cp0 : Value) = gv) := ⟨_, ⟨rfl⟩⟩
      rw [hgv.out] at hblk2
      have hcell : w2.cell? ⟨g, 0, none⟩ = some gv := by simp [World.cell?, hblk2]
      have hfr : w2.frozen? ⟨g, 0, none⟩ = false := by simp [World.frozen?, hblk2]
      have HCw : Aside0 (Kd.C kWrite w2 (some ad2) l.length l) := ⟨Kd.C_below HC2.out HBw.out⟩
      clear d0 d1 d2 gb0 gb1 gb2 gb3 HRlow hb hblk hC1
      obtain ⟨gb0, gb1, gb2, gb3, _, _, _, _⟩ := fourCells HGX.out
      obtain ⟨hw0, hw1, hw2, _, _, _⟩ := box_cell3 HWX.out
      have hbB : B < w2.heap.size := by have := HGB.out; omega
      have hbW : bw < w2.heap.size := by have := HGB.out; omega
      cases hd : y.f1
      · rw [hd] at hw1
        have HDl := Aside0.mk hd
        clear hd
        go_wp2_with fail
        go_loopg [7] R.length (fun kq v7 w' => ∃ k : Nat, v7 = .int .i64 k ∧ Aside0 (k + kq = R.length) ∧ Aside0 (∀ j, (hj : j < k) → (hl : j < R.length) → ltF (keyC R[j]) y.f0 = true) ∧ Aside0 (Below w2.heap.size w2 w'))
        case atStart => exact ⟨0, rfl, ⟨by simp⟩, ⟨fun j hj => by omega⟩, ⟨Below.refl _ _⟩⟩
        case round =>
          obtain ⟨k, rfl, HK2, HJ, HB2⟩ := hrel
          by_cases qk : k < R.length
          · have qk' : (k : Int) < (R.length : Int) := by omega
            have p0 : (0 : Int) ≤ (k : Int) := by omega
            obtain ⟨ad1, e1, b0, _⟩ := atCell (Kd.C_below HC1.out HB2.out) (k : Int) p0 qk'
            cases e1
            rw [Int.toNat_natCast] at b0
            have hd0 := pw_cell_below HB2.out hw0
            have HO1 : Aside0 ((rdCell R (k : Int)) = R[k]) := ⟨by rw [rdCell_get (by simpa using qk)]; simp⟩
            generalize rdCell R (k : Int) = o at *
            have HOS : Aside0 (o.f0.size ≤ 1000000000) := ⟨by rw [HO1.out]; exact HP.out.2.2 _ (HRM.out _ (List.getElem_mem qk))⟩
            cases hlt : ltF o.f0 y.f0
            · have HLT := Aside0.mk hlt
              clear hlt
              go_wp2_with fail
              go_region_held3 (fun w' => w'.cell? (ad1.add (k * 3)) = some (.string o.f0) ∧ w'.cell? ⟨bw, 0, none⟩ = some (.string y.f0))
                (first | exact ⟨b0, hd0⟩ | exact ⟨pw_cell_below hb3 b0, pw_cell_below hb3 hd0⟩)
                (first | (go_at_call 81; refine (ahead_any o.f0 y.f0 HOS.out HSy.out _).mono ?_; rintro e wv ⟨rfl, hb3⟩; rw [HLT.out]))
              have HBv : Aside0 (Below w2.heap.size w2 wv) := ⟨below_then HB2.out HB2.out.size (below_undrew hb3)⟩
              clear hb3 b0 hd0 HB2
              have HKL : Aside0 (k ≤ R.length) := ⟨by omega⟩
              have HCv : Aside0 (Kd.C kWrite wv (some ad2) l.length l) := ⟨Kd.C_below HCw.out HBv.out⟩
              have HSTOP : Aside0 (∀ hj : k < R.length, ltF (keyC R[k]) y.f0 = false) := ⟨fun hj => by rw [← HO1.out]; exact HLT.out⟩
              have HT : Aside0 (Kd.C kCell wv (some ad1) k (R.take k)) := ⟨by
                have h := Kd.C_take (m := k) (Kd.C_below HC1.out HBv.out) (by have := HKL.out; omega)
                rwa [List.length_take, Nat.min_eq_left HKL.out] at h⟩
              have HD : Aside0 (Kd.C kCell wv (if c1 = k then (some ad1) else (some ad1).map (·.add (k * 3))) (R.length - k) (R.drop k)) := ⟨by
                have h := Kd.C_drop (m := k) (c := c1) (Kd.C_below HC1.out HBv.out) HKL.out hl1
                rw [List.length_drop] at h
                exact h⟩
              have HLN : Aside0 ((([] : List Cell).length + k) * 24 ≤ 140737488355328 ∧ ((R.take k).length + 1) * 24 ≤ 140737488355328 ∧ ((R.take k ++ [(⟨y.f0, seq, fr⟩ : Cell)]).length + (R.length - k)) * 24 ≤ 140737488355328) := ⟨by
                have := HRL.out
                have := HKL.out
                simp
                omega⟩
              have hcut1 := cutC_to (some ad1) R.length c1 k HKL.out hl1
              have hcut2 := cutC_from (some ad1) R.length c1 k HKL.out hl1
              have e0 := pw_cell_below HBv.out hw0
              have e1 := pw_cell_below HBv.out gb0
              have e2 := pw_cell_below HBv.out gb2
              have hcg := pw_cell_below HBv.out hcell
              have hblkv := (HBv.out.block g hgw).trans hblk2
              have hfg : wv.frozen? ⟨g, 0, none⟩ = false := by simp [World.frozen?, hblkv]
              have HFG : Aside0 (∀ W, Below wv.heap.size wv W → W.frozen? ⟨g, 0, none⟩ = false) := ⟨fun W hb => by simp [World.frozen?, (hb.block g (Array.getElem?_eq_some_iff.1 hblkv).1).trans hblkv]⟩
              have HKP : Aside0 (∀ W, Below wv.heap.size wv W → W.cell? ⟨bw, 0, none⟩ = some (.string y.f0) ∧ W.cell? ⟨B, 0, none⟩ = some (.int .u32 seq) ∧ W.cell? ⟨B, 2, none⟩ = some (.int .u32 fr)) := ⟨fun W hb => ⟨pw_cell_below hb e0, pw_cell_below hb e1, pw_cell_below hb e2⟩⟩
              have HKS : Aside0 (∀ W, Below wv.heap.size wv W → ∀ u, (W.setCell ⟨g, 0, none⟩ u).cell? ⟨bw, 0, none⟩ = some (.string y.f0) ∧ (W.setCell ⟨g, 0, none⟩ u).cell? ⟨B, 0, none⟩ = some (.int .u32 seq) ∧ (W.setCell ⟨g, 0, none⟩ u).cell? ⟨B, 2, none⟩ = some (.int .u32 fr)) := ⟨fun W hb u => ⟨(grown_set W ⟨g, 0, none⟩ u).cell (pw_cell_below hb e0) (fun e => by injection e with e; have e2 : bw = g := e; have := HGB.out; omega), (grown_set W ⟨g, 0, none⟩ u).cell (pw_cell_below hb e1) (fun e => by injection e with e; have e2 : B = g := e; have := HGB.out; omega), (grown_set W ⟨g, 0, none⟩ u).cell (pw_cell_below hb e2) (fun e => by injection e with e; have e2 : B = g := e; have := HGB.out; omega)⟩⟩
              have HBV := Aside0.mk hblkv
              have hgv : g < wv.heap.size := (Array.getElem?_eq_some_iff.1 hblkv).1
              clear hblkv
              go_wp2_with fail
              go_region_held3 (fun W => W.cell? ⟨bw, 0, none⟩ = some (.string y.f0) ∧ W.cell? ⟨B, 0, none⟩ = some (.int .u32 seq) ∧ W.cell? ⟨B, 2, none⟩ = some (.int .u32 fr))
                (first | exact ⟨e0, e1, e2⟩ | exact HKP.out _ (Below.refl _ _) | exact HKP.out _ (pw_below_drewN (Below.refl _ _) _) | exact HKP.out _ (below_alloc (pw_below_drewN (Below.refl _ _) _) _) | exact HKP.out _ (below_alloc (Below.refl _ _) _) | exact HKP.out _ (hb1) | exact HKP.out _ (below_alloc hb1 _) | exact HKP.out _ (hb3) | exact HKP.out _ (hb4) | exact HKP.out _ (below_drew (Below.refl _ _)) | exact HKP.out _ (below_drew (pw_below_drewN (Below.refl _ _) _)) | exact HKP.out _ (below_drew (below_alloc (pw_below_drewN (Below.refl _ _) _) _)) | exact HKP.out _ (below_drew (below_alloc (Below.refl _ _) _)) | exact HKP.out _ (below_drew (hb1)) | exact HKP.out _ (below_drew (below_alloc hb1 _)) | exact HKP.out _ (below_drew (hb3)) | exact HKP.out _ (below_drew (hb4)) | exact HKS.out _ hb4 _)
                (first | (refine Kd.R_append_rows_step kCell (w0 := wv) wv.heap.size (by rfl) (.const (.slice none 0 0)) (.tmp 49) 78 57 (.agg #[.string ⟨#[]⟩, .int .u32 0, .int .u32 0]) 24 (by rfl) Tryd.underlying78 infoOfCell rfl (by decide) (by decide) (.slice none 0 0) [] (R.take k) (some ad1) k c1 (fun _ => True) (fun _ => False) (by rfl) (by rfl) (Kd.R_nil _ _ _ _ _) (Kd.C_below HT.out (by (repeat (first | apply below_alloc | apply below_drew1 | apply pw_below_drewN)); first | exact hb3 | exact hb1 | exact Below.refl _ _)) (fun z cs h => by rw [kCell_open h]; exact kCell_mkM _ _ _ z) (fun _ h => h.elim) (fun _ _ => trivial) (by (repeat (first | apply below_alloc | apply below_drew1 | apply pw_below_drewN)); first | exact hb3 | exact hb1 | exact Below.refl _ _) (by first | exact hb1.size | exact hb3.size | exact Nat.le_refl _ | (simp; done) | (have := hb1.size; simp; omega)) HLN.out.1 ?_; intro va w1 ho1 hb1 hg1 hat1) | (refine Kd.R_append_rows_step kCell (w0 := wv) wv.heap.size (by rfl) (.tmp 50) (.tmp 58) 78 57 (.agg #[.string ⟨#[]⟩, .int .u32 0, .int .u32 0]) 24 (by rfl) Tryd.underlying78 infoOfCell rfl (by decide) (by decide) va (R.take k) [(⟨y.f0, seq, fr⟩ : Cell)] (some ⟨w1.heap.size, 0, none⟩) 1 1 (fun _ => True) (fun _ => False) (by rfl) (by rfl) (Kd.R_alloc ho1 _) (C_oneC w1 (⟨y.f0, seq, fr⟩ : Cell)) (fun z cs h => by rw [kCell_open h]; exact kCell_mkM _ _ _ z) (fun _ h => h.elim) (fun _ _ => trivial) (by (repeat (first | apply below_alloc | apply below_drew1 | apply pw_below_drewN)); first | exact hb3 | exact hb1 | exact Below.refl _ _) (by first | exact hb1.size | exact hb3.size | exact Nat.le_refl _ | (simp; done) | (have := hb1.size; simp; omega)) HLN.out.2.1 ?_; intro vb w3 ho3 hb3 hg3 hat3) | (refine Kd.R_append_rows_step kCell (w0 := wv) wv.heap.size (by rfl) (.tmp 50) (.tmp 58) 78 57 (.agg #[.string ⟨#[]⟩, .int .u32 0, .int .u32 0]) 24 (by rfl) Tryd.underlying78 infoOfCell rfl (by decide) (by decide) va (R.take k) [(⟨y.f0, seq, fr⟩ : Cell)] (some ⟨wv.heap.size, 0, none⟩) 1 1 (fun _ => True) (fun _ => False) (by rfl) (by rfl) ho1 (C_keptC hg1 (C_oneC wv (⟨y.f0, seq, fr⟩ : Cell))) (fun z cs h => by rw [kCell_open h]; exact kCell_mkM _ _ _ z) (fun _ h => h.elim) (fun _ _ => trivial) (by (repeat (first | apply below_alloc | apply below_drew1 | apply pw_below_drewN)); first | exact hb3 | exact hb1 | exact Below.refl _ _) (by first | exact hb1.size | exact hb3.size | exact Nat.le_refl _ | (simp; done) | (have := hb1.size; simp; omega)) HLN.out.2.1 ?_; intro vb w3 ho3 hb3 hg3 hat3) | (refine Kd.R_append_rows_step kCell (w0 := wv) wv.heap.size (by rfl) (.tmp 59) (.tmp 62) 78 57 (.agg #[.string ⟨#[]⟩, .int .u32 0, .int .u32 0]) 24 (by rfl) Tryd.underlying78 infoOfCell rfl (by decide) (by decide) vb (R.take k ++ [(⟨y.f0, seq, fr⟩ : Cell)]) (R.drop k) (if c1 = k then (some ad1) else (some ad1).map (·.add (k * 3))) (R.length - k) (c1 - k) (fun _ => True) (fun _ => False) (by rfl) (by rfl) ho3 (Kd.C_below HD.out (by (repeat (first | apply below_alloc | apply below_drew1 | apply pw_below_drewN)); first | exact hb3 | exact hb1 | exact Below.refl _ _)) (fun z cs h => by rw [kCell_open h]; exact kCell_mkM _ _ _ z) (fun _ h => h.elim) (fun _ _ => trivial) (by (repeat (first | apply below_alloc | apply below_drew1 | apply pw_below_drewN)); first | exact hb3 | exact hb1 | exact Below.refl _ _) (by first | exact hb1.size | exact hb3.size | exact Nat.le_refl _ | (simp; done) | (have := hb1.size; simp; omega)) HLN.out.2.2 ?_; intro v4 w4 ho4 hb4 hg4 hat4; obtain ⟨A4, c4, n4, rfl, HN4⟩ : ∃ A c n, v4 = .slice A n c ∧ Aside0 (n = (R.take k ++ [(⟨y.f0, seq, fr⟩ : Cell)] ++ R.drop k).length) := R_letter ho4; have hcg4 := pw_cell_below hb4 hcg; have hfg4 := HFG.out _ hb4))
              all_goals go_wp2
              all_goals
                go_roundg g1
                case measure => omega
                case rel =>
                  have hb4' : (w4.heap[g]? = some (.cells #[gv] 80 (0, 0))) := (hb4.block g hgv).trans HBV.out
                  have hR4 := RefSIs.set (base := wv.heap.size) hb4' rfl hgv ho4
                  have hBf : w4.heap[B]? = some (groupBox seq prev fr (.slice (some ad2) l.length c)) := blkB (blkB HGX.out HBv.out) hb4
                  refine ⟨x + 1, R.take k ++ [(⟨y.f0, seq, fr⟩ : Cell)] ++ R.drop k, by go_num, ⟨by have := HK.out; omega⟩, ⟨hR4⟩, ⟨?_, ?_, ?_⟩, ⟨?_⟩, ⟨?_⟩, ⟨?_⟩⟩
                  · rw [lays_snoc seq fr (f, n) l x q, ← HX.out]
                    unfold lay1
                    rw [if_neg (by rw [HDl.out]; simp)]
                    exact HP.out.1.putL (⟨y.f0, seq, fr⟩ : Cell) HRE.out HKL.out (fun j hj => HJ.out j hj (by have := HKL.out; omega)) HSTOP.out
                  · have := HP.out.2.1
                    have := HRL2.out
                    have := HKL.out
                    simp
                    omega
                  · intro a ha
                    rcases insert_memA.1 ha with h | h
                    · exact HP.out.2.2 a (HRM.out a h)
                    · rw [h]; exact HSy.out
                  · exact ((HG.out.trans (grown_of_below (below_then HBw.out HBw.out.size HBv.out) _)).trans (grown_of_below hb4 _)).trans (grown_set _ _ _)
                  · exact C_set (Kd.C_below HCv.out hb4) (fun ad' e => by cases e; exact HAD.out) (fun _ _ => kWrite_any)
                  · exact ((grown_set w4 ⟨g, 0, none⟩ _).block B (Array.getElem?_eq_some_iff.1 hBf).1 (fun e => by injection e with e; have e2 : B = g := e; have := HGB.out; omega)).trans hBf
            · have HLT := Aside0.mk hlt
              clear hlt
              go_wp2_with fail
              go_region_held3 (fun w' => w'.cell? (ad1.add (k * 3)) = some (.string o.f0) ∧ w'.cell? ⟨bw, 0, none⟩ = some (.string y.f0))
                (first | exact ⟨b0, hd0⟩ | exact ⟨pw_cell_below hb3 b0, pw_cell_below hb3 hd0⟩)
                (first | (go_at_call 81; refine (ahead_any o.f0 y.f0 HOS.out HSy.out _).mono ?_; rintro e wv ⟨rfl, hb3⟩; rw [HLT.out]))
              go_wp2
              obtain ⟨k1, rfl⟩ : ∃ k1, gk = k1 + 1 := ⟨gk - 1, by have := HK2.out; omega⟩
              go_roundg k1
              case measure => omega
              case rel => exact ⟨k + 1, by first | go_num | rw [wsucc k (by have := HRL.out; omega)], ⟨by have := HK2.out; omega⟩, ⟨ahead_stop HJ.out k rfl qk (by rw [← HO1.out]; exact HLT.out)⟩, ⟨below_then HB2.out HB2.out.size (below_undrew hb3)⟩⟩
          · have hk : k = R.length := by have := HK2.out; omega
            have hdd : decide ((k : Int) < (R.length : Int)) = false := by simp; omega
            have HKE := Aside0.mk hk
            clear hk
            have HBv : Aside0 (Below w2.heap.size w2 wr) := HB2
            have HKL : Aside0 (k ≤ R.length) := ⟨by have := HKE.out; omega⟩
            have HCv : Aside0 (Kd.C kWrite wr (some ad2) l.length l) := ⟨Kd.C_below HCw.out HBv.out⟩
            have HSTOP : Aside0 (∀ hj : k < R.length, ltF (keyC R[k]) y.f0 = false) := ⟨fun hj => by have := HKE.out; omega⟩
            go_wp2_with fail
            go_quiet (fail)
            have HT : Aside0 (Kd.C kCell wr AR k (R.take k)) := ⟨by
              have h := Kd.C_take (m := k) (Kd.C_below HC1.out HBv.out) (by have := HKL.out; omega)
              rwa [List.length_take, Nat.min_eq_left HKL.out] at h⟩
            have HD : Aside0 (Kd.C kCell wr (if c1 = k then AR else AR.map (·.add (k * 3))) (R.length - k) (R.drop k)) := ⟨by
              have h := Kd.C_drop (m := k) (c := c1) (Kd.C_below HC1.out HBv.out) HKL.out hl1
              rw [List.length_drop] at h
              exact h⟩
            have HLN : Aside0 ((([] : List Cell).length + k) * 24 ≤ 140737488355328 ∧ ((R.take k).length + 1) * 24 ≤ 140737488355328 ∧ ((R.take k ++ [(⟨y.f0, seq, fr⟩ : Cell)]).length + (R.length - k)) * 24 ≤ 140737488355328) := ⟨by
              have := HRL.out
              have := HKL.out
              simp
              omega⟩
            have hcut1 := cutC_to AR R.length c1 k HKL.out hl1
            have hcut2 := cutC_from AR R.length c1 k HKL.out hl1
            have e0 := pw_cell_below HBv.out hw0
            have e1 := pw_cell_below HBv.out gb0
            have e2 := pw_cell_below HBv.out gb2
            have hcg := pw_cell_below HBv.out hcell
            have hblkv := (HBv.out.block g hgw).trans hblk2
            have hfg : wr.frozen? ⟨g, 0, none⟩ = false := by simp [World.frozen?, hblkv]
            have HFG : Aside0 (∀ W, Below wr.heap.size wr W → W.frozen? ⟨g, 0, none⟩ = false) := ⟨fun W hb => by simp [World.frozen?, (hb.block g (Array.getElem?_eq_some_iff.1 hblkv).1).trans hblkv]⟩
            have HKP : Aside0 (∀ W, Below wr.heap.size wr W → W.cell? ⟨bw, 0, none⟩ = some (.string y.f0) ∧ W.cell? ⟨B, 0, none⟩ = some (.int .u32 seq) ∧ W.cell? ⟨B, 2, none⟩ = some (.int .u32 fr)) := ⟨fun W hb => ⟨pw_cell_below hb e0, pw_cell_below hb e1, pw_cell_below hb e2⟩⟩
            have HKS : Aside0 (∀ W, Below wr.heap.size wr W → ∀ u, (W.setCell ⟨g, 0, none⟩ u).cell? ⟨bw, 0, none⟩ = some (.string y.f0) ∧ (W.setCell ⟨g, 0, none⟩ u).cell? ⟨B, 0, none⟩ = some (.int .u32 seq) ∧ (W.setCell ⟨g, 0, none⟩ u).cell? ⟨B, 2, none⟩ = some (.int .u32 fr)) := ⟨fun W hb u => ⟨(grown_set W ⟨g, 0, none⟩ u).cell (pw_cell_below hb e0) (fun e => by injection e with e; have e2 : bw = g := e; have := HGB.out; omega), (grown_set W ⟨g, 0, none⟩ u).cell (pw_cell_below hb e1) (fun e => by injection e with e; have e2 : B = g := e; have := HGB.out; omega), (grown_set W ⟨g, 0, none⟩ u).cell (pw_cell_below hb e2) (fun e => by injection e with e; have e2 : B = g := e; have := HGB.out; omega)⟩⟩
            have HBV := Aside0.mk hblkv
            have hgv : g < wr.heap.size := (Array.getElem?_eq_some_iff.1 hblkv).1
            clear hblkv
            go_wp2_with fail
            go_region_held3 (fun W => W.cell? ⟨bw, 0, none⟩ = some (.string y.f0) ∧ W.cell? ⟨B, 0, none⟩ = some (.int .u32 seq) ∧ W.cell? ⟨B, 2, none⟩ = some (.int .u32 fr))
              (first | exact ⟨e0, e1, e2⟩ | exact HKP.out _ (Below.refl _ _) | exact HKP.out _ (pw_below_drewN (Below.refl _ _) _) | exact HKP.out _ (below_alloc (pw_below_drewN (Below.refl _ _) _) _) | exact HKP.out _ (below_alloc (Below.refl _ _) _) | exact HKP.out _ (hb1) | exact HKP.out _ (below_alloc hb1 _) | exact HKP.out _ (hb3) | exact HKP.out _ (hb4) | exact HKP.out _ (below_drew (Below.refl _ _)) | exact HKP.out _ (below_drew (pw_below_drewN (Below.refl _ _) _)) | exact HKP.out _ (below_drew (below_alloc (pw_below_drewN (Below.refl _ _) _) _)) | exact HKP.out _ (below_drew (below_alloc (Below.refl _ _) _)) | exact HKP.out _ (below_drew (hb1)) | exact HKP.out _ (below_drew (below_alloc hb1 _)) | exact HKP.out _ (below_drew (hb3)) | exact HKP.out _ (below_drew (hb4)) | exact HKS.out _ hb4 _)
              (first | (refine Kd.R_append_rows_step kCell (w0 := wr) wr.heap.size (by rfl) (.const (.slice none 0 0)) (.tmp 49) 78 57 (.agg #[.string ⟨#[]⟩, .int .u32 0, .int .u32 0]) 24 (by rfl) Tryd.underlying78 infoOfCell rfl (by decide) (by decide) (.slice none 0 0) [] (R.take k) AR k c1 (fun _ => True) (fun _ => False) (by rfl) (by rfl) (Kd.R_nil _ _ _ _ _) (Kd.C_below HT.out (by (repeat (first | apply below_alloc | apply below_drew1 | apply pw_below_drewN)); first | exact hb3 | exact hb1 | exact Below.refl _ _)) (fun z cs h => by rw [kCell_open h]; exact kCell_mkM _ _ _ z) (fun _ h => h.elim) (fun _ _ => trivial) (by (repeat (first | apply below_alloc | apply below_drew1 | apply pw_below_drewN)); first | exact hb3 | exact hb1 | exact Below.refl _ _) (by first | exact hb1.size | exact hb3.size | exact Nat.le_refl _ | (simp; done) | (have := hb1.size; simp; omega)) HLN.out.1 ?_; intro va w1 ho1 hb1 hg1 hat1) | (refine Kd.R_append_rows_step kCell (w0 := wr) wr.heap.size (by rfl) (.tmp 50) (.tmp 58) 78 57 (.agg #[.string ⟨#[]⟩, .int .u32 0, .int .u32 0]) 24 (by rfl) Tryd.underlying78 infoOfCell rfl (by decide) (by decide) va (R.take k) [(⟨y.f0, seq, fr⟩ : Cell)] (some ⟨w1.heap.size, 0, none⟩) 1 1 (fun _ => True) (fun _ => False) (by rfl) (by rfl) (Kd.R_alloc ho1 _) (C_oneC w1 (⟨y.f0, seq, fr⟩ : Cell)) (fun z cs h => by rw [kCell_open h]; exact kCell_mkM _ _ _ z) (fun _ h => h.elim) (fun _ _ => trivial) (by (repeat (first | apply below_alloc | apply below_drew1 | apply pw_below_drewN)); first | exact hb3 | exact hb1 | exact Below.refl _ _) (by first | exact hb1.size | exact hb3.size | exact Nat.le_refl _ | (simp; done) | (have := hb1.size; simp; omega)) HLN.out.2.1 ?_; intro vb w3 ho3 hb3 hg3 hat3) | (refine Kd.R_append_rows_step kCell (w0 := wr) wr.heap.size (by rfl) (.tmp 50) (.tmp 58) 78 57 (.agg #[.string ⟨#[]⟩, .int .u32 0, .int .u32 0]) 24 (by rfl) Tryd.underlying78 infoOfCell rfl (by decide) (by decide) va (R.take k) [(⟨y.f0, seq, fr⟩ : Cell)] (some ⟨wr.heap.size, 0, none⟩) 1 1 (fun _ => True) (fun _ => False) (by rfl) (by rfl) ho1 (C_keptC hg1 (C_oneC wr (⟨y.f0, seq, fr⟩ : Cell))) (fun z cs h => by rw [kCell_open h]; exact kCell_mkM _ _ _ z) (fun _ h => h.elim) (fun _ _ => trivial) (by (repeat (first | apply below_alloc | apply below_drew1 | apply pw_below_drewN)); first | exact hb3 | exact hb1 | exact Below.refl _ _) (by first | exact hb1.size | exact hb3.size | exact Nat.le_refl _ | (simp; done) | (have := hb1.size; simp; omega)) HLN.out.2.1 ?_; intro vb w3 ho3 hb3 hg3 hat3) | (refine Kd.R_append_rows_step kCell (w0 := wr) wr.heap.size (by rfl) (.tmp 59) (.tmp 62) 78 57 (.agg #[.string ⟨#[]⟩, .int .u32 0, .int .u32 0]) 24 (by rfl) Tryd.underlying78 infoOfCell rfl (by decide) (by decide) vb (R.take k ++ [(⟨y.f0, seq, fr⟩ : Cell)]) (R.drop k) (if c1 = k then AR else AR.map (·.add (k * 3))) (R.length - k) (c1 - k) (fun _ => True) (fun _ => False) (by rfl) (by rfl) ho3 (Kd.C_below HD.out (by (repeat (first | apply below_alloc | apply below_drew1 | apply pw_below_drewN)); first | exact hb3 | exact hb1 | exact Below.refl _ _)) (fun z cs h => by rw [kCell_open h]; exact kCell_mkM _ _ _ z) (fun _ h => h.elim) (fun _ _ => trivial) (by (repeat (first | apply below_alloc | apply below_drew1 | apply pw_below_drewN)); first | exact hb3 | exact hb1 | exact Below.refl _ _) (by first | exact hb1.size | exact hb3.size | exact Nat.le_refl _ | (simp; done) | (have := hb1.size; simp; omega)) HLN.out.2.2 ?_; intro v4 w4 ho4 hb4 hg4 hat4; obtain ⟨A4, c4, n4, rfl, HN4⟩ : ∃ A c n, v4 = .slice A n c ∧ Aside0 (n = (R.take k ++ [(⟨y.f0, seq, fr⟩ : Cell)] ++ R.drop k).length) := R_letter ho4; have hcg4 := pw_cell_below hb4 hcg; have hfg4 := HFG.out _ hb4))
            all_goals go_wp2
            all_goals
              go_roundg g1
              case measure => omega
              case rel =>
                have hb4' : (w4.heap[g]? = some (.cells #[gv] 80 (0, 0))) := (hb4.block g hgv).trans HBV.out
                have hR4 := RefSIs.set (base := wr.heap.size) hb4' rfl hgv ho4
                have hBf : w4.heap[B]? = some (groupBox seq prev fr (.slice (some ad2) l.length c)) := blkB (blkB HGX.out HBv.out) hb4
                refine ⟨x + 1, R.take k ++ [(⟨y.f0, seq, fr⟩ : Cell)] ++ R.drop k, by go_num, ⟨by have := HK.out; omega⟩, ⟨hR4⟩, ⟨?_, ?_, ?_⟩, ⟨?_⟩, ⟨?_⟩, ⟨?_⟩⟩
                · rw [lays_snoc seq fr (f, n) l x q, ← HX.out]
                  unfold lay1
                  rw [if_neg (by rw [HDl.out]; simp)]
                  exact HP.out.1.putL (⟨y.f0, seq, fr⟩ : Cell) HRE.out HKL.out (fun j hj => HJ.out j hj (by have := HKL.out; omega)) HSTOP.out
                · have := HP.out.2.1
                  have := HRL2.out
                  have := HKL.out
                  simp
                  omega
                · intro a ha
                  rcases insert_memA.1 ha with h | h
                  · exact HP.out.2.2 a (HRM.out a h)
                  · rw [h]; exact HSy.out
                · exact ((HG.out.trans (grown_of_below (below_then HBw.out HBw.out.size HBv.out) _)).trans (grown_of_below hb4 _)).trans (grown_set _ _ _)
                · exact C_set (Kd.C_below HCv.out hb4) (fun ad' e => by cases e; exact HAD.out) (fun _ _ => kWrite_any)
                · exact ((grown_set w4 ⟨g, 0, none⟩ _).block B (Array.getElem?_eq_some_iff.1 hBf).1 (fun e => by injection e with e; have e2 : B = g := e; have := HGB.out; omega)).trans hBf
      · rw [hd] at hw1
        have HDl := Aside0.mk hd
        have HBK := Aside0.mk hblk2
        clear hd hblk2
        go_wp2
        go_roundg g1
        case measure => omega
        case rel =>
          refine ⟨x + 1, R, by go_num, ⟨by have := HK.out; omega⟩, ⟨RefSIs.set HBK.out rfl HGo.out HR2.out⟩, ⟨?_, by have := HP.out.2.1; have := HRL2.out; omega, fun a ha => HP.out.2.2 a (HRM.out a ha)⟩, ⟨(HG.out.trans (grown_of_below HBw.out _)).trans (grown_set _ _ _)⟩, ⟨C_set HCw.out (fun ad' e => by cases e; exact HAD.out) (fun _ _ => kWrite_any)⟩, ⟨((grown_set w2 ⟨g, 0, none⟩ _).block B (Array.getElem?_eq_some_iff.1 HGX.out).1 (fun e => by injection e with e; have e2 : B = g := e; have := HGB.out; omega)).trans HGX.out⟩⟩
          rw [lays_snoc seq fr (f, n) l x q, ← HX.out]
          unfold lay1
          rw [if_pos HDl.out, HRE.out]
          exact HP.out.1.delL y.f0
    · have e : l.take x = l := List.take_of_length_le (by omega)
      rw [e] at HP
      clear e
      have hx : x = l.length := by have := HK.out; omega
      have HX := Aside0.mk hx
      clear hx
      go_wp2
      go_end0
      exact ⟨L', rfl, HR.out, HP.out.1, by have := HP.out.2.1; have := HX.out; omega, HP.out.2.2, HG.out⟩
end
end Go.Proofs.YtmionoghpjpbaaaDoor
