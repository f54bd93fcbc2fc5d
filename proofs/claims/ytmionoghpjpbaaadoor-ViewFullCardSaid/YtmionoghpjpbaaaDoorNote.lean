/-
  view.Note.
-/
import Derived.Test.YtmionoghpjpbaaaDoorView2
namespace Go.Proofs.YtmionoghpjpbaaaDoor
open Go.RowKit Go.Proofs.YtmionoghpjpbaaaDoorW.PrintWords Go.Proofs.YtmionoghpjpbaaaDoorW.PrintLast Go.Proofs.YtmionoghpjpbaaaDoorW.PrintMore
open Go.Proofs.YtmionoghpjpbaaaDoorM
set_option linter.unusedVariables false
set_option linter.unusedSimpArgs false
attribute [local go_sem ↓] Go.wp_at_zero Go.wp_at_succ

/-- What a note of one answer makes of the reads. -/
def keyIR (T : List Rd) (k : ByteArray) : Int := idxOf (fun y : Rd => decide (y.f0 = k)) T
def note1 (fz : Int) (T : List Rd) (a : Answer) : List Rd :=
  if keyIR T a.f0 < 0 then T ++ [⟨a.f0, a.f3, fz⟩]
  else if (T.getD (keyIR T a.f0).toNat zRd).f1 = a.f3 then T
  else T.set (keyIR T a.f0).toNat ⟨(T.getD (keyIR T a.f0).toNat zRd).f0, 4294967295, (T.getD (keyIR T a.f0).toNat zRd).f2⟩
def noteR (fz : Int) (R : List Rd) (l : List Answer) : List Rd := l.foldl (note1 fz) R
def noteC (fz : Int) (R : List Rd) (l : List Answer) : Int := if 48 < (noteR fz R l).length then 12 else 0
def noteL (fz : Int) (R : List Rd) (l : List Answer) : List Rd := if 48 < (noteR fz R l).length then R else noteR fz R l
theorem noteR_take (fz : Int) (R : List Rd) (l : List Answer) (x : Nat) (h : x < l.length) : noteR fz R (l.take (x + 1)) = note1 fz (noteR fz R (l.take x)) l[x] := by
  unfold noteR
  rw [List.take_succ_eq_append_getElem h, List.foldl_append]
  rfl
theorem note1_len (fz : Int) (T : List Rd) (a : Answer) : (note1 fz T a).length ≤ T.length + 1 := by
  unfold note1
  split
  · simp
  · split <;> simp
theorem noteR_len (fz : Int) : ∀ (l : List Answer) (R : List Rd), (noteR fz R l).length ≤ R.length + l.length
  | [], R => by simp [noteR]
  | a :: l, R => by
    have h1 := noteR_len fz l (note1 fz R a)
    have h2 := note1_len fz R a
    simp only [noteR, List.foldl_cons, List.length_cons] at *
    omega
theorem R_setF {w : World} {base g n cap : Nat} {xs : List Rd} (h : Kd.R kRd 99 w base (fun _ => True) (.slice (some ⟨g, 0, none⟩) n cap) xs) (i : Nat) (hi : i < n) (u : Int) :
    Kd.R kRd 99 (w.setCell ⟨g, i * 3 + 1, none⟩ (.int .u32 u)) base (fun _ => True) (.slice (some ⟨g, 0, none⟩) n cap) (xs.set i ⟨(xs.getD i zRd).f0, u, (xs.getD i zRd).f2⟩) ∧
    w.grownBy (w.setCell ⟨g, i * 3 + 1, none⟩ (.int .u32 u)) (some g) := by
  obtain ⟨cs, hc, hM, hcc, _⟩ := Kd.R_elem h zRd (i : Int) (by omega) (by omega)
  have e1 := Pr.k99_openM hM
  subst e1
  have := Kd.R_seg (okp := fun _ => False) h (i : Int) (by omega) (by omega) hc hcc (j := 1) (seg := [.int .u32 u]) (x' := (⟨(xs.getD i zRd).f0, u, (xs.getD i zRd).f2⟩ : Rd)) (by show 1 + 1 ≤ 3; omega) (by
    simpa using Pr.k99_mkM _ _ _ (⟨(xs.getD i zRd).f0, u, (xs.getD i zRd).f2⟩ : Rd)) (fun _ h => h.elim)
  exact this

set_option maxHeartbeats 4000000 in
set_option maxRecDepth 100000 in
theorem note_any (w : World) (g base : Nat) (b1 : Option Nat) (V : List Write) (R : List Rd) (A : Option Addr) (c : Nat) (l : List Answer) (fz : Int) (hbase : base ≤ w.heap.size) (h : ViewIs w g base b1 V R) (hl : l.length ≤ 1000) (hR : R.length ≤ 1000) (hC : Kd.C kAnswer w A l.length l) :
    Calls Tryd.prog 60 #[.pointer (some ⟨g, 0, none⟩), .slice A l.length c, .int .u32 fz] w fun e w' =>
      e = .returned (.int .i64 (noteC fz R l)) ∧ ViewIs w' g base b1 V (noteL fz R l) ∧ Kept w w' g none := by
  have H := Aside0.mk h
  have HC := Aside0.mk hC
  have HN : Aside0 (l.length ≤ 1000 ∧ R.length ≤ 1000 ∧ base ≤ w.heap.size ∧ g < w.heap.size) := ⟨hl, hR, hbase, h.lt⟩
  obtain ⟨v1, v2, hg, hb1, hR1, hR2⟩ := h
  obtain ⟨A1, n1, rfl⟩ : ∃ A1 n1, v2 = .slice A1 R.length n1 := Kd.R_slice hR2
  have HCL := Aside0.mk (cloneR_any A1 n1 R w (Kd.R_reads' hR2).2.2 (by omega))
  have HG := Aside0.mk hg
  have hcell : w.cell? ⟨g, 1, none⟩ = some (.slice A1 R.length n1) := by simp [World.cell?, hg]
  have HB1 := Aside0.mk (And.intro hb1 (And.intro hR1 hR2))
  clear hg hb1 hR1 hR2 hC hl hR hbase
  go_enter Tryd.func60, Tryd.ntmps60
  go_wp2_with fail
  refine HCL.out.mono ?_
  rintro e w1 ⟨v7, rfl, hO, hb⟩
  have HO1 := Aside0.mk hO
  have HBL := Aside0.mk hb
  clear hO hb HCL hcell
  go_wp2
  go_loopg [7, 20] l.length (fun kq v7 v20 w' => ∃ (x : Nat), v20 = .int .i64 x ∧ Aside0 (x + kq = l.length) ∧ Aside0 (Kd.R kRd 99 w' w.heap.size (fun _ => True) v7 (noteR fz R (l.take x))) ∧ Aside0 (Below w.heap.size w w'))
  case atStart => exact ⟨0, rfl, ⟨by simp⟩, HO1, HBL⟩
  case round =>
    obtain ⟨x, rfl, HK, HO, HB⟩ := hrel
    by_cases q : x < l.length
    · have q' : (x : Int) < (l.length : Int) := by omega
      have p1 : (0 : Int) ≤ (x : Int) := by omega
      obtain ⟨k1, rfl⟩ : ∃ k1, gk = k1 + 1 := ⟨gk - 1, by have := HK.out; omega⟩
      obtain ⟨wq, rfl⟩ : ∃ wq : World, wq = wr := ⟨_, rfl⟩
      obtain ⟨ad, e, c0, c1, c2, c3⟩ := atAnswer (Kd.C_below HC.out HB.out) (x : Int) p1 q'
      cases e
      rw [Int.toNat_natCast] at c0 c1 c2 c3
      have HX : Aside0 (rdAnswer l (x : Int) = l[x]) := ⟨by rw [rdAnswer_get (by simpa using q)]; simp⟩
      generalize rdAnswer l (x : Int) = y at *
      obtain ⟨T, hT⟩ : ∃ T, Aside0 (noteR fz R (l.take x) = T) := ⟨_, ⟨rfl⟩⟩
      have HT2 : Aside0 (noteR fz R (l.take (x + 1)) = note1 fz T y) := ⟨by rw [noteR_take fz R l x q, hT.out, HX.out]⟩
      have HTL : Aside0 (T.length ≤ 2000) := ⟨by rw [← hT.out]; have h1 := noteR_len fz (l.take x) R; have h2 := HN.out; rw [List.length_take] at h1; omega⟩
      rw [hT.out] at HO
      obtain ⟨A7, n7, rfl⟩ : ∃ A7 n7, u7 = .slice A7 T.length n7 := Kd.R_slice HO.out
      have hb7 : Below w.heap.size w (wq.alloc (.cells #[.string y.f0, .bool y.f1, .string y.f2, .int .u32 y.f3] 101)) := below_alloc HB.out _
      have HC7 := Aside0.mk (Kd.C_alloc (Kd.R_reads' HO.out).2.2 (.cells #[.string y.f0, .bool y.f1, .string y.f2, .int .u32 y.f3] 101))
      go_wp2_with fail
      refine (indexR_any A7 n7 T (fun z => z.f0.toList == y.f0.toList) 100 #[.pointer (some ⟨wq.heap.size, 0, none⟩)] _ HC7.out (by have := HTL.out; omega) ?hp ?eg).mono ?_
      case hp => exact fun W z hb => noteFn_any y.f0 wq.heap.size z W (pw_cell_below hb (box_cell4 (heap_alloc_new wq _)).1)
      case eg => exact enters_of Tryd.func100 (by kernel_rfl) rfl
      rintro e w3 ⟨rfl, hb⟩
      rw [keyPR]
      obtain ⟨ki, hki⟩ : ∃ ki, Aside0 (keyIR T y.f0 = ki) := ⟨_, ⟨rfl⟩⟩
      rw [show idxOf (fun z : Rd => decide (z.f0 = y.f0)) T = ki from hki.out]
      have HX3 := Aside0.mk (blkW (heap_alloc_new wq _) hb)
      have HB3 : Aside0 (Below w.heap.size w w3) := ⟨below_then hb7 hb7.size hb⟩
      have HO3 : Aside0 (Kd.R kRd 99 w3 w.heap.size (fun _ => True) (.slice A7 T.length n7) T) := ⟨Kd.R_below (Kd.R_alloc HO.out _) hb⟩
      have hlx : wq.heap.size < w3.heap.size := (Array.getElem?_eq_some_iff.1 HX3.out).1
      have HLQ : Aside0 (w.heap.size ≤ wq.heap.size) := ⟨HB.out.size⟩
      obtain ⟨b0, b1', b2, b3, _⟩ := box_cell4 HX3.out
      clear hb hb7 HC7 HO HB c0 c1 c2 c3
      by_cases h0 : ki < 0
      · have HF : Aside0 (noteR fz R (l.take (x + 1)) = T ++ [⟨y.f0, y.f3, fz⟩]) := ⟨by rw [HT2.out]; unfold note1; rw [hki.out, if_pos h0]⟩
        go_wp2_with (at_builtin; refine Kd.R_append kRd (w0 := w) w.heap.size rfl (.tmp 30) (.tmp 37) 97 99 (.agg #[.string ⟨#[]⟩, .int .u32 0, .int .u32 0]) 24 rfl Tryd.underlying97 infoOfRead rfl (by decide) (by decide) (.slice A7 T.length n7) T (⟨y.f0, y.f3, fz⟩ : Rd) [.string y.f0, .int .u32 y.f3, .int .u32 fz] (fun _ => True) (fun _ => False) rfl rfl (Pr.k99_mkM _ _ _ (⟨y.f0, y.f3, fz⟩ : Rd)) (fun _ h => h.elim) (fun _ _ => trivial) HO3.out HB3.out HB3.out.size (by have := HTL.out; omega) ?_; intro va w5 ho5 hb5 hg5 hat5; have HO5 := Aside0.mk ho5; have HB5 := Aside0.mk hb5; clear ho5 hb5 hg5 hat5)
        go_roundg k1
        case measure => omega
        case rel => exact ⟨x + 1, by first | go_num | rw [wsucc x (by have := HN.out; omega)], ⟨by have := HK.out; omega⟩, ⟨by rw [HF.out]; exact HO5.out⟩, HB5⟩
      · obtain ⟨i, hi, rfl⟩ : ∃ i : Nat, i < T.length ∧ ki = (i : Int) := by
          obtain ⟨i, h1, h2⟩ := idxOf_some (p := fun z : Rd => decide (z.f0 = y.f0)) (l := T) (by rw [show idxOf (fun z : Rd => decide (z.f0 = y.f0)) T = ki from hki.out]; omega)
          exact ⟨i, h1, by rw [← hki.out]; exact h2⟩
        have hi' : (i : Int) < (T.length : Int) := by omega
        obtain ⟨B7, cap, e1, _⟩ := Kd.R_form HO3.out (by omega)
        injection e1 with e1 _ e3
        subst e1
        subst e3
        obtain ⟨cs, hcs⟩ := Kd.R_typed HO3.out B7 rfl
        obtain ⟨ds, hdl, hM, hcc, _⟩ := Kd.R_elem HO3.out zRd (i : Int) (by omega) (by omega)
        have e1 := Pr.k99_openM hM
        subst e1
        rw [Int.toNat_natCast] at hcc
        obtain ⟨r, hr⟩ : ∃ r, Aside0 (T.getD i zRd = r) := ⟨_, ⟨rfl⟩⟩
        rw [hr.out] at hcc
        have d1 : w3.drew.cell? ⟨B7, i * 3 + 1, none⟩ = some (.int .u32 r.f1) := hcc 1 _ rfl
        have d1' : w3.cell? ⟨B7, i * 3 + 1, none⟩ = some (.int .u32 r.f1) := hcc 1 _ rfl
        have f1 : w3.drew.frozen? ⟨B7, i * 3 + 1, none⟩ = false := blk_frozen hcs _
        have f1' : w3.frozen? ⟨B7, i * 3 + 1, none⟩ = false := blk_frozen hcs _
        have b3' : w3.drew.cell? ⟨wq.heap.size, 3, none⟩ = some (.int .u32 y.f3) := b3
        have HN1 : Aside0 (noteR fz R (l.take (x + 1)) = if r.f1 = y.f3 then T else T.set i ⟨r.f0, 4294967295, r.f2⟩) := ⟨by rw [HT2.out]; unfold note1; rw [hki.out, if_neg h0, Int.toNat_natCast, hr.out]⟩
        obtain ⟨hRs, hgr⟩ := R_setF (w := w3.drew) (Kd.R_drew HO3.out) i (by omega) 4294967295
        rw [hr.out] at hRs
        have HRS := Aside0.mk (And.intro hRs (below_drew HB3.out |>.grown hgr (below_drew HB3.out).size (fun k hk => by cases hk; exact Kd.R_base HO3.out B7 rfl)))
        clear hRs hgr hcc hM hdl hcs
        by_cases hf : r.f1 = y.f3
        · rw [if_pos hf] at HN1
          rw [hf] at d1 d1'
          go_wp2_with fail
          go_region
          go_wp2
          go_roundg k1
          case measure => omega
          case rel => exact ⟨x + 1, by first | go_num | rw [wsucc x (by have := HN.out; omega)], ⟨by have := HK.out; omega⟩, ⟨by rw [HN1.out]; exact Kd.R_drew HO3.out⟩, ⟨below_drew HB3.out⟩⟩
        · rw [if_neg hf] at HN1
          go_wp2_with fail
          go_region
          go_wp2
          go_roundg k1
          case measure => omega
          case rel => exact ⟨x + 1, by first | go_num | rw [wsucc x (by have := HN.out; omega)], ⟨by have := HK.out; omega⟩, ⟨by rw [HN1.out]; exact HRS.out.1⟩, ⟨HRS.out.2⟩⟩
    · have e : l.take x = l := List.take_of_length_le (by omega)
      rw [e] at HO
      obtain ⟨T, hT⟩ : ∃ T, Aside0 (noteR fz R l = T) := ⟨_, ⟨rfl⟩⟩
      rw [hT.out] at HO
      obtain ⟨A7, n7, rfl⟩ : ∃ A7 n7, u7 = .slice A7 T.length n7 := Kd.R_slice HO.out
      have hgr : wr.heap[g]? = some (.cells #[v1, .slice A1 R.length n1] 147 (0, 0)) := (HB.out.block g HN.out.2.2.2).trans HG.out
      have hgl : g < wr.heap.size := (Array.getElem?_eq_some_iff.1 hgr).1
      have hc1 : wr.cell? ⟨g, 1, none⟩ = some (.slice A1 R.length n1) := by simp [World.cell?, hgr]
      have hf1 : wr.frozen? ⟨g, 1, none⟩ = false := blk_frozen hgr _
      have HGR := Aside0.mk hgr
      clear hgr e
      by_cases h48 : 48 < T.length
      · have h48' : (T.length : Int) > 48 := by omega
        have HQ : Aside0 (noteC fz R l = 12 ∧ noteL fz R l = R) := ⟨by unfold noteC noteL; rw [hT.out, if_pos h48, if_pos h48]; exact ⟨rfl, rfl⟩⟩
        go_wp2
        go_ret
        rw [HQ.out.1, HQ.out.2]
        exact ⟨rfl, H.out.below HB.out, Kept.of_below HB.out⟩
      · have h48' : ¬ (T.length : Int) > 48 := by omega
        have HQ : Aside0 (noteC fz R l = 0 ∧ noteL fz R l = T) := ⟨by unfold noteC noteL; rw [hT.out, if_neg h48, if_neg h48]; exact ⟨rfl, rfl⟩⟩
        go_wp2
        go_ret
        rw [HQ.out.1, HQ.out.2]
        exact ⟨rfl, ⟨v1, .slice A7 T.length n7, blk_set HGR.out 1 _, HB1.out.1, Kd.R_set (Kd.R_below HB1.out.2.1 HB.out) HGR.out (by decide) 1 _, Kd.R_set (Kd.R_lower HO.out HN.out.2.2.1) HGR.out (by decide) 1 _⟩,
          Kept.below_then HB.out ⟨rfl, rfl, rfl, by simp, fun k hk h1 h2 => Below.heap_setCell _ _ _ _ h1⟩⟩
end Go.Proofs.YtmionoghpjpbaaaDoor
