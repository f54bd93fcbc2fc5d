/-
  The document's map (cachepotref3.Map): Commit.
-/
import Derived.Test.YtmionoghpjpbaaaDoorRefMap
namespace Go.Proofs.YtmionoghpjpbaaaDoor
open Go.RowKit Go.Proofs.YtmionoghpjpbaaaDoorW.PrintWords Go.Proofs.YtmionoghpjpbaaaDoorW.PrintLast Go.Proofs.YtmionoghpjpbaaaDoorW.PrintMore
open Go.Proofs.YtmionoghpjpbaaaDoorM
set_option linter.unusedVariables false
set_option linter.unusedSimpArgs false
attribute [local go_sem ↓] Go.wp_at_zero Go.wp_at_succ

theorem kWrite_any {w w' : World} {x : Write} {cs : List Value} (h : kWrite.K w x cs) : kWrite.K w' x cs := by rw [kWrite_open h]; exact kWrite_mk w' x
theorem cutA_to (A : Option Addr) (n c k : Nat) (hk : k ≤ n) (hc : n ≤ c) (W : World) : (Instr.slice 27 (.slice A n c) none (some (.int .i64 k)) none).run Tryd.prog W = .ok (.slice A k c) W := by
  obtain ⟨i0, hi, hzz⟩ := Option.map_eq_some_iff.1 infoOfAnswer
  simp only [Prod.mk.injEq] at hzz
  have hel : Tryd.prog.elem 27 = 101 := by simp [Program.elem, Tryd.underlying27]
  have hu : Tryd.prog.underlying 27 = some (.slice (Tryd.prog.elem 27)) := by rw [hel]; exact Tryd.underlying27
  have ha : (A.map fun x => x.add 0) = A := by cases A <;> simp [Addr.add]
  rw [run_slice_h W 27 A n c hu .i64 k (by omega) (by omega), hel]
  simp [sizeOf, typeInfo, hi, hzz.2.1, sliced, Result.andThen, ha]
theorem cutA_from (A : Option Addr) (n c k : Nat) (hk : k ≤ n) (hc : n ≤ c) (W : World) : (Instr.slice 27 (.slice A n c) (some (.int .i64 k)) none none).run Tryd.prog W = .ok (.slice (if c = k then A else A.map (·.add (k * 4))) (n - k) (c - k)) W := by
  obtain ⟨i0, hi, hzz⟩ := Option.map_eq_some_iff.1 infoOfAnswer
  simp only [Prod.mk.injEq] at hzz
  have hel : Tryd.prog.elem 27 = 101 := by simp [Program.elem, Tryd.underlying27]
  have hu : Tryd.prog.underlying 27 = some (.slice (Tryd.prog.elem 27)) := by rw [hel]; exact Tryd.underlying27
  rw [run_slice_l W 27 A n c hu .i64 k (by omega) (by omega), hel]
  simp [sizeOf, typeInfo, hi, hzz.2.1, sliced, Result.andThen]
theorem C_oneA (w : World) (a : Answer) : Kd.C kAnswer (w.alloc (.cells #[.string a.f0, .bool a.f1, .string a.f2, .int .u32 a.f3] 101)) (some ⟨w.heap.size, 0, none⟩) 1 [a] :=
  C_lit kAnswer w 101 [a] [.string a.f0, .bool a.f1, .string a.f2, .int .u32 a.f3] (Reps.snoc (Reps.none _ _) (kAnswer_mk _ a) rfl) (by simp [maxLen])
theorem C_keptA {w w' : World} {A : Option Addr} {n : Nat} {xs : List Answer} (hg : w.grownBy w' none) (h : Kd.C kAnswer w A n xs) : Kd.C kAnswer w' A n xs :=
  Kd.C_below h ⟨hg.os, hg.tape, hg.output, hg.size, fun i hi => hg.block i hi (by simp)⟩

theorem R_letter {α : Type} {d : Kd α} {e base : Nat} {ok : Nat → Prop} {w : World} {v : Value} {xs : List α} (h : d.R e w base ok v xs) : ∃ A c n, v = .slice A n c ∧ Aside0 (n = xs.length) := by
  obtain ⟨A, c, e⟩ := Kd.R_slice h
  exact ⟨A, c, _, e, ⟨rfl⟩⟩

set_option maxHeartbeats 8000000 in
set_option maxRecDepth 100000 in
theorem refCommit_any (w : World) (g : Nat) (L : List Answer) (f : ByteArray → Option Answer) (n : Nat) (seq : Int) (A : Option Addr) (c : Nat) (l : List Write) (hC : Kd.C kWrite w A l.length l) (hA : ∀ ad, A = some ad → ad.block ≠ g) (h : RefMIs w g L)
    (hL : Lists Pr.S101.f0 f L) (hl : L.length + l.length ≤ 1000000) (hs : ∀ x ∈ l, x.f0.size ≤ 1000000000) (hk : ∀ a ∈ L, a.f0.size ≤ 1000000000) :
    Calls Tryd.prog 28 #[.pointer (some ⟨g, 0, none⟩), .int .u32 seq, .slice A l.length c] w fun e w' =>
      ∃ L', e = .returned (.tuple #[]) ∧ RefMIs w' g L' ∧ Lists Pr.S101.f0 (puts seq (f, n) l).1 L' ∧ L'.length ≤ L.length + l.length ∧ (∀ a ∈ L', a.f0.size ≤ 1000000000) ∧ w.grownBy w' (some g) := by
  have HC := Aside0.mk hC
  have HL := Aside0.mk hl
  have HLi := Aside0.mk hL
  have HS := Aside0.mk (And.intro hs hk)
  have H := Aside0.mk h
  have HA := Aside0.mk hA
  have hml := hC.2.1
  clear hC hl h hA hL hs hk
  go_enter Tryd.func28, Tryd.ntmps28
  go_wp2
  go_loopg [6] l.length (fun kq v6 w' => ∃ (x : Nat) (L' : List Answer), v6 = .int .i64 x ∧ Aside0 (x + kq = l.length) ∧ Aside0 (RefMIs w' g L') ∧ Aside0 (Lists Pr.S101.f0 (puts seq (f, n) (l.take x)).1 L' ∧ L'.length ≤ L.length + x ∧ ∀ a ∈ L', a.f0.size ≤ 1000000000) ∧ Aside0 (w.grownBy w' (some g)) ∧ Aside0 (Kd.C kWrite w' A l.length l))
  case atStart => exact ⟨0, L, rfl, ⟨by simp⟩, H, ⟨by simpa [puts] using HLi.out, by simp, HS.out.2⟩, ⟨World.grownBy.refl _ _⟩, HC⟩
  case round =>
    obtain ⟨x, L', rfl, HK, HR, HP, HG, HC2⟩ := hrel
    by_cases q : x < l.length
    · have q' : (x : Int) < (l.length : Int) := by omega
      have p1 : (0 : Int) ≤ (x : Int) := by omega
      obtain ⟨g1, rfl⟩ : ∃ g1, gk = g1 + 1 := ⟨gk - 1, by have := HK.out; omega⟩
      obtain ⟨ad2, e, d0, d1, d2⟩ := atWrite HC2.out (x : Int) p1 q'
      have HAD := Aside0.mk (HA.out ad2 e)
      cases e
      rw [Int.toNat_natCast] at d0 d1 d2
      have HX : Aside0 (rdWrite l (x : Int) = l[x]) := ⟨by rw [rdWrite_get (by simpa using q)]; simp⟩
      generalize rdWrite l (x : Int) = y at *
      have HSy : Aside0 (y.f0.size ≤ 1000000000) := ⟨by rw [HX.out]; exact HS.out.1 _ (List.getElem_mem q)⟩
      have HLn : Aside0 (L'.length ≤ 1000000) := ⟨by have := HP.out.2.1; have := HL.out; omega⟩
      obtain ⟨wo, rfl⟩ : ∃ wo : World, wo = wr := ⟨_, rfl⟩
      go_wp2_with fail
      refine (refWithout_any wo g L' y.f0 HR.out HLn.out).mono ?_
      rintro e w2 ⟨v, rfl, hR, hb⟩
      obtain ⟨R, hRE⟩ : ∃ R, Aside0 (R = lessA y.f0 L') := ⟨_, ⟨rfl⟩⟩
      have HRE : Aside0 (R = L'.filter fun c => !decide (Pr.S101.f0 c = y.f0)) := hRE
      rw [← hRE.out] at hR
      have HRL2 : Aside0 (R.length ≤ L'.length) := ⟨by rw [hRE.out]; exact lessA_le _ _⟩
      have HRL : Aside0 (R.length ≤ 1000000) := ⟨by have := HRL2.out; have := HLn.out; omega⟩
      have HRM : Aside0 (∀ a ∈ R, a ∈ L') := ⟨fun a ha => by rw [hRE.out] at ha; exact (List.mem_filter.1 ha).1⟩
      obtain ⟨AR, c1, rfl, hl1, hC1⟩ := Kd.R_reads hR
      have HC1 := Aside0.mk hC1
      have HR2 := Aside0.mk hR
      obtain ⟨A0, cp0, hblk, _, _⟩ := HR.out
      have hblk2 := (hb.block g HR.out.lt).trans hblk
      have hgw : g < w2.heap.size := (Array.getElem?_eq_some_iff.1 hblk2).1
      have HGo : Aside0 (g < wo.heap.size) := ⟨HR.out.lt⟩
      obtain ⟨gv, hgv⟩ : ∃ gv, Aside0 ((.slice A0 L'.length cp0 : Value) = gv) := ⟨_, ⟨rfl⟩⟩
      rw [hgv.out] at hblk2
      have hcell : w2.cell? ⟨g, 0, none⟩ = some gv := by simp [World.cell?, hblk2]
      have hfr : w2.frozen? ⟨g, 0, none⟩ = false := by simp [World.frozen?, hblk2]
      replace d0 := pw_cell_below hb d0
      replace d1 := pw_cell_below hb d1
      replace d2 := pw_cell_below hb d2
      have HBw := Aside0.mk hb
      have HCw : Aside0 (Kd.C kWrite w2 (some ad2) l.length l) := ⟨Kd.C_below HC2.out hb⟩
      clear hb hblk hC1 hR
      cases hd : y.f1
      · rw [hd] at d1
        have HDl := Aside0.mk hd
        clear hd
        have HBK := Aside0.mk hblk2
        go_wp2_with fail
        go_loopg [8] R.length (fun kq v8 w' => ∃ k : Nat, v8 = .int .i64 k ∧ Aside0 (k + kq = R.length) ∧ Aside0 (∀ j, (hj : j < k) → (hl : j < R.length) → ltF (Pr.S101.f0 R[j]) y.f0 = true) ∧ Aside0 (Below w2.heap.size w2 w'))
        case atStart => exact ⟨0, rfl, ⟨by simp⟩, ⟨fun j hj => by omega⟩, ⟨Below.refl _ _⟩⟩
        case round =>
          obtain ⟨k, rfl, HK2, HJ, HB2⟩ := hrel
          by_cases qk : k < R.length
          · have qk' : (k : Int) < (R.length : Int) := by omega
            have p0 : (0 : Int) ≤ (k : Int) := by omega
            obtain ⟨ad1, e1, b0, _⟩ := atAnswer (Kd.C_below HC1.out HB2.out) (k : Int) p0 qk'
            have HE1 := Aside0.mk e1
            cases e1
            rw [Int.toNat_natCast] at b0
            have hd0 := pw_cell_below HB2.out d0
            have HO1 : Aside0 ((rdAnswer R (k : Int)) = R[k]) := ⟨by rw [rdAnswer_get (by simpa using qk)]; simp⟩
            generalize rdAnswer R (k : Int) = o at *
            have HOS : Aside0 (o.f0.size ≤ 1000000000) := ⟨by rw [HO1.out]; exact HP.out.2.2 _ (HRM.out _ (List.getElem_mem qk))⟩
            cases hlt : ltF o.f0 y.f0
            · have HLT := Aside0.mk hlt
              clear hlt
              go_wp2_with fail
              go_region_held3 (fun w' => w'.cell? (ad1.add (k * 4)) = some (.string o.f0) ∧ w'.cell? (ad2.add (x * 3)) = some (.string y.f0))
                (first | exact ⟨b0, hd0⟩ | exact ⟨pw_cell_below hb3 b0, pw_cell_below hb3 hd0⟩)
                (first | (go_at_call 81; refine (ahead_any o.f0 y.f0 HOS.out HSy.out _).mono ?_; rintro e wv ⟨rfl, hb3⟩; rw [HLT.out]))
              have HBv : Aside0 (Below w2.heap.size w2 wv) := ⟨below_then HB2.out HB2.out.size (below_undrew hb3)⟩
              clear hb3 b0 hd0 HB2
              have HKL : Aside0 (k ≤ R.length) := ⟨by omega⟩
              have HCv : Aside0 (Kd.C kWrite wv (some ad2) l.length l) := ⟨Kd.C_below HCw.out HBv.out⟩
              have HSTOP : Aside0 (∀ hj : k < R.length, ltF (Pr.S101.f0 R[k]) y.f0 = false) := ⟨fun hj => by rw [← HO1.out]; exact HLT.out⟩
              have HT : Aside0 (Kd.C kAnswer wv (some ad1) k (R.take k)) := ⟨by
                have h := Kd.C_take (m := k) (Kd.C_below HC1.out HBv.out) (by have := HKL.out; omega)
                rwa [List.length_take, Nat.min_eq_left HKL.out] at h⟩
              have HD : Aside0 (Kd.C kAnswer wv (if c1 = k then (some ad1) else (some ad1).map (·.add (k * 4))) (R.length - k) (R.drop k)) := ⟨by
                have h := Kd.C_drop (m := k) (c := c1) (Kd.C_below HC1.out HBv.out) HKL.out hl1
                rw [List.length_drop] at h
                exact h⟩
              have HLN : Aside0 ((([] : List Answer).length + k) * 48 ≤ 140737488355328 ∧ ((R.take k).length + 1) * 48 ≤ 140737488355328 ∧ ((R.take k ++ [(⟨y.f0, true, y.f2, seq⟩ : Answer)]).length + (R.length - k)) * 48 ≤ 140737488355328) := ⟨by
                have := HRL.out
                have := HKL.out
                simp
                omega⟩
              have hcut1 := cutA_to (some ad1) R.length c1 k HKL.out hl1
              have hcut2 := cutA_from (some ad1) R.length c1 k HKL.out hl1
              have e0 := pw_cell_below HBv.out d0
              have e2 := pw_cell_below HBv.out d2
              have hcg := pw_cell_below HBv.out hcell
              have hblkv := (HBv.out.block g hgw).trans hblk2
              have hfg : wv.frozen? ⟨g, 0, none⟩ = false := by simp [World.frozen?, hblkv]
              have HFG : Aside0 (∀ W, Below wv.heap.size wv W → W.frozen? ⟨g, 0, none⟩ = false) := ⟨fun W hb => by simp [World.frozen?, (hb.block g (Array.getElem?_eq_some_iff.1 hblkv).1).trans hblkv]⟩
              have HKP : Aside0 (∀ W, Below wv.heap.size wv W → W.cell? (ad2.add (x * 3)) = some (.string y.f0) ∧ W.cell? ⟨(ad2.add (x * 3)).block, (ad2.add (x * 3)).off + 2, none⟩ = some (.string y.f2)) := ⟨fun W hb => ⟨pw_cell_below hb e0, pw_cell_below hb e2⟩⟩
              have HKS : Aside0 (∀ W, Below wv.heap.size wv W → ∀ u, (W.setCell ⟨g, 0, none⟩ u).cell? (ad2.add (x * 3)) = some (.string y.f0) ∧ (W.setCell ⟨g, 0, none⟩ u).cell? ⟨(ad2.add (x * 3)).block, (ad2.add (x * 3)).off + 2, none⟩ = some (.string y.f2)) := ⟨fun W hb u => ⟨(World.cell?_setCell_other _ _ _ _ (fun e => HAD.out (by have h := congrArg Addr.block e; simp only [add_block] at h; exact h.symm))).trans (pw_cell_below hb e0), (World.cell?_setCell_other _ _ _ _ (fun e => HAD.out (by have h := congrArg Addr.block e; simp only [add_block] at h; exact h.symm))).trans (pw_cell_below hb e2)⟩⟩
              have HBV := Aside0.mk hblkv
              have hgv : g < wv.heap.size := (Array.getElem?_eq_some_iff.1 hblkv).1
              clear hblkv
              go_wp2_with fail
              go_region_held3 (fun w' => w'.cell? (ad2.add (x * 3)) = some (.string y.f0) ∧ w'.cell? ⟨(ad2.add (x * 3)).block, (ad2.add (x * 3)).off + 2, none⟩ = some (.string y.f2))
                (first | exact ⟨e0, e2⟩ | exact HKP.out _ (Below.refl _ _) | exact HKP.out _ (pw_below_drewN (Below.refl _ _) _) | exact HKP.out _ (below_alloc (pw_below_drewN (Below.refl _ _) _) _) | exact HKP.out _ (below_alloc (Below.refl _ _) _) | exact HKP.out _ (hb1) | exact HKP.out _ (below_alloc hb1 _) | exact HKP.out _ (hb3) | exact HKP.out _ (hb4) | exact HKP.out _ (below_drew (Below.refl _ _)) | exact HKP.out _ (below_drew (pw_below_drewN (Below.refl _ _) _)) | exact HKP.out _ (below_drew (below_alloc (pw_below_drewN (Below.refl _ _) _) _)) | exact HKP.out _ (below_drew (below_alloc (Below.refl _ _) _)) | exact HKP.out _ (below_drew (hb1)) | exact HKP.out _ (below_drew (below_alloc hb1 _)) | exact HKP.out _ (below_drew (hb3)) | exact HKP.out _ (below_drew (hb4)) | exact HKS.out _ hb4 _)
                (first | (refine Kd.R_append_rows_step kAnswer (w0 := wv) wv.heap.size (by rfl) (.const (.slice none 0 0)) (.tmp 53) 27 101 (.agg #[.string ⟨#[]⟩, .bool false, .string ⟨#[]⟩, .int .u32 0]) 48 (by rfl) Tryd.underlying27 infoOfAnswer rfl (by decide) (by decide) (.slice none 0 0) [] (R.take k) (some ad1) k c1 (fun _ => True) (fun _ => False) (by rfl) (by rfl) (Kd.R_nil _ _ _ _ _) (Kd.C_below HT.out (by (repeat (first | apply below_alloc | apply below_drew1 | apply pw_below_drewN)); first | exact hb3 | exact hb1 | exact Below.refl _ _)) (fun z cs h => by rw [kAnswer_open h]; exact kAnswer_mkM _ _ _ z) (fun _ h => h.elim) (fun _ _ => trivial) (by (repeat (first | apply below_alloc | apply below_drew1 | apply pw_below_drewN)); first | exact hb3 | exact hb1 | exact Below.refl _ _) (by first | exact hb1.size | exact hb3.size | exact Nat.le_refl _ | (simp; done) | (have := hb1.size; simp; omega)) HLN.out.1 ?_; intro va w1 ho1 hb1 hg1 hat1) | (refine Kd.R_append_rows_step kAnswer (w0 := wv) wv.heap.size (by rfl) (.tmp 54) (.tmp 67) 27 101 (.agg #[.string ⟨#[]⟩, .bool false, .string ⟨#[]⟩, .int .u32 0]) 48 (by rfl) Tryd.underlying27 infoOfAnswer rfl (by decide) (by decide) va (R.take k) [(⟨y.f0, true, y.f2, seq⟩ : Answer)] (some ⟨w1.heap.size, 0, none⟩) 1 1 (fun _ => True) (fun _ => False) (by rfl) (by rfl) (Kd.R_alloc ho1 _) (C_oneA w1 (⟨y.f0, true, y.f2, seq⟩ : Answer)) (fun z cs h => by rw [kAnswer_open h]; exact kAnswer_mkM _ _ _ z) (fun _ h => h.elim) (fun _ _ => trivial) (by (repeat (first | apply below_alloc | apply below_drew1 | apply pw_below_drewN)); first | exact hb3 | exact hb1 | exact Below.refl _ _) (by first | exact hb1.size | exact hb3.size | exact Nat.le_refl _ | (simp; done) | (have := hb1.size; simp; omega)) HLN.out.2.1 ?_; intro vb w3 ho3 hb3 hg3 hat3) | (refine Kd.R_append_rows_step kAnswer (w0 := wv) wv.heap.size (by rfl) (.tmp 54) (.tmp 67) 27 101 (.agg #[.string ⟨#[]⟩, .bool false, .string ⟨#[]⟩, .int .u32 0]) 48 (by rfl) Tryd.underlying27 infoOfAnswer rfl (by decide) (by decide) va (R.take k) [(⟨y.f0, true, y.f2, seq⟩ : Answer)] (some ⟨wv.heap.size, 0, none⟩) 1 1 (fun _ => True) (fun _ => False) (by rfl) (by rfl) ho1 (C_keptA hg1 (C_oneA wv (⟨y.f0, true, y.f2, seq⟩ : Answer))) (fun z cs h => by rw [kAnswer_open h]; exact kAnswer_mkM _ _ _ z) (fun _ h => h.elim) (fun _ _ => trivial) (by (repeat (first | apply below_alloc | apply below_drew1 | apply pw_below_drewN)); first | exact hb3 | exact hb1 | exact Below.refl _ _) (by first | exact hb1.size | exact hb3.size | exact Nat.le_refl _ | (simp; done) | (have := hb1.size; simp; omega)) HLN.out.2.1 ?_; intro vb w3 ho3 hb3 hg3 hat3) | (refine Kd.R_append_rows_step kAnswer (w0 := wv) wv.heap.size (by rfl) (.tmp 68) (.tmp 71) 27 101 (.agg #[.string ⟨#[]⟩, .bool false, .string ⟨#[]⟩, .int .u32 0]) 48 (by rfl) Tryd.underlying27 infoOfAnswer rfl (by decide) (by decide) vb (R.take k ++ [(⟨y.f0, true, y.f2, seq⟩ : Answer)]) (R.drop k) (if c1 = k then (some ad1) else (some ad1).map (·.add (k * 4))) (R.length - k) (c1 - k) (fun _ => True) (fun _ => False) (by rfl) (by rfl) ho3 (Kd.C_below HD.out (by (repeat (first | apply below_alloc | apply below_drew1 | apply pw_below_drewN)); first | exact hb3 | exact hb1 | exact Below.refl _ _)) (fun z cs h => by rw [kAnswer_open h]; exact kAnswer_mkM _ _ _ z) (fun _ h => h.elim) (fun _ _ => trivial) (by (repeat (first | apply below_alloc | apply below_drew1 | apply pw_below_drewN)); first | exact hb3 | exact hb1 | exact Below.refl _ _) (by first | exact hb1.size | exact hb3.size | exact Nat.le_refl _ | (simp; done) | (have := hb1.size; simp; omega)) HLN.out.2.2 ?_; intro v4 w4 ho4 hb4 hg4 hat4; obtain ⟨A4, c4, n4, rfl, HN4⟩ : ∃ A c n, v4 = .slice A n c ∧ Aside0 (n = (R.take k ++ [(⟨y.f0, true, y.f2, seq⟩ : Answer)] ++ R.drop k).length) := R_letter ho4; have hcg4 := pw_cell_below hb4 hcg; have hfg4 := HFG.out _ hb4))
              all_goals go_wp2
              all_goals
                go_roundg g1
                case measure => omega
                case rel =>
                  have hb4' : (w4.heap[g]? = some (.cells #[gv] 29 (0, 0))) := (hb4.block g hgv).trans HBV.out
                  have hR4 := RefMIs.set (base := wv.heap.size) hb4' rfl hgv ho4
                  refine ⟨x + 1, R.take k ++ [(⟨y.f0, true, y.f2, seq⟩ : Answer)] ++ R.drop k, by go_num, ⟨by have := HK.out; omega⟩, ⟨hR4⟩, ⟨?_, ?_, ?_⟩, ⟨?_⟩, ⟨?_⟩⟩
                  · rw [puts_snoc seq (f, n) l x q, ← HX.out]
                    unfold put1
                    rw [if_neg (by rw [HDl.out]; simp)]
                    exact HP.out.1.putL (⟨y.f0, true, y.f2, seq⟩ : Answer) HRE.out HKL.out (fun j hj => HJ.out j hj (by have := HKL.out; omega)) HSTOP.out
                  · have := HP.out.2.1
                    have := HRL2.out
                    have := HKL.out
                    simp
                    omega
                  · intro a ha
                    rcases insert_memA.1 ha with h | h
                    · exact HP.out.2.2 a (HRM.out a h)
                    · rw [h]; exact HSy.out
                  · exact ((HG.out.trans (grown_of_below (below_then HBw.out HBw.out.size HBv.out) _)).trans (grown_of_below hb4 _)).trans (grown_set _ _ _)
                  · exact C_set (Kd.C_below HCv.out hb4) (fun ad' e => by cases e; exact HAD.out) (fun _ _ => kWrite_any)
            · have HLT := Aside0.mk hlt
              clear hlt
              go_wp2_with fail
              go_region_held3 (fun w' => w'.cell? (ad1.add (k * 4)) = some (.string o.f0) ∧ w'.cell? (ad2.add (x * 3)) = some (.string y.f0))
                (first | exact ⟨b0, hd0⟩ | exact ⟨pw_cell_below hb3 b0, pw_cell_below hb3 hd0⟩)
                (first | (go_at_call 81; refine (ahead_any o.f0 y.f0 HOS.out HSy.out _).mono ?_; rintro e wv ⟨rfl, hb3⟩; rw [HLT.out]))
              go_wp2
              obtain ⟨k1, rfl⟩ : ∃ k1, gk = k1 + 1 := ⟨gk - 1, by have := HK2.out; omega⟩
              go_roundg k1
              case measure => omega
              case rel => exact ⟨k + 1, by first | go_num | rw [wsucc k (by have := HRL.out; omega)], ⟨by have := HK2.out; omega⟩, ⟨ahead_stop HJ.out k rfl qk (by rw [← HO1.out]; exact HLT.out)⟩, ⟨below_then HB2.out HB2.out.size (below_undrew hb3)⟩⟩
          · have hk : k = R.length := by have := HK2.out; omega
            have hdd : decide ((k : Int) < (R.length : Int)) = false := by simp; omega
            have HKE := Aside0.mk hk
            clear hk
            have HBv : Aside0 (Below w2.heap.size w2 wr) := HB2
            have HKL : Aside0 (k ≤ R.length) := ⟨by have := HKE.out; omega⟩
            have HCv : Aside0 (Kd.C kWrite wr (some ad2) l.length l) := ⟨Kd.C_below HCw.out HBv.out⟩
            have HSTOP : Aside0 (∀ hj : k < R.length, ltF (Pr.S101.f0 R[k]) y.f0 = false) := ⟨fun hj => by have := HKE.out; omega⟩
            go_wp2_with fail
            go_quiet (fail)
            have HT : Aside0 (Kd.C kAnswer wr AR k (R.take k)) := ⟨by
              have h := Kd.C_take (m := k) (Kd.C_below HC1.out HBv.out) (by have := HKL.out; omega)
              rwa [List.length_take, Nat.min_eq_left HKL.out] at h⟩
            have HD : Aside0 (Kd.C kAnswer wr (if c1 = k then AR else AR.map (·.add (k * 4))) (R.length - k) (R.drop k)) := ⟨by
              have h := Kd.C_drop (m := k) (c := c1) (Kd.C_below HC1.out HBv.out) HKL.out hl1
              rw [List.length_drop] at h
              exact h⟩
            have HLN : Aside0 ((([] : List Answer).length + k) * 48 ≤ 140737488355328 ∧ ((R.take k).length + 1) * 48 ≤ 140737488355328 ∧ ((R.take k ++ [(⟨y.f0, true, y.f2, seq⟩ : Answer)]).length + (R.length - k)) * 48 ≤ 140737488355328) := ⟨by
              have := HRL.out
              have := HKL.out
              simp
              omega⟩
            have hcut1 := cutA_to AR R.length c1 k HKL.out hl1
            have hcut2 := cutA_from AR R.length c1 k HKL.out hl1
            have e0 := pw_cell_below HBv.out d0
            have e2 := pw_cell_below HBv.out d2
            have hcg := pw_cell_below HBv.out hcell
            have hblkv := (HBv.out.block g hgw).trans hblk2
            have hfg : wr.frozen? ⟨g, 0, none⟩ = false := by simp [World.frozen?, hblkv]
            have HFG : Aside0 (∀ W, Below wr.heap.size wr W → W.frozen? ⟨g, 0, none⟩ = false) := ⟨fun W hb => by simp [World.frozen?, (hb.block g (Array.getElem?_eq_some_iff.1 hblkv).1).trans hblkv]⟩
            have HKP : Aside0 (∀ W, Below wr.heap.size wr W → W.cell? (ad2.add (x * 3)) = some (.string y.f0) ∧ W.cell? ⟨(ad2.add (x * 3)).block, (ad2.add (x * 3)).off + 2, none⟩ = some (.string y.f2)) := ⟨fun W hb => ⟨pw_cell_below hb e0, pw_cell_below hb e2⟩⟩
            have HKS : Aside0 (∀ W, Below wr.heap.size wr W → ∀ u, (W.setCell ⟨g, 0, none⟩ u).cell? (ad2.add (x * 3)) = some (.string y.f0) ∧ (W.setCell ⟨g, 0, none⟩ u).cell? ⟨(ad2.add (x * 3)).block, (ad2.add (x * 3)).off + 2, none⟩ = some (.string y.f2)) := ⟨fun W hb u => ⟨(World.cell?_setCell_other _ _ _ _ (fun e => HAD.out (by have h := congrArg Addr.block e; simp only [add_block] at h; exact h.symm))).trans (pw_cell_below hb e0), (World.cell?_setCell_other _ _ _ _ (fun e => HAD.out (by have h := congrArg Addr.block e; simp only [add_block] at h; exact h.symm))).trans (pw_cell_below hb e2)⟩⟩
            have HBV := Aside0.mk hblkv
            have hgv : g < wr.heap.size := (Array.getElem?_eq_some_iff.1 hblkv).1
            clear hblkv
            go_wp2_with fail
            go_region_held3 (fun w' => w'.cell? (ad2.add (x * 3)) = some (.string y.f0) ∧ w'.cell? ⟨(ad2.add (x * 3)).block, (ad2.add (x * 3)).off + 2, none⟩ = some (.string y.f2))
              (first | exact ⟨e0, e2⟩ | exact HKP.out _ (Below.refl _ _) | exact HKP.out _ (pw_below_drewN (Below.refl _ _) _) | exact HKP.out _ (below_alloc (pw_below_drewN (Below.refl _ _) _) _) | exact HKP.out _ (below_alloc (Below.refl _ _) _) | exact HKP.out _ (hb1) | exact HKP.out _ (below_alloc hb1 _) | exact HKP.out _ (hb3) | exact HKP.out _ (hb4) | exact HKP.out _ (below_drew (Below.refl _ _)) | exact HKP.out _ (below_drew (pw_below_drewN (Below.refl _ _) _)) | exact HKP.out _ (below_drew (below_alloc (pw_below_drewN (Below.refl _ _) _) _)) | exact HKP.out _ (below_drew (below_alloc (Below.refl _ _) _)) | exact HKP.out _ (below_drew (hb1)) | exact HKP.out _ (below_drew (below_alloc hb1 _)) | exact HKP.out _ (below_drew (hb3)) | exact HKP.out _ (below_drew (hb4)) | exact HKS.out _ hb4 _)
              (first | (refine Kd.R_append_rows_step kAnswer (w0 := wr) wr.heap.size (by rfl) (.const (.slice none 0 0)) (.tmp 53) 27 101 (.agg #[.string ⟨#[]⟩, .bool false, .string ⟨#[]⟩, .int .u32 0]) 48 (by rfl) Tryd.underlying27 infoOfAnswer rfl (by decide) (by decide) (.slice none 0 0) [] (R.take k) AR k c1 (fun _ => True) (fun _ => False) (by rfl) (by rfl) (Kd.R_nil _ _ _ _ _) (Kd.C_below HT.out (by (repeat (first | apply below_alloc | apply below_drew1 | apply pw_below_drewN)); first | exact hb3 | exact hb1 | exact Below.refl _ _)) (fun z cs h => by rw [kAnswer_open h]; exact kAnswer_mkM _ _ _ z) (fun _ h => h.elim) (fun _ _ => trivial) (by (repeat (first | apply below_alloc | apply below_drew1 | apply pw_below_drewN)); first | exact hb3 | exact hb1 | exact Below.refl _ _) (by first | exact hb1.size | exact hb3.size | exact Nat.le_refl _ | (simp; done) | (have := hb1.size; simp; omega)) HLN.out.1 ?_; intro va w1 ho1 hb1 hg1 hat1) | (refine Kd.R_append_rows_step kAnswer (w0 := wr) wr.heap.size (by rfl) (.tmp 54) (.tmp 67) 27 101 (.agg #[.string ⟨#[]⟩, .bool false, .string ⟨#[]⟩, .int .u32 0]) 48 (by rfl) Tryd.underlying27 infoOfAnswer rfl (by decide) (by decide) va (R.take k) [(⟨y.f0, true, y.f2, seq⟩ : Answer)] (some ⟨w1.heap.size, 0, none⟩) 1 1 (fun _ => True) (fun _ => False) (by rfl) (by rfl) (Kd.R_alloc ho1 _) (C_oneA w1 (⟨y.f0, true, y.f2, seq⟩ : Answer)) (fun z cs h => by rw [kAnswer_open h]; exact kAnswer_mkM _ _ _ z) (fun _ h => h.elim) (fun _ _ => trivial) (by (repeat (first | apply below_alloc | apply below_drew1 | apply pw_below_drewN)); first | exact hb3 | exact hb1 | exact Below.refl _ _) (by first | exact hb1.size | exact hb3.size | exact Nat.le_refl _ | (simp; done) | (have := hb1.size; simp; omega)) HLN.out.2.1 ?_; intro vb w3 ho3 hb3 hg3 hat3) | (refine Kd.R_append_rows_step kAnswer (w0 := wr) wr.heap.size (by rfl) (.tmp 54) (.tmp 67) 27 101 (.agg #[.string ⟨#[]⟩, .bool false, .string ⟨#[]⟩, .int .u32 0]) 48 (by rfl) Tryd.underlying27 infoOfAnswer rfl (by decide) (by decide) va (R.take k) [(⟨y.f0, true, y.f2, seq⟩ : Answer)] (some ⟨wr.heap.size, 0, none⟩) 1 1 (fun _ => True) (fun _ => False) (by rfl) (by rfl) ho1 (C_keptA hg1 (C_oneA wr (⟨y.f0, true, y.f2, seq⟩ : Answer))) (fun z cs h => by rw [kAnswer_open h]; exact kAnswer_mkM _ _ _ z) (fun _ h => h.elim) (fun _ _ => trivial) (by (repeat (first | apply below_alloc | apply below_drew1 | apply pw_below_drewN)); first | exact hb3 | exact hb1 | exact Below.refl _ _) (by first | exact hb1.size | exact hb3.size | exact Nat.le_refl _ | (simp; done) | (have := hb1.size; simp; omega)) HLN.out.2.1 ?_; intro vb w3 ho3 hb3 hg3 hat3) | (refine Kd.R_append_rows_step kAnswer (w0 := wr) wr.heap.size (by rfl) (.tmp 68) (.tmp 71) 27 101 (.agg #[.string ⟨#[]⟩, .bool false, .string ⟨#[]⟩, .int .u32 0]) 48 (by rfl) Tryd.underlying27 infoOfAnswer rfl (by decide) (by decide) vb (R.take k ++ [(⟨y.f0, true, y.f2, seq⟩ : Answer)]) (R.drop k) (if c1 = k then AR else AR.map (·.add (k * 4))) (R.length - k) (c1 - k) (fun _ => True) (fun _ => False) (by rfl) (by rfl) ho3 (Kd.C_below HD.out (by (repeat (first | apply below_alloc | apply below_drew1 | apply pw_below_drewN)); first | exact hb3 | exact hb1 | exact Below.refl _ _)) (fun z cs h => by rw [kAnswer_open h]; exact kAnswer_mkM _ _ _ z) (fun _ h => h.elim) (fun _ _ => trivial) (by (repeat (first | apply below_alloc | apply below_drew1 | apply pw_below_drewN)); first | exact hb3 | exact hb1 | exact Below.refl _ _) (by first | exact hb1.size | exact hb3.size | exact Nat.le_refl _ | (simp; done) | (have := hb1.size; simp; omega)) HLN.out.2.2 ?_; intro v4 w4 ho4 hb4 hg4 hat4; obtain ⟨A4, c4, n4, rfl, HN4⟩ : ∃ A c n, v4 = .slice A n c ∧ Aside0 (n = (R.take k ++ [(⟨y.f0, true, y.f2, seq⟩ : Answer)] ++ R.drop k).length) := R_letter ho4; have hcg4 := pw_cell_below hb4 hcg; have hfg4 := HFG.out _ hb4))
            all_goals go_wp2
            all_goals
              go_roundg g1
              case measure => omega
              case rel =>
                have hb4' : (w4.heap[g]? = some (.cells #[gv] 29 (0, 0))) := (hb4.block g hgv).trans HBV.out
                have hR4 := RefMIs.set (base := wr.heap.size) hb4' rfl hgv ho4
                refine ⟨x + 1, R.take k ++ [(⟨y.f0, true, y.f2, seq⟩ : Answer)] ++ R.drop k, by go_num, ⟨by have := HK.out; omega⟩, ⟨hR4⟩, ⟨?_, ?_, ?_⟩, ⟨?_⟩, ⟨?_⟩⟩
                · rw [puts_snoc seq (f, n) l x q, ← HX.out]
                  unfold put1
                  rw [if_neg (by rw [HDl.out]; simp)]
                  exact HP.out.1.putL (⟨y.f0, true, y.f2, seq⟩ : Answer) HRE.out HKL.out (fun j hj => HJ.out j hj (by have := HKL.out; omega)) HSTOP.out
                · have := HP.out.2.1
                  have := HRL2.out
                  have := HKL.out
                  simp
                  omega
                · intro a ha
                  rcases insert_memA.1 ha with h | h
                  · exact HP.out.2.2 a (HRM.out a h)
                  · rw [h]; exact HSy.out
                · exact ((HG.out.trans (grown_of_below (below_then HBw.out HBw.out.size HBv.out) _)).trans (grown_of_below hb4 _)).trans (grown_set _ _ _)
                · exact C_set (Kd.C_below HCv.out hb4) (fun ad' e => by cases e; exact HAD.out) (fun _ _ => kWrite_any)
      · rw [hd] at d1
        have HDl := Aside0.mk hd
        have HBK := Aside0.mk hblk2
        clear hd hblk2
        go_wp2
        go_roundg g1
        case measure => omega
        case rel =>
          refine ⟨x + 1, R, by go_num, ⟨by have := HK.out; omega⟩, ⟨RefMIs.set HBK.out rfl HGo.out HR2.out⟩, ⟨?_, by have := HP.out.2.1; have := HRL2.out; omega, fun a ha => HP.out.2.2 a (HRM.out a ha)⟩, ⟨(HG.out.trans (grown_of_below HBw.out _)).trans (grown_set _ _ _)⟩, ⟨C_set HCw.out (fun ad' e => by cases e; exact HAD.out) (fun _ _ => kWrite_any)⟩⟩
          rw [puts_snoc seq (f, n) l x q, ← HX.out]
          unfold put1
          rw [if_pos HDl.out, HRE.out]
          exact HP.out.1.delL y.f0
    · have e : l.take x = l := List.take_of_length_le (by omega)
      rw [e] at HP
      clear e
      have hx : x = l.length := by have := HK.out; omega
      have HX := Aside0.mk hx
      clear hx
      go_wp2
      go_end0
      exact ⟨L', rfl, HR.out, HP.out.1, by have := HP.out.2.1; have := HX.out; omega, HP.out.2.2, HG.out⟩
end Go.Proofs.YtmionoghpjpbaaaDoor
