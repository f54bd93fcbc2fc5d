/-
  The document's KeysSorted.
-/
import Derived.Test.YtmionoghpjpbaaaDoorAhead
import Derived.Test.YtmionoghpjpbaaaDoorKeys
import Derived.Deep.RegionHeld3
import Derived.Deep.DrawnRows
import Derived.BigQuiet
namespace Go.Proofs.YtmionoghpjpbaaaDoorM
/-! ### plain: a text is put in its place -/
/-- l's texts below the k-th are ahead of s, the k-th is not. -/
theorem insert_rises {out : List ByteArray} (hr : Rises out) {s : ByteArray} {k : Nat} (hk : k ≤ out.length) (h1 : ∀ j, (hj : j < k) → ltF (out[j]'(by omega)) s = true) (h2 : ∀ h : k < out.length, ltF (out[k]) s = false ∧ out[k] ≠ s) :
    Rises (out.take k ++ [s] ++ out.drop k) := by
  unfold Rises at *
  rw [List.append_assoc, List.pairwise_append]
  refine ⟨hr.sublist (List.take_sublist _ _), ?_, ?_⟩
  · rw [List.singleton_append, List.pairwise_cons]
    refine ⟨fun x hx => ?_, hr.sublist (List.drop_sublist _ _)⟩
    obtain ⟨i, hi, rfl⟩ := List.getElem_of_mem hx
    rw [List.length_drop] at hi
    rw [List.getElem_drop]
    have hkl : k < out.length := by omega
    obtain ⟨h3, h4⟩ := h2 hkl
    have h5 : ltF s out[k] = true := by
      cases h : ltF s out[k]
      · exact absurd (ltF_tri h3 h) h4
      · rfl
    by_cases e : i = 0
    · subst e; simpa using h5
    · exact ltF_trans h5 (List.pairwise_iff_getElem.1 hr k (k + i) hkl (by omega) (by omega))
  · intro a ha b hb
    obtain ⟨i, hi, rfl⟩ := List.getElem_of_mem ha
    rw [List.length_take] at hi
    rw [List.getElem_take]
    rcases List.mem_append.1 hb with hb | hb
    · rw [List.mem_singleton.1 hb]
      exact h1 i (by omega)
    · obtain ⟨j, hj, rfl⟩ := List.getElem_of_mem hb
      rw [List.length_drop] at hj
      rw [List.getElem_drop]
      exact List.pairwise_iff_getElem.1 hr i (k + j) (by omega) (by omega) (by omega)
theorem insert_mem {out : List ByteArray} {s x : ByteArray} {k : Nat} : x ∈ out.take k ++ [s] ++ out.drop k ↔ x ∈ out ∨ x = s := by
  rw [List.mem_append, List.mem_append, List.mem_singleton]
  constructor
  · rintro ((h | h) | h)
    · exact .inl (List.mem_of_mem_take h)
    · exact .inr h
    · exact .inl (List.mem_of_mem_drop h)
  · rintro (h | h)
    · rw [← List.take_append_drop k out] at h
      rcases List.mem_append.1 h with h | h
      · exact .inl (.inl h)
      · exact .inr h
    · exact .inl (.inr h)
end Go.Proofs.YtmionoghpjpbaaaDoorM

namespace Go.Proofs.YtmionoghpjpbaaaDoor
open Go.RowKit Go.Proofs.YtmionoghpjpbaaaDoorW.PrintWords Go.Proofs.YtmionoghpjpbaaaDoorW.PrintLast Go.Proofs.YtmionoghpjpbaaaDoorW.PrintMore
open Go.Proofs.YtmionoghpjpbaaaDoorM
set_option linter.unusedVariables false
set_option linter.unusedSimpArgs false
attribute [local go_sem ↓] Go.wp_at_zero Go.wp_at_succ

theorem wsucc (k : Nat) (h : k < 100000000000) : wrap64 ((k : Int) + 1) = ((k + 1 : Nat) : Int) := by rw [w64 _ (by omega) (by omega)]; omega
/-- Cuts of a list of texts. -/
theorem cut_to (A : Option Addr) (n c k : Nat) (hk : k ≤ n) (hc : n ≤ c) (W : World) : (Instr.slice 33 (.slice A n c) none (some (.int .i64 k)) none).run Tryd.prog W = .ok (.slice A k c) W := by
  obtain ⟨i0, hi, hzz⟩ := Option.map_eq_some_iff.1 infoOfStr
  simp only [Prod.mk.injEq] at hzz
  have hel : Tryd.prog.elem 33 = 9 := by simp [Program.elem, Tryd.underlying33]
  have hu : Tryd.prog.underlying 33 = some (.slice (Tryd.prog.elem 33)) := by rw [hel]; exact Tryd.underlying33
  have ha : (A.map fun x => x.add 0) = A := by cases A <;> simp [Addr.add]
  rw [run_slice_h W 33 A n c hu .i64 k (by omega) (by omega), hel]
  simp [sizeOf, typeInfo, hi, hzz.2.1, sliced, Result.andThen, ha]
theorem cut_from (A : Option Addr) (n c k : Nat) (hk : k ≤ n) (hc : n ≤ c) (W : World) : (Instr.slice 33 (.slice A n c) (some (.int .i64 k)) none none).run Tryd.prog W = .ok (.slice (if c = k then A else A.map (·.add k)) (n - k) (c - k)) W := by
  obtain ⟨i0, hi, hzz⟩ := Option.map_eq_some_iff.1 infoOfStr
  simp only [Prod.mk.injEq] at hzz
  have hel : Tryd.prog.elem 33 = 9 := by simp [Program.elem, Tryd.underlying33]
  have hu : Tryd.prog.underlying 33 = some (.slice (Tryd.prog.elem 33)) := by rw [hel]; exact Tryd.underlying33
  rw [run_slice_l W 33 A n c hu .i64 k (by omega) (by omega), hel]
  simp [sizeOf, typeInfo, hi, hzz.2.1, sliced, Result.andThen]

theorem below_undrew {w w' : World} (h : Below w.drew.heap.size w.drew w') : Below w.heap.size w w' := ⟨h.os, h.tape, h.output, h.size, h.block⟩
theorem C_kept {w w' : World} {A : Option Addr} {n : Nat} {xs : List ByteArray} (hg : w.grownBy w' none) (h : Kd.string.C w A n xs) : Kd.string.C w' A n xs :=
  Kd.C_below h ⟨hg.os, hg.tape, hg.output, hg.size, fun i hi => hg.block i hi (by simp)⟩

set_option maxHeartbeats 4000000 in
set_option maxRecDepth 100000 in
theorem keysSorted_any (A : Option Addr) (c : Nat) (l : List ByteArray) (w : World) (hC : Kd.string.C w A l.length l) (hl : l.length ≤ 1000000) (hs : ∀ s, s ∈ l → s.size ≤ 1000000000) :
    Calls Tryd.prog 34 #[.slice A l.length c] w (SortedOf w l) := by
  have HC := Aside0.mk hC
  have HL := Aside0.mk hl
  have HS := Aside0.mk hs
  clear hC hl hs
  go_enter Tryd.func34, Tryd.ntmps34
  go_wp2
  go_loopg [3, 4] l.length (fun kq v3 v4 w' => ∃ (x : Nat) (out : List ByteArray), v4 = .int .i64 x ∧ Aside0 (x + kq = l.length) ∧ Aside0 (Kd.R Kd.string 9 w' w.heap.size (fun _ => True) v3 out) ∧ Aside0 (Rises out ∧ (∀ s, s ∈ out ↔ s ∈ l.take x) ∧ out.length ≤ x) ∧ Aside0 (Below w.heap.size w w'))
  case atStart => exact ⟨0, [], rfl, ⟨by simp⟩, ⟨Kd.R_nil _ _ _ _ _⟩, ⟨List.Pairwise.nil, by simp, by simp⟩, ⟨Below.refl _ _⟩⟩
  case round =>
    obtain ⟨x, out, rfl, HK, HO, HP, HB⟩ := hrel
    obtain ⟨A2, c2, rfl, hc2, hr2⟩ := Kd.R_reads HO.out
    have HC2 := Aside0.mk hr2
    have hl2 : out.length ≤ c2 := hc2
    clear hr2 hc2
    by_cases q : x < l.length
    · have q' : (x : Int) < (l.length : Int) := by omega
      obtain ⟨g1, rfl⟩ : ∃ g1, gk = g1 + 1 := ⟨gk - 1, by have := HK.out; omega⟩
      have HCW : Aside0 (Kd.string.C wr A l.length l) := ⟨Kd.C_below HC.out HB.out⟩
      obtain ⟨s, hsx⟩ : ∃ s, s = l[x] := ⟨_, rfl⟩
      have HX := Aside0.mk hsx
      clear hsx
      have HSS : Aside0 (s.size ≤ 1000000000) := ⟨by rw [HX.out]; exact HS.out _ (List.getElem_mem q)⟩
      go_wp2_with fail
      go_loopg [5] out.length (fun kq v5 w' => ∃ k : Nat, v5 = .int .i64 k ∧ Aside0 (k + kq = out.length) ∧ Aside0 (∀ j, (hj : j < k) → (hk : k ≤ out.length) → ltF (out[j]'(by omega)) s = true) ∧ Aside0 (Below wr.heap.size wr w'))
      case atStart => exact ⟨0, rfl, ⟨by simp⟩, ⟨fun j hj => by omega⟩, ⟨Below.refl _ _⟩⟩
      case round =>
        obtain ⟨k, rfl, HK2, HJ, HB2⟩ := hrel
        by_cases qk : k < out.length
        · have qk' : (k : Int) < (out.length : Int) := by omega
          have p0 : (0 : Int) ≤ (k : Int) := by omega
          have p1 : (0 : Int) ≤ (x : Int) := by omega
          obtain ⟨ad1, e1, d1⟩ := Kd.at_string (Kd.C_below HC2.out HB2.out) (k : Int) p0 qk'
          obtain ⟨ad2, e2, d2⟩ := Kd.at_string (Kd.C_below HCW.out HB2.out) (x : Int) p1 q'
          cases e1
          cases e2
          have HO1 : Aside0 (rdOf ByteArray.empty out (k : Int) = out[k]) := ⟨by rw [rdOf_get (by simpa using qk)]; simp⟩
          have HO2 : Aside0 (rdOf ByteArray.empty l (x : Int) = s) := ⟨by rw [rdOf_get (by simpa using q), HX.out]; simp⟩
          rw [HO2.out] at d2
          generalize rdOf ByteArray.empty out (k : Int) = o at *
          have HOS : Aside0 (o.size ≤ 1000000000) := ⟨by rw [HO1.out]; exact HS.out _ (List.mem_of_mem_take ((HP.out.2.1 _).1 (List.getElem_mem qk)))⟩
          rw [Int.toNat_natCast] at d1 d2
          cases hlt : ltF o s
          · have HLT := Aside0.mk hlt
            clear hlt
            go_wp2_with fail
            go_region_held3 (fun w' => w'.cell? (ad1.add k) = some (.string o) ∧ w'.cell? (ad2.add x) = some (.string s))
              (first | exact ⟨d1, d2⟩ | exact ⟨pw_cell_below hb3 d1, pw_cell_below hb3 d2⟩)
              (first | (go_at_call 81; refine (ahead_any o s HOS.out HSS.out _).mono ?_; rintro e w2 ⟨rfl, hb3⟩; rw [HLT.out]))
            go_wp2_with fail
            replace hb3 := below_undrew hb3
            replace d1 := pw_cell_below hb3 d1
            replace d2 := pw_cell_below hb3 d2
            have HKL : Aside0 (k ≤ out.length) := ⟨by omega⟩
            have HCC : Aside0 (Kd.string.C w2 (some ad1) out.length out) := ⟨Kd.C_below (Kd.C_below HC2.out HB2.out) hb3⟩
            have HOO : Aside0 (Kd.R Kd.string 9 w2 w.heap.size (fun _ => True) (.slice (some ad1) out.length c2) out) := ⟨Kd.R_below (Kd.R_below HO.out HB2.out) hb3⟩
            have HBB : Aside0 (Below w.heap.size w w2) := ⟨below_then (below_then HB.out HB.out.size HB2.out) (below_then HB.out HB.out.size HB2.out).size hb3⟩
            clear hb3
            by_cases eos : o = s
            · have heq : (o.toList == s.toList) = true := by rw [eos]; exact beq_self_eq_true _
              go_quiet (fail)
              go_wp2
              go_roundg g1
              case measure => omega
              case rel =>
                refine ⟨x + 1, out, by rw [wsucc x (by have := HL.out; omega)], ⟨by have := HK.out; omega⟩, HOO, ⟨HP.out.1, fun t => ?_, by have := HP.out.2.2; omega⟩, ⟨pw_below_drewN HBB.out _⟩⟩
                rw [HP.out.2.1 t, List.take_succ_eq_append_getElem q, List.mem_append, List.mem_singleton, ← HX.out]
                constructor
                · exact .inl
                · rintro (h | h)
                  · exact h
                  · rw [h, ← eos, HO1.out]; exact (HP.out.2.1 _).1 (List.getElem_mem qk)
            · have heq : (o.toList == s.toList) = false := beq_false_of_ne fun h => eos (bytes_ext (by rwa [Lib.toList_data, Lib.toList_data] at h))
              go_quiet (fail)
              go_wp2_with fail
              have HT : Aside0 (Kd.string.C w2 (some ad1) k (out.take k)) := ⟨by
                have h := Kd.C_take (m := k) HCC.out (by have := HKL.out; omega)
                rwa [List.length_take, Nat.min_eq_left HKL.out] at h⟩
              have HD : Aside0 (Kd.string.C w2 (if c2 = k then (some ad1) else (some ad1).map (·.add k)) (out.length - k) (out.drop k)) := ⟨by
                have h := Kd.C_drop (m := k) (c := c2) HCC.out HKL.out hl2
                rw [List.length_drop] at h
                have e : k * Kd.string.sz = k := Nat.mul_one k
                rwa [e] at h⟩
              have HLN : Aside0 ((([] : List ByteArray).length + k) * 16 ≤ 140737488355328 ∧ ((out.take k).length + 1) * 16 ≤ 140737488355328 ∧ ((out.take k ++ [s]).length + (out.length - k)) * 16 ≤ 140737488355328) := ⟨by
                have := HL.out
                have := HP.out.2.2
                have := HKL.out
                simp
                omega⟩
              have hcut1 := cut_to (some ad1) out.length c2 k HKL.out hl2
              have hcut2 := cut_from (some ad1) out.length c2 k HKL.out hl2
              go_region_held3 (fun w' => w'.cell? (ad2.add x) = some (.string s))
                (first | exact d2 | exact pw_cell_below (below_alloc (Below.refl _ _) _) d2 | exact pw_cell_below hb1 d2 | exact pw_cell_below (below_alloc hb1 _) d2 | exact pw_cell_below hb3 d2 | exact pw_cell_below hb4 d2)
                (first | (refine Kd.R_append_rows_step Kd.string (w0 := w2) w2.heap.size (by rfl) (.const (.slice none 0 0)) (.tmp 46) 33 9 (.string ⟨#[]⟩) 16 (by rfl) Tryd.underlying33 infoOfStr rfl (by decide) (by decide) (.slice none 0 0) [] (out.take k) (some ad1) k c2 (fun _ => True) (fun _ => False) (by rfl) (by rfl) (Kd.R_nil _ _ _ _ _) (Kd.C_below HT.out (by (repeat (first | apply below_alloc | apply below_drew1 | apply pw_below_drewN)); first | exact hb3 | exact hb1 | exact Below.refl _ _)) (fun _ _ h => h) (fun _ h => h.elim) (fun _ _ => trivial) (by (repeat (first | apply below_alloc | apply below_drew1 | apply pw_below_drewN)); first | exact hb3 | exact hb1 | exact Below.refl _ _) (by first | exact hb1.size | exact hb3.size | exact Nat.le_refl _ | (simp; done) | (have := hb1.size; simp; omega)) HLN.out.1 ?_; intro va w1 ho1 hb1 hg1 hat1) | (refine Kd.R_append_rows_step Kd.string (w0 := w2) w2.heap.size (by rfl) (.tmp 47) (.tmp 52) 33 9 (.string ⟨#[]⟩) 16 (by rfl) Tryd.underlying33 infoOfStr rfl (by decide) (by decide) va (out.take k) [s] (some ⟨w1.heap.size, 0, none⟩) 1 1 (fun _ => True) (fun _ => False) (by rfl) (by rfl) (Kd.R_alloc ho1 _) (C_strs w1 9 [s] (by simp [maxLen])) (fun _ _ h => h) (fun _ h => h.elim) (fun _ _ => trivial) (by (repeat (first | apply below_alloc | apply below_drew1 | apply pw_below_drewN)); first | exact hb3 | exact hb1 | exact Below.refl _ _) (by first | exact hb1.size | exact hb3.size | exact Nat.le_refl _ | (simp; done) | (have := hb1.size; simp; omega)) HLN.out.2.1 ?_; intro vb w3 ho3 hb3 hg3 hat3) | (refine Kd.R_append_rows_step Kd.string (w0 := w2) w2.heap.size (by rfl) (.tmp 47) (.tmp 52) 33 9 (.string ⟨#[]⟩) 16 (by rfl) Tryd.underlying33 infoOfStr rfl (by decide) (by decide) va (out.take k) [s] (some ⟨w2.heap.size, 0, none⟩) 1 1 (fun _ => True) (fun _ => False) (by rfl) (by rfl) ho1 (C_kept hg1 (C_strs _ 9 [s] (by simp [maxLen]))) (fun _ _ h => h) (fun _ h => h.elim) (fun _ _ => trivial) (by (repeat (first | apply below_alloc | apply below_drew1 | apply pw_below_drewN)); first | exact hb3 | exact hb1 | exact Below.refl _ _) (by first | exact hb1.size | exact hb3.size | exact Nat.le_refl _ | (simp; done) | (have := hb1.size; simp; omega)) HLN.out.2.1 ?_; intro vb w3 ho3 hb3 hg3 hat3) | (refine Kd.R_append_rows_step Kd.string (w0 := w2) w2.heap.size (by rfl) (.tmp 53) (.tmp 56) 33 9 (.string ⟨#[]⟩) 16 (by rfl) Tryd.underlying33 infoOfStr rfl (by decide) (by decide) vb (out.take k ++ [s]) (out.drop k) (if c2 = k then (some ad1) else (some ad1).map (·.add k)) (out.length - k) (c2 - k) (fun _ => True) (fun _ => False) (by rfl) (by rfl) ho3 (Kd.C_below HD.out (by (repeat (first | apply below_alloc | apply below_drew1 | apply pw_below_drewN)); first | exact hb3 | exact hb1 | exact Below.refl _ _)) (fun _ _ h => h) (fun _ h => h.elim) (fun _ _ => trivial) (by (repeat (first | apply below_alloc | apply below_drew1 | apply pw_below_drewN)); first | exact hb3 | exact hb1 | exact Below.refl _ _) (by first | exact hb1.size | exact hb3.size | exact Nat.le_refl _ | (simp; done) | (have := hb1.size; simp; omega)) HLN.out.2.2 ?_; intro v4 w4 ho4 hb4 hg4 hat4))
              all_goals go_wp2
              all_goals
                go_roundg g1
                case measure => omega
                case rel =>
                  refine ⟨x + 1, out.take k ++ [s] ++ out.drop k, by rw [wsucc x (by have := HL.out; omega)], ⟨by have := HK.out; omega⟩, ⟨Kd.R_lower ho4 HBB.out.size⟩, ⟨insert_rises HP.out.1 HKL.out (fun j hj => HJ.out j hj HKL.out) (fun h => ?_), fun t => ?_, ?_⟩, ⟨below_then HBB.out HBB.out.size hb4⟩⟩
                  · exact ⟨by rw [← HO1.out]; exact HLT.out, by rw [← HO1.out]; exact eos⟩
                  · rw [insert_mem, HP.out.2.1 t, List.take_succ_eq_append_getElem q, List.mem_append, List.mem_singleton, ← HX.out]
                  · have := HP.out.2.2; have := HKL.out; simp; omega
          · have HLT := Aside0.mk hlt
            clear hlt
            go_wp2_with fail
            go_region_held3 (fun w' => w'.cell? (ad1.add k) = some (.string o) ∧ w'.cell? (ad2.add x) = some (.string s))
              (first | exact ⟨d1, d2⟩ | exact ⟨pw_cell_below hb3 d1, pw_cell_below hb3 d2⟩)
              (first | (go_at_call 81; refine (ahead_any o s HOS.out HSS.out _).mono ?_; rintro e w2 ⟨rfl, hb3⟩; rw [HLT.out]))
            go_wp2
            obtain ⟨k1, rfl⟩ : ∃ k1, gk = k1 + 1 := ⟨gk - 1, by have := HK2.out; omega⟩
            go_roundg k1
            case measure => omega
            case rel =>
              refine ⟨k + 1, by rw [wsucc k (by have := HL.out; have := HP.out.2.2; omega)], ⟨by have := HK2.out; omega⟩, ⟨fun j hj hk => ?_⟩, ⟨?_⟩⟩
              · by_cases e : j = k
                · subst e; rw [← HO1.out]; exact HLT.out
                · exact HJ.out j (by omega) (by omega)
              · exact below_then HB2.out HB2.out.size (below_undrew hb3)
        · have hk : k = out.length := by have := HK2.out; omega
          have hd : decide ((k : Int) < (out.length : Int)) = false := by simp; omega
          have HKE := Aside0.mk hk
          clear hk
          have p1 : (0 : Int) ≤ (x : Int) := by omega
          obtain ⟨ad2, e2, d2⟩ := Kd.at_string (Kd.C_below HCW.out HB2.out) (x : Int) p1 q'
          cases e2
          have HO2 : Aside0 (rdOf ByteArray.empty l (x : Int) = s) := ⟨by rw [rdOf_get (by simpa using q), HX.out]; simp⟩
          rw [HO2.out] at d2
          rw [Int.toNat_natCast] at d2
          have HKL : Aside0 (k ≤ out.length) := ⟨by have := HKE.out; omega⟩
          have HCC : Aside0 (Kd.string.C wr A2 out.length out) := ⟨Kd.C_below HC2.out HB2.out⟩
          have HBB : Aside0 (Below w.heap.size w wr) := ⟨below_then HB.out HB.out.size HB2.out⟩
          go_wp2_with fail
          go_quiet (fail)
          go_wp2_with fail
          go_quiet (fail)
          go_wp2_with fail
          have HT : Aside0 (Kd.string.C wr A2 k (out.take k)) := ⟨by
            have h := Kd.C_take (m := k) HCC.out (by have := HKL.out; omega)
            rwa [List.length_take, Nat.min_eq_left HKL.out] at h⟩
          have HD : Aside0 (Kd.string.C wr (if c2 = k then A2 else A2.map (·.add k)) (out.length - k) (out.drop k)) := ⟨by
            have h := Kd.C_drop (m := k) (c := c2) HCC.out HKL.out hl2
            rw [List.length_drop] at h
            have e : k * Kd.string.sz = k := Nat.mul_one k
            rwa [e] at h⟩
          have HLN : Aside0 ((([] : List ByteArray).length + k) * 16 ≤ 140737488355328 ∧ ((out.take k).length + 1) * 16 ≤ 140737488355328 ∧ ((out.take k ++ [s]).length + (out.length - k)) * 16 ≤ 140737488355328) := ⟨by
            have := HL.out
            have := HP.out.2.2
            have := HKL.out
            simp
            omega⟩
          have hcut1 := cut_to A2 out.length c2 k HKL.out hl2
          have hcut2 := cut_from A2 out.length c2 k HKL.out hl2
          go_region_held3 (fun w' => w'.cell? (ad2.add x) = some (.string s))
            (first | exact d2 | exact pw_cell_below (below_alloc (Below.refl _ _) _) d2 | exact pw_cell_below hb1 d2 | exact pw_cell_below (below_alloc hb1 _) d2 | exact pw_cell_below hb3 d2 | exact pw_cell_below hb4 d2)
            (first | (refine Kd.R_append_rows_step Kd.string (w0 := wr) wr.heap.size (by rfl) (.const (.slice none 0 0)) (.tmp 46) 33 9 (.string ⟨#[]⟩) 16 (by rfl) Tryd.underlying33 infoOfStr rfl (by decide) (by decide) (.slice none 0 0) [] (out.take k) A2 k c2 (fun _ => True) (fun _ => False) (by rfl) (by rfl) (Kd.R_nil _ _ _ _ _) (Kd.C_below HT.out (by (repeat (first | apply below_alloc | apply below_drew1 | apply pw_below_drewN)); first | exact hb3 | exact hb1 | exact Below.refl _ _)) (fun _ _ h => h) (fun _ h => h.elim) (fun _ _ => trivial) (by (repeat (first | apply below_alloc | apply below_drew1 | apply pw_below_drewN)); first | exact hb3 | exact hb1 | exact Below.refl _ _) (by first | exact hb1.size | exact hb3.size | exact Nat.le_refl _ | (simp; done) | (have := hb1.size; simp; omega)) HLN.out.1 ?_; intro va w1 ho1 hb1 hg1 hat1) | (refine Kd.R_append_rows_step Kd.string (w0 := wr) wr.heap.size (by rfl) (.tmp 47) (.tmp 52) 33 9 (.string ⟨#[]⟩) 16 (by rfl) Tryd.underlying33 infoOfStr rfl (by decide) (by decide) va (out.take k) [s] (some ⟨w1.heap.size, 0, none⟩) 1 1 (fun _ => True) (fun _ => False) (by rfl) (by rfl) (Kd.R_alloc ho1 _) (C_strs w1 9 [s] (by simp [maxLen])) (fun _ _ h => h) (fun _ h => h.elim) (fun _ _ => trivial) (by (repeat (first | apply below_alloc | apply below_drew1 | apply pw_below_drewN)); first | exact hb3 | exact hb1 | exact Below.refl _ _) (by first | exact hb1.size | exact hb3.size | exact Nat.le_refl _ | (simp; done) | (have := hb1.size; simp; omega)) HLN.out.2.1 ?_; intro vb w3 ho3 hb3 hg3 hat3) | (refine Kd.R_append_rows_step Kd.string (w0 := wr) wr.heap.size (by rfl) (.tmp 47) (.tmp 52) 33 9 (.string ⟨#[]⟩) 16 (by rfl) Tryd.underlying33 infoOfStr rfl (by decide) (by decide) va (out.take k) [s] (some ⟨wr.heap.size, 0, none⟩) 1 1 (fun _ => True) (fun _ => False) (by rfl) (by rfl) ho1 (C_kept hg1 (C_strs _ 9 [s] (by simp [maxLen]))) (fun _ _ h => h) (fun _ h => h.elim) (fun _ _ => trivial) (by (repeat (first | apply below_alloc | apply below_drew1 | apply pw_below_drewN)); first | exact hb3 | exact hb1 | exact Below.refl _ _) (by first | exact hb1.size | exact hb3.size | exact Nat.le_refl _ | (simp; done) | (have := hb1.size; simp; omega)) HLN.out.2.1 ?_; intro vb w3 ho3 hb3 hg3 hat3) | (refine Kd.R_append_rows_step Kd.string (w0 := wr) wr.heap.size (by rfl) (.tmp 53) (.tmp 56) 33 9 (.string ⟨#[]⟩) 16 (by rfl) Tryd.underlying33 infoOfStr rfl (by decide) (by decide) vb (out.take k ++ [s]) (out.drop k) (if c2 = k then A2 else A2.map (·.add k)) (out.length - k) (c2 - k) (fun _ => True) (fun _ => False) (by rfl) (by rfl) ho3 (Kd.C_below HD.out (by (repeat (first | apply below_alloc | apply below_drew1 | apply pw_below_drewN)); first | exact hb3 | exact hb1 | exact Below.refl _ _)) (fun _ _ h => h) (fun _ h => h.elim) (fun _ _ => trivial) (by (repeat (first | apply below_alloc | apply below_drew1 | apply pw_below_drewN)); first | exact hb3 | exact hb1 | exact Below.refl _ _) (by first | exact hb1.size | exact hb3.size | exact Nat.le_refl _ | (simp; done) | (have := hb1.size; simp; omega)) HLN.out.2.2 ?_; intro v4 w4 ho4 hb4 hg4 hat4))
          all_goals go_wp2
          all_goals
            go_roundg g1
            case measure => omega
            case rel =>
              refine ⟨x + 1, out.take k ++ [s] ++ out.drop k, by rw [wsucc x (by have := HL.out; omega)], ⟨by have := HK.out; omega⟩, ⟨Kd.R_lower ho4 HBB.out.size⟩, ⟨insert_rises HP.out.1 HKL.out (fun j hj => HJ.out j hj HKL.out) (fun h => ?_), fun t => ?_, ?_⟩, ⟨below_then HBB.out HBB.out.size hb4⟩⟩
              · have := HKE.out; omega
              · rw [insert_mem, HP.out.2.1 t, List.take_succ_eq_append_getElem q, List.mem_append, List.mem_singleton, ← HX.out]
              · have := HP.out.2.2; have := HKL.out; simp; omega
    · go_wp2
      go_ret
      have e : l.take x = l := List.take_of_length_le (by omega)
      rw [e] at HP
      exact ⟨_, out, rfl, HO.out, HP.out.1, HP.out.2.1, HB.out⟩
end Go.Proofs.YtmionoghpjpbaaaDoor
