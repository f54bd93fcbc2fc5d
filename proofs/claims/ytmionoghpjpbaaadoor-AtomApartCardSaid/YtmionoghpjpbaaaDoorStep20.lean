/-
  cachepotlaw20.Step: keys, writes.
-/
import Derived.Test.YtmionoghpjpbaaaDoorSame
import Derived.Test.YtmionoghpjpbaaaDoorSteps20
import Derived.Test.YtmionoghpjpbaaaDoorMade
namespace Go.Proofs.YtmionoghpjpbaaaDoor
open Go.RowKit Go.Proofs.YtmionoghpjpbaaaDoorW.PrintWords Go.Proofs.YtmionoghpjpbaaaDoorW.PrintLast Go.Proofs.YtmionoghpjpbaaaDoorW.PrintMore
open Go.Proofs.YtmionoghpjpbaaaDoorM
set_option linter.unusedVariables false
set_option linter.unusedSimpArgs false

/-- A step as a value. -/
def stepV (x : Step20) (A2 : Option Addr) (c2 : Nat) (A3 : Option Addr) (c3 : Nat) (A4 : Option Addr) (c4 : Nat) : Array Value := #[.int .i64 x.f0, .int .u32 x.f1, .slice A2 x.f2.length c2, .slice A3 x.f3.length c3, .slice A4 x.f4.length c4, .bool x.f5]
theorem box_cell6 {W : World} {B : Nat} {a b c d e f : Value} {t : TypeId} (h : W.heap[B]? = some (.cells #[a, b, c, d, e, f] t (0, 0))) :
    W.cell? ⟨B, 0, none⟩ = some a ∧ W.cell? ⟨B, 1, none⟩ = some b ∧ W.cell? ⟨B, 2, none⟩ = some c ∧ W.cell? ⟨B, 3, none⟩ = some d ∧ W.cell? ⟨B, 4, none⟩ = some e ∧ W.cell? ⟨B, 5, none⟩ = some f := by
  refine ⟨?_, ?_, ?_, ?_, ?_, ?_⟩ <;> simp [World.cell?, h]
theorem wblk {w W : World} {B : Nat} {o : Obj} (h : w.heap[B]? = some o) (hb : Below w.heap.size w W) : W.heap[B]? = some o := (hb.block B (Array.getElem?_eq_some_iff.1 h).1).trans h

/-- What a step's slices lie as. -/
structure StepAt (w : World) (x : Step20) (A2 : Option Addr) (c2 : Nat) (A3 : Option Addr) (c3 : Nat) (A4 : Option Addr) (c4 : Nat) : Prop where
  l2 : x.f2.length ≤ c2
  r2 : Kd.C kRaw w A2 x.f2.length x.f2
  l3 : x.f3.length ≤ c3
  r3 : Kd.C kWrite w A3 x.f3.length x.f3
  l4 : x.f4.length ≤ c4
  r4 : Kd.C Kd.string w A4 x.f4.length x.f4
theorem StepAt.below {w w' : World} {x : Step20} {A2 A3 A4 : Option Addr} {c2 c3 c4 : Nat} (h : StepAt w x A2 c2 A3 c3 A4 c4) (hb : Below w.heap.size w w') : StepAt w' x A2 c2 A3 c3 A4 c4 :=
  ⟨h.l2, Kd.C_below h.r2 hb, h.l3, Kd.C_below h.r3 hb, h.l4, Kd.C_below h.r4 hb⟩

/-! ### keys -/
def keysF (x : Step20) : List ByteArray := (if x.f5 then (x.f2.take 8).map (fun r => keyN r.f0) else []) ++ (x.f4.take 5).map (shortT 30)
theorem keysF_len (x : Step20) : (keysF x).length ≤ 13 := by
  unfold keysF
  rw [List.length_append, List.length_map, List.length_take]
  have h : (if x.f5 then (x.f2.take 8).map (fun r => keyN r.f0) else []).length ≤ 8 := by
    split
    · rw [List.length_map, List.length_take]; omega
    · simp
  omega
theorem keysF_size (x : Step20) : ∀ s ∈ keysF x, s.size ≤ 30 := by
  intro s hs
  unfold keysF at hs
  rcases List.mem_append.1 hs with h | h
  · split at h
    · obtain ⟨r, _, rfl⟩ := List.mem_map.1 h
      exact Nat.le_trans (nameAt_size _) (by omega)
    · cases h
  · obtain ⟨t, _, rfl⟩ := List.mem_map.1 h
    exact shortT_size 30 t

set_option maxHeartbeats 4000000 in
set_option maxRecDepth 100000 in
theorem stepKeys_any (x : Step20) (A2 : Option Addr) (c2 : Nat) (A3 : Option Addr) (c3 : Nat) (A4 : Option Addr) (c4 : Nat) (w : World) (hN : Names w) (h : StepAt w x A2 c2 A3 c3 A4 c4) :
    Calls Tryd.prog 21 #[.agg (stepV x A2 c2 A3 c3 A4 c4)] w fun e w' => ∃ v, e = .returned v ∧ Kd.R Kd.string 9 w' w.heap.size (fun _ => True) v (keysF x) ∧ Below w.heap.size w w' := by
  unfold stepV
  have hml := h.r2.2.1
  have H := Aside0.mk h
  have HN := Aside0.mk hN
  clear h hN
  obtain ⟨N, hNN⟩ : ∃ N : Nat, Aside0 (N = if x.f5 then min 8 x.f2.length else 0) := ⟨_, ⟨rfl⟩⟩
  have HBX0 : Aside0 ((w.alloc (.cells #[.int .i64 x.f0, .int .u32 x.f1, .slice A2 x.f2.length c2, .slice A3 x.f3.length c3, .slice A4 x.f4.length c4, .bool x.f5] 35)).heap[w.heap.size]? = some (.cells #[.int .i64 x.f0, .int .u32 x.f1, .slice A2 x.f2.length c2, .slice A3 x.f3.length c3, .slice A4 x.f4.length c4, .bool x.f5] 35 (0, 0))) := ⟨heap_alloc_new _ _⟩
  go_enter Tryd.func21, Tryd.ntmps21
  go_wp2_with fail
  go_loopg [3, 4] N (fun kq v3 v4 w' => ∃ (i : Nat), v4 = .int .i64 i ∧ Aside0 (i + kq = N) ∧ Aside0 (w'.heap[w.heap.size]? = some (.cells #[.int .i64 x.f0, .int .u32 x.f1, .slice A2 x.f2.length c2, .slice A3 x.f3.length c3, .slice A4 x.f4.length c4, .bool x.f5] 35 (0, 0))) ∧ Aside0 (Kd.R Kd.string 9 w' w.heap.size (fun _ => True) v3 ((x.f2.take i).map fun r => keyN r.f0)) ∧ Aside0 (Below w.heap.size w w'))
  case atStart => exact ⟨0, rfl, ⟨by simp⟩, HBX0, ⟨by simpa using Kd.R_nil _ _ _ _ _⟩, ⟨below_alloc (Below.refl _ _) _⟩⟩
  case round =>
    obtain ⟨i, rfl, HK, HBX, HO, HB⟩ := hrel
    obtain ⟨b0, b1, b2, b3, b4, b5⟩ := box_cell6 HBX.out
    have hlw : w.heap.size < wr.heap.size := (Array.getElem?_eq_some_iff.1 HBX.out).1
    by_cases q : i < N
    · have hall : x.f5 = true ∧ i < x.f2.length ∧ i < 8 := by
        have h1 := hNN.out
        rw [h1] at q
        cases hf : x.f5
        · rw [hf] at q; simp at q
        · rw [hf] at q; simp at q; exact ⟨rfl, by omega, by omega⟩
      obtain ⟨hf5, q2, q8⟩ := hall
      have q2' : (i : Int) < (x.f2.length : Int) := by omega
      have q8' : (i : Int) < 8 := by omega
      have p1 : (0 : Int) ≤ (i : Int) := by omega
      have HF5 := Aside0.mk hf5
      rw [hf5] at b5
      obtain ⟨g1, rfl⟩ : ∃ g1, gk = g1 + 1 := ⟨gk - 1, by have := HK.out; omega⟩
      obtain ⟨ad, e, d0, d1, d2⟩ := atRaw (Kd.C_below H.out.r2 HB.out) (i : Int) p1 q2'
      cases e
      rw [Int.toNat_natCast] at d0 d1 d2
      have HX : Aside0 (rdRaw x.f2 (i : Int) = x.f2[i]) := ⟨by rw [rdRaw_get (by simpa using q2)]; simp⟩
      generalize rdRaw x.f2 (i : Int) = y at *
      have HNm : Aside0 (Names wr) := ⟨HN.out.below HB.out HN.out.lt⟩
      have HMl : Aside0 (((x.f2.take i).map fun r => keyN r.f0).length ≤ 1000000000) := ⟨by rw [List.length_map, List.length_take]; omega⟩
      clear hf5 d1 d2
      go_wp2_with fail
      refine (handKey_any y.f0 wr HNm.out).mono ?_
      rintro e w2 ⟨rfl, hb⟩
      have HO2 : Aside0 (Kd.R Kd.string 9 w2 w.heap.size (fun _ => True) u3 ((x.f2.take i).map fun r => keyN r.f0)) := ⟨Kd.R_below HO.out hb⟩
      have HB2 : Aside0 (Below w.heap.size w w2) := ⟨below_then HB.out HB.out.size hb⟩
      have HBX2 := Aside0.mk (wblk HBX.out hb)
      have HOWN : Aside0 (∀ k, u3.ownBlock = some k → k ≠ w.heap.size) := ⟨fun k hk e => by
        subst e
        obtain ⟨cells, hc⟩ := Kd.R_typed HO2.out _ hk
        rw [HBX2.out] at hc
        injection hc with hc
        injection hc with _ hc
        exact absurd hc (by decide)⟩
      clear hb b0 b1 b2 b3 b4 b5 HBX HO HB d0
      go_wp2_with (at_builtin; refine appStr (w0 := w) w.heap.size rfl (.tmp 20) (.tmp 28) w2.heap.size rfl u3 ((x.f2.take i).map fun r => keyN r.f0) (keyN y.f0) rfl rfl rfl ?aO ?aB ?aS ?aL ?_; (case aO => exact HO2.out); (case aB => exact HB2.out); (case aS => exact HB2.out.size); (case aL => exact HMl.out); intro v1 w3 ho hb hg hat; have HO3 := Aside0.mk ho; have HB3 := Aside0.mk hb; have HG3 := Aside0.mk hg; clear ho hb hg hat)
      go_roundg g1
      case measure => omega
      case rel =>
        refine ⟨i + 1, by first | go_num | rw [wsucc i (by omega)], ⟨by have := HK.out; omega⟩, ⟨?_⟩, ⟨?_⟩, HB3⟩
        · exact (HG3.out.block _ (Array.getElem?_eq_some_iff.1 HBX2.out).1 (fun e => HOWN.out _ e.symm rfl)).trans HBX2.out
        · rw [List.take_succ_eq_append_getElem q2, List.map_append, List.map_cons, List.map_nil, ← HX.out]
          exact HO3.out
    · have hi : i = N := by have := HK.out; omega
      have HE : Aside0 (((x.f2.take i).map fun r => keyN r.f0) = (if x.f5 then (x.f2.take 8).map (fun r => keyN r.f0) else [])) := ⟨by
        rw [hi, hNN.out]
        cases x.f5
        · simp
        · show ((x.f2.take (if true = true then min 8 x.f2.length else 0)).map fun r => keyN r.f0) = if true = true then (x.f2.take 8).map (fun r => keyN r.f0) else []
          rw [if_pos rfl, if_pos rfl, ← List.take_take, List.take_length]⟩
      rw [HE.out] at HO
      have hsplit : x.f5 = false ∨ (x.f5 = true ∧ ¬ i < x.f2.length) ∨ (x.f5 = true ∧ i < x.f2.length ∧ ¬ i < 8) := by
        have h1 := hNN.out
        cases hf : x.f5
        · exact .inl rfl
        · rw [hf] at h1; simp at h1; rw [← hi] at h1
          by_cases h2 : i < x.f2.length
          · exact .inr (.inr ⟨rfl, h2, by omega⟩)
          · exact .inr (.inl ⟨rfl, h2⟩)
      have HH4 : Aside0 (Kd.C Kd.string wr A4 x.f4.length x.f4) := ⟨Kd.C_below H.out.r4 HB.out⟩
      have HL8 : Aside0 ((if x.f5 then (x.f2.take 8).map (fun r => keyN r.f0) else []).length ≤ 8) := ⟨by
        split
        · rw [List.length_map, List.length_take]; omega
        · simp⟩
      clear hi q
      obtain ⟨K0, hK0⟩ : ∃ K0, Aside0 ((if x.f5 then (x.f2.take 8).map (fun r => keyN r.f0) else []) = K0) := ⟨_, ⟨rfl⟩⟩
      rw [hK0.out] at HO HL8
      have HKF : Aside0 (K0 ++ (x.f4.take 5).map (shortT 30) = keysF x) := ⟨by unfold keysF; rw [← hK0.out]⟩
      have hsplit2 : (¬ (i : Int) < (x.f2.length : Int)) ∨ ((i : Int) < (x.f2.length : Int) ∧ ¬ (i : Int) < 8) ∨ ((i : Int) < (x.f2.length : Int) ∧ (i : Int) < 8 ∧ x.f5 = false) := by
        rcases hsplit with h | ⟨h, h1⟩ | ⟨h, h1, h2⟩
        · by_cases h3 : (i : Int) < (x.f2.length : Int)
          · by_cases h4 : (i : Int) < 8
            · exact .inr (.inr ⟨h3, h4, h⟩)
            · exact .inr (.inl ⟨h3, h4⟩)
          · exact .inl h3
        · exact .inl (by omega)
        · exact .inr (.inl ⟨by omega, by omega⟩)
      clear hsplit HE HK hNN hK0
      rcases hsplit2 with q1 | ⟨q1, q2⟩ | ⟨q1, q2, q3⟩
      case' inr.inr => rw [q3] at b5; clear q3
      all_goals
        go_wp2_with fail
        refine (textsB_any A4 c4 x.f4 5 30 wr HH4.out H.out.l4 (by omega) (by omega) (by omega)).mono ?_
        rintro e w2 ⟨v, rfl, hR, hb⟩
        obtain ⟨A5, c5, n5, rfl, HN5⟩ : ∃ A c n, v = .slice A n c ∧ Aside0 (n = ((x.f4.take (5 : Int).toNat).map (shortT 30)).length) := by
          obtain ⟨A, c, e⟩ := Kd.R_slice hR
          exact ⟨A, c, _, e, ⟨rfl⟩⟩
        have HC5 : Aside0 (Kd.C Kd.string w2 A5 n5 ((x.f4.take 5).map (shortT 30)) ∧ n5 ≤ 5) := ⟨by
          obtain ⟨A', c', e, _, h⟩ := Kd.R_reads hR
          cases e
          exact h, by rw [HN5.out, List.length_map, List.length_take]; exact Nat.min_le_left _ _⟩
        have HO2 : Aside0 (Kd.R Kd.string 9 w2 w.heap.size (fun _ => True) u3 K0) := ⟨Kd.R_below HO.out hb⟩
        have HB2 : Aside0 (Below w.heap.size w w2) := ⟨below_then HB.out HB.out.size hb⟩
        clear hR hb b0 b1 b2 b3 b4 b5 HO HB
        go_wp2_with (at_builtin; refine Kd.R_append_rows Kd.string (w0 := w) w.heap.size rfl (.tmp 30) (.tmp 33) 33 9 (.string ⟨#[]⟩) 16 rfl Tryd.underlying33 infoOfStr rfl (by decide) (by decide) u3 K0 ((x.f4.take 5).map (shortT 30)) A5 n5 c5 (fun _ => True) (fun _ => False) rfl rfl HO2.out HC5.out.1 (fun _ _ h => h) (fun _ h => h.elim) (fun _ _ => trivial) HB2.out HB2.out.size (by have := HC5.out.2; have := HL8.out; omega) ?_; intro v1 w3 ho hb hg hat; have HO3 := Aside0.mk ho; have HB3 := Aside0.mk hb; clear ho hb hg hat)
        go_ret
        rw [HKF.out] at HO3
        exact ⟨_, rfl, HO3.out, HB3.out⟩

/-! ### writes -/
def IsStepWrites (x : Step20) (ws : List Write) : Prop := if x.f5 then IsWrites x.f2 6 ws else ws = (x.f3.take 12).map shortW
theorem IsStepWrites.unique {x : Step20} {a b : List Write} (ha : IsStepWrites x a) (hb : IsStepWrites x b) : a = b := by
  unfold IsStepWrites at ha hb
  cases h : x.f5
  · rw [h] at ha hb
    exact ha.trans hb.symm
  · rw [h] at ha hb
    exact IsWrites.unique ha hb
theorem IsStepWrites.len {x : Step20} {a : List Write} (ha : IsStepWrites x a) : a.length ≤ 12 := by
  unfold IsStepWrites at ha
  cases h : x.f5
  · rw [h] at ha
    have e : a = (x.f3.take 12).map shortW := ha
    rw [e, List.length_map, List.length_take]
    omega
  · rw [h] at ha
    exact IsWrites.len ha
theorem IsStepWrites.small {x : Step20} {a : List Write} (ha : IsStepWrites x a) : ∀ y ∈ a, y.f0.size ≤ 60 := by
  intro y hy
  unfold IsStepWrites at ha
  cases h : x.f5
  · rw [h] at ha
    have e : a = (x.f3.take 12).map shortW := ha
    rw [e] at hy
    obtain ⟨z, _, rfl⟩ := List.mem_map.1 hy
    exact shortT_size 60 z.f0
  · rw [h] at ha
    exact Nat.le_trans (name_size (IsWrites.keys ha y hy)) (by omega)

set_option maxHeartbeats 4000000 in
set_option maxRecDepth 100000 in
theorem stepWrites_any (x : Step20) (A2 : Option Addr) (c2 : Nat) (A3 : Option Addr) (c3 : Nat) (A4 : Option Addr) (c4 : Nat) (w : World) (hN : Names w) (h : StepAt w x A2 c2 A3 c3 A4 c4) (hs : ∀ r ∈ x.f2, r.f2.size ≤ 4611686018427387904) :
    Calls Tryd.prog 26 #[.agg (stepV x A2 c2 A3 c3 A4 c4)] w fun e w' => ∃ v ws, e = .returned v ∧ Kd.R kWrite 44 w' w.heap.size (fun _ => True) v ws ∧ IsStepWrites x ws ∧ Below w.heap.size w w' := by
  unfold stepV
  have H := Aside0.mk (h.below (below_alloc (Below.refl _ _) (.cells #[.int .i64 x.f0, .int .u32 x.f1, .slice A2 x.f2.length c2, .slice A3 x.f3.length c3, .slice A4 x.f4.length c4, .bool x.f5] 35)))
  have HN := Aside0.mk (hN.alloc (.cells #[.int .i64 x.f0, .int .u32 x.f1, .slice A2 x.f2.length c2, .slice A3 x.f3.length c3, .slice A4 x.f4.length c4, .bool x.f5] 35))
  have HL3 := Aside0.mk hs
  have HBA : Aside0 (Below w.heap.size w (w.alloc (.cells #[.int .i64 x.f0, .int .u32 x.f1, .slice A2 x.f2.length c2, .slice A3 x.f3.length c3, .slice A4 x.f4.length c4, .bool x.f5] 35))) := ⟨below_alloc (Below.refl _ _) _⟩
  have HF : Aside0 (∀ ws, IsStepWrites x ws ↔ if x.f5 then IsWrites x.f2 6 ws else ws = (x.f3.take 12).map shortW) := ⟨fun ws => Iff.rfl⟩
  clear h hN hs
  cases hf : x.f5
  · rw [hf] at H HN HBA HF
    have HF2 := Aside0.mk hf
    clear hf
    go_enter Tryd.func26, Tryd.ntmps26
    go_wp2_with fail
    refine (writesB_any A3 c3 x.f3 12 _ H.out.r3 H.out.l3 (by omega) (by omega)).mono ?_
    rintro e w2 ⟨v, rfl, hR, hb⟩
    have HE : Aside0 (Kd.R kWrite 44 w2 w.heap.size (fun _ => True) v ((x.f3.take 12).map shortW) ∧ Below w.heap.size w w2) := ⟨Kd.R_lower hR HBA.out.size, below_then HBA.out HBA.out.size hb⟩
    clear hR hb
    go_wp2_with fail
    go_ret
    exact ⟨v, (x.f3.take 12).map shortW, rfl, HE.out.1, (HF.out _).2 (by simp), HE.out.2⟩
  · rw [hf] at H HN HBA HF
    have HF2 := Aside0.mk hf
    clear hf
    go_enter Tryd.func26, Tryd.ntmps26
    go_wp2_with fail
    refine (handWrites_any A2 c2 x.f2 6 (by omega) _ HN.out H.out.r2 HL3.out).mono ?_
    rintro e w2 ⟨v, ws, rfl, hR, hW, hb⟩
    have HE : Aside0 (Kd.R kWrite 44 w2 w.heap.size (fun _ => True) v ws ∧ IsWrites x.f2 6 ws ∧ Below w.heap.size w w2) := ⟨Kd.R_lower hR HBA.out.size, hW, below_then HBA.out HBA.out.size hb⟩
    clear hR hb hW
    go_wp2_with fail
    go_ret
    exact ⟨v, ws, rfl, HE.out.1, (HF.out _).2 (by simpa using HE.out.2.1), HE.out.2.2⟩
end Go.Proofs.YtmionoghpjpbaaaDoor
