/-
  The law AtomApart: it returns true.
-/
import Derived.Test.YtmionoghpjpbaaaDoorStep20
import Derived.Test.YtmionoghpjpbaaaDoorAlive20
import Derived.Deep.RegionHeld3
import Derived.Deep.DrawnRows
namespace Go.Proofs.YtmionoghpjpbaaaDoor
open Go.RowKit Go.Proofs.YtmionoghpjpbaaaDoorW.PrintWords Go.Proofs.YtmionoghpjpbaaaDoorW.PrintLast Go.Proofs.YtmionoghpjpbaaaDoorW.PrintMore
open Go.Proofs.YtmionoghpjpbaaaDoorM
set_option linter.unusedVariables false
set_option linter.unusedSimpArgs false
attribute [local go_sem ↓] Go.wp_at_zero Go.wp_at_succ

/-! ### cachepothand.Keys -/
theorem at_i64 {w : World} {A : Option Addr} {n : Nat} {xs : List Int} (h : Kd.C (Kd.int .i64) w A n xs) (i : Int) (h0 : 0 ≤ i) (h1 : i < n) : ∃ ad, A = some ad ∧ w.cell? (ad.add i.toNat) = some (.int .i64 (rdOf 0 xs i)) := by
  obtain ⟨ad, c, e, _, hK, hc⟩ := Kd.C_get h 0 i h0 h1
  have e1 : c = [.int .i64 (xs.getD i.toNat 0)] := hK
  subst e1
  refine ⟨ad, e, ?_⟩
  have := hc 0 _ rfl
  simpa [Kd.int, Kd.scalar, rdOf] using this

def someKeys (l : List Int) (most : Nat) : List ByteArray := (l.take most).map keyN
theorem someKeys_small (l : List Int) (most : Nat) : ∀ s ∈ someKeys l most, s.size ≤ 4 := fun s hs => by
  obtain ⟨r, _, rfl⟩ := List.mem_map.1 hs
  exact nameAt_size _

set_option maxHeartbeats 2000000 in
set_option maxRecDepth 100000 in
theorem handKeys_any (A : Option Addr) (c : Nat) (l : List Int) (most : Nat) (hm : most ≤ 100) (w : World) (hN : Names w) (hC : Kd.C (Kd.int .i64) w A l.length l) :
    Calls Tryd.prog 33 #[.slice A l.length c, .int .i64 most] w fun e w' => ∃ v, e = .returned v ∧ Kd.R Kd.string 9 w' w.heap.size (fun _ => True) v (someKeys l most) ∧ Below w.heap.size w w' := by
  have HC := Aside0.mk hC
  have HN := Aside0.mk hN
  have HMo := Aside0.mk hm
  clear hC hN hm
  go_enter Tryd.func33, Tryd.ntmps33
  go_wp2
  go_loopg [5, 6] (min most l.length) (fun kq v5 v6 w' => ∃ (i : Nat), v6 = .int .i64 i ∧ Aside0 (i + kq = min most l.length) ∧ Aside0 (Kd.R Kd.string 9 w' w.heap.size (fun _ => True) v5 ((l.take i).map keyN)) ∧ Aside0 (Below w.heap.size w w'))
  case atStart => exact ⟨0, rfl, ⟨by omega⟩, ⟨by simpa using Kd.R_nil _ _ _ _ _⟩, ⟨Below.refl _ _⟩⟩
  case round =>
    obtain ⟨i, rfl, HK, HO, HB⟩ := hrel
    by_cases q : i < min most l.length
    · have q' : (i : Int) < (l.length : Int) := by omega
      have qm : (i : Int) < (most : Int) := by omega
      have p1 : (0 : Int) ≤ (i : Int) := by omega
      have ql : i < l.length := by omega
      obtain ⟨g1, rfl⟩ : ∃ g1, gk = g1 + 1 := ⟨gk - 1, by have := HK.out; omega⟩
      obtain ⟨ad, e, d0⟩ := at_i64 (Kd.C_below HC.out HB.out) (i : Int) p1 q'
      cases e
      rw [Int.toNat_natCast] at d0
      have HX : Aside0 (rdOf 0 l (i : Int) = l[i]) := ⟨by simp [rdOf, List.getD_eq_getElem?_getD, List.getElem?_eq_getElem ql]⟩
      generalize rdOf 0 l (i : Int) = y at *
      have HNm : Aside0 (Names wr) := ⟨HN.out.below HB.out HN.out.lt⟩
      have HMl : Aside0 (((l.take i).map keyN).length ≤ 1000000000) := ⟨by rw [List.length_map, List.length_take]; have := HMo.out; omega⟩
      go_wp2_with fail
      refine (handKey_any y wr HNm.out).mono ?_
      rintro e w2 ⟨rfl, hb⟩
      have HO2 : Aside0 (Kd.R Kd.string 9 w2 w.heap.size (fun _ => True) u5 ((l.take i).map keyN)) := ⟨Kd.R_below HO.out hb⟩
      have HB2 : Aside0 (Below w.heap.size w w2) := ⟨below_then HB.out HB.out.size hb⟩
      clear hb HO HB d0
      go_wp2_with (at_builtin; refine appStr (w0 := w) w.heap.size rfl (.tmp 18) (.tmp 24) w2.heap.size rfl u5 ((l.take i).map keyN) (keyN y) rfl rfl rfl ?aO ?aB ?aS ?aL ?_; (case aO => exact HO2.out); (case aB => exact HB2.out); (case aS => exact HB2.out.size); (case aL => exact HMl.out); intro v1 w3 ho hb hg hat; have HO3 := Aside0.mk ho; have HB3 := Aside0.mk hb; clear ho hb hg hat)
      go_roundg g1
      case measure => omega
      case rel =>
        refine ⟨i + 1, by first | go_num | rw [wsucc i (by have := HMo.out; omega)], ⟨by have := HK.out; omega⟩, ⟨?_⟩, HB3⟩
        rw [List.take_succ_eq_append_getElem ql, List.map_append, List.map_cons, List.map_nil, ← HX.out]
        exact HO3.out
    · have hi : i = min most l.length := by have := HK.out; omega
      have HE : Aside0 ((l.take i).map keyN = someKeys l most) := ⟨by unfold someKeys; rw [hi, ← List.take_take, List.take_length]⟩
      rw [HE.out] at HO
      have hsplit : ¬ (i : Int) < (l.length : Int) ∨ ((i : Int) < (l.length : Int) ∧ ¬ (i : Int) < (most : Int)) := by omega
      clear hi q HE
      rcases hsplit with q1 | ⟨q1, q2⟩
      all_goals
        go_wp2
        go_ret
        exact ⟨_, rfl, HO.out, HB.out⟩

/-! ### AtomApart -/
theorem puts_has {seq : Int} {P : ByteArray → Prop} : ∀ (ws : List Write) (s : (ByteArray → Option Answer) × Nat), (∀ k, (s.1 k).isSome = true → P k) → (∀ x ∈ ws, P x.f0) → ∀ k, ((puts seq s ws).1 k).isSome = true → P k
  | [], s, h, _ => h
  | x :: ws, s, h, hx => puts_has ws (put1 seq s x) (fun k hk => by
      by_cases e : k = x.f0
      · rw [e]; exact hx x (by simp)
      · unfold put1 at hk
        split at hk
        · simp only [del, if_neg e] at hk; exact h k hk
        · simp only [put, if_neg e] at hk; exact h k hk) fun y hy => hx y (List.mem_cons_of_mem _ hy)
theorem puts_counts {seq : Int} : ∀ (ws : List Write) (s : (ByteArray → Option Answer) × Nat), Counts s.1 s.2 → Counts (puts seq s ws).1 (puts seq s ws).2
  | [], s, h => h
  | x :: ws, s, h => puts_counts ws (put1 seq s x) (by
      unfold put1
      split
      · exact h.delC _
      · exact h.putC _ _)
theorem stepCells {w : World} {x : Step20} {a b c d e f : Value} {p : Addr} (h : w.cell? p = some a ∧ w.cell? ⟨p.block, p.off + 1, none⟩ = some b ∧ w.cell? ⟨p.block, p.off + 2, none⟩ = some c ∧ w.cell? ⟨p.block, p.off + 3, none⟩ = some d ∧ w.cell? ⟨p.block, p.off + 4, none⟩ = some e ∧ w.cell? ⟨p.block, p.off + 5, none⟩ = some f) {W : World} (hb : Below w.heap.size w W) :
    W.cell? p = some a ∧ W.cell? ⟨p.block, p.off + 1, none⟩ = some b ∧ W.cell? ⟨p.block, p.off + 2, none⟩ = some c ∧ W.cell? ⟨p.block, p.off + 3, none⟩ = some d ∧ W.cell? ⟨p.block, p.off + 4, none⟩ = some e ∧ W.cell? ⟨p.block, p.off + 5, none⟩ = some f :=
  ⟨pw_cell_below hb h.1, pw_cell_below hb h.2.1, pw_cell_below hb h.2.2.1, pw_cell_below hb h.2.2.2.1, pw_cell_below hb h.2.2.2.2.1, pw_cell_below hb h.2.2.2.2.2⟩

set_option maxHeartbeats 8000000 in
set_option maxRecDepth 100000 in
theorem atomApart_any (A : Option Addr) (c : Nat) (l : List Step20) (A1 : Option Addr) (c1 : Nat) (l1 : List Int) (w : World) (hN : Names w) (hC : Kd.C kStep20 w A l.length l) (hs : ∀ x ∈ l, okStep20 x) (hC1 : Kd.C (Kd.int .i64) w A1 l1.length l1) :
    Calls Tryd.prog 4 #[.slice A l.length c, .slice A1 l1.length c1] w fun e w' => e = .returned (.bool true) ∧ Below w.heap.size w w' := by
  have HC := Aside0.mk hC
  have HC1 := Aside0.mk hC1
  have HN := Aside0.mk hN
  have HS := Aside0.mk hs
  have hml := hC.2.1
  clear hC hs hN hC1
  go_enter Tryd.func4, Tryd.ntmps4
  go_wp2_with fail
  refine (atomNew_any w).mono ?_
  rintro e w1 ⟨rfl, hw1⟩
  have HAa := Aside0.mk (atomNew_is w)
  rw [← hw1] at HAa
  have HB1 : Aside0 (Below w.heap.size w w1) := ⟨by rw [hw1]; exact ((Below.refl _ _).alloc (Nat.le_refl _) _).alloc (by simp) _⟩
  clear hw1
  go_wp2_with fail
  refine (atomNew_any w1).mono ?_
  rintro e w2 ⟨rfl, hw2⟩
  have HAb := Aside0.mk (atomNew_is w1)
  rw [← hw2] at HAb
  have HB2 : Aside0 (Below w1.heap.size w1 w2) := ⟨by rw [hw2]; exact ((Below.refl _ _).alloc (Nat.le_refl _) _).alloc (by simp) _⟩
  clear hw2
  go_wp2_with fail
  refine (atomNew_any w2).mono ?_
  rintro e w3 ⟨rfl, hw3⟩
  have HAc := Aside0.mk (atomNew_is w2)
  rw [← hw3] at HAc
  have HB3 : Aside0 (Below w2.heap.size w2 w3) := ⟨by rw [hw3]; exact ((Below.refl _ _).alloc (Nat.le_refl _) _).alloc (by simp) _⟩
  clear hw3
  have HLT : Aside0 (w.heap.size + 1 < w1.heap.size ∧ w1.heap.size + 1 < w2.heap.size ∧ w2.heap.size + 1 < w3.heap.size) := ⟨HAa.out.lt, HAb.out.lt, HAc.out.lt⟩
  go_wp2_with fail
  refine (alive20_any _).mono ?_
  rintro e w4 ⟨rfl, hb⟩
  have H34 : Aside0 (AtomIs w4 (w.heap.size + 1) w.heap.size 0 (fun _ => none) ∧ AtomIs w4 (w1.heap.size + 1) w1.heap.size 0 (fun _ => none) ∧ AtomIs w4 (w2.heap.size + 1) w2.heap.size 0 (fun _ => none)) := ⟨((HAa.out.below HB2.out).below HB3.out).below hb, (HAb.out.below HB3.out).below hb, HAc.out.below hb⟩
  have HB4 : Aside0 (Below w.heap.size w w4) := ⟨below_then (below_then (below_then HB1.out HB1.out.size HB2.out) (below_then HB1.out HB1.out.size HB2.out).size HB3.out) (below_then (below_then HB1.out HB1.out.size HB2.out) (below_then HB1.out HB1.out.size HB2.out).size HB3.out).size hb⟩
  clear hb HAa HAb HAc HB1 HB2 HB3
  go_wp2_with fail
  go_loopg [8] (min 20 l.length) (fun kq v8 w' => ∃ (i : Nat) (f : ByteArray → Option Answer) (n : Nat) (fc : ByteArray → Option Answer) (nc : Nat), v8 = .int .i64 i ∧ Aside0 (i + kq = min 20 l.length) ∧ Aside0 (AtomIs w' (w.heap.size + 1) w.heap.size n f ∧ AtomIs w' (w1.heap.size + 1) w1.heap.size n f ∧ AtomIs w' (w2.heap.size + 1) w2.heap.size nc fc) ∧ Aside0 (n ≤ 12 * i ∧ nc ≤ 12 * i ∧ (∀ k, (f k).isSome = true → k.size ≤ 1000000000) ∧ Counts f n) ∧ Aside0 (Below w.heap.size w w'))
  case atStart => exact ⟨0, fun _ => none, 0, fun _ => none, 0, rfl, ⟨by omega⟩, H34, ⟨by simp, by simp, fun k h => (by cases h), Counts.zero⟩, HB4⟩
  case round =>
    obtain ⟨i, f, n, fc, nc, rfl, HK, H3, HP, HB⟩ := hrel
    by_cases q : i < min 20 l.length
    · have q' : (i : Int) < (l.length : Int) := by omega
      have qm : (i : Int) < 20 := by omega
      have p1 : (0 : Int) ≤ (i : Int) := by omega
      obtain ⟨g1, rfl⟩ : ∃ g1, gk = g1 + 1 := ⟨gk - 1, by have := HK.out; omega⟩
      obtain ⟨ad, e, A2, c2, A3, c3, A4, c4, d0, d1, d2, d3, d4, d5, r2, r3, r4⟩ := atStep20 HC.out (i : Int) p1 q'
      cases e
      rw [Int.toNat_natCast] at d0 d1 d2 d3 d4 d5
      have hil : i < l.length := by omega
      have HX : Aside0 (rdStep20 l (i : Int) = l[i]) := ⟨by rw [rdStep20_get (by simpa using hil)]; simp⟩
      have HOK : Aside0 (okStep20 (rdStep20 l (i : Int))) := ⟨by rw [HX.out]; exact HS.out _ (List.getElem_mem hil)⟩
      generalize rdStep20 l (i : Int) = x at *
      have hx1 := (bounds_u32 HOK.out.2.1).1
      have HSW : Aside0 (∀ W, Below w.heap.size w W → StepAt W x A2 c2 A3 c3 A4 c4 ∧ Names W ∧ Kd.C (Kd.int .i64) W A1 l1.length l1) := ⟨fun W hb => ⟨(StepAt.mk r2.1 r2.2 r3.1 r3.2 r4.1 r4.2).below hb, HN.out.below hb HN.out.lt, Kd.C_below HC1.out hb⟩⟩
      have HRS : Aside0 (∀ r ∈ x.f2, r.f2.size ≤ 4611686018427387904) := ⟨fun r hr => Nat.le_trans (HOK.out.2.2.1 r hr) (by decide)⟩
      have HDW : Aside0 (∀ W, Below w.heap.size w W → W.cell? (ad.add (i * 6)) = some (.int .i64 x.f0) ∧ W.cell? ⟨(ad.add (i * 6)).block, (ad.add (i * 6)).off + 1, none⟩ = some (.int .u32 x.f1) ∧ W.cell? ⟨(ad.add (i * 6)).block, (ad.add (i * 6)).off + 2, none⟩ = some (.slice A2 x.f2.length c2) ∧ W.cell? ⟨(ad.add (i * 6)).block, (ad.add (i * 6)).off + 3, none⟩ = some (.slice A3 x.f3.length c3) ∧ W.cell? ⟨(ad.add (i * 6)).block, (ad.add (i * 6)).off + 4, none⟩ = some (.slice A4 x.f4.length c4) ∧ W.cell? ⟨(ad.add (i * 6)).block, (ad.add (i * 6)).off + 5, none⟩ = some (.bool x.f5)) := ⟨fun W hb => stepCells (x := x) ⟨d0, d1, d2, d3, d4, d5⟩ hb⟩
      clear r2 r3 r4 HX d0 d1 d2 d3 d4 d5
      obtain ⟨d0, d1, d2, d3, d4, d5⟩ := HDW.out _ HB.out
      have hcur : Below wr.heap.size wr wr.drew := below_drew (Below.refl _ _)
      go_wp2_with fail
      go_region_held3 (fun W => W.cell? (ad.add (i * 6)) = some (.int .i64 x.f0) ∧ W.cell? ⟨(ad.add (i * 6)).block, (ad.add (i * 6)).off + 1, none⟩ = some (.int .u32 x.f1) ∧ W.cell? ⟨(ad.add (i * 6)).block, (ad.add (i * 6)).off + 2, none⟩ = some (.slice A2 x.f2.length c2) ∧ W.cell? ⟨(ad.add (i * 6)).block, (ad.add (i * 6)).off + 3, none⟩ = some (.slice A3 x.f3.length c3) ∧ W.cell? ⟨(ad.add (i * 6)).block, (ad.add (i * 6)).off + 4, none⟩ = some (.slice A4 x.f4.length c4) ∧ W.cell? ⟨(ad.add (i * 6)).block, (ad.add (i * 6)).off + 5, none⟩ = some (.bool x.f5))
        (first | exact ⟨d0, d1, d2, d3, d4, d5⟩ | exact HDW.out _ (below_then HB.out HB.out.size hcur) | exact hkeep)
        (first | (go_at_call 26; refine (stepWrites_any x A2 c2 A3 c3 A4 c4 _ (HSW.out _ (below_then HB.out HB.out.size hcur)).2.1 (HSW.out _ (below_then HB.out HB.out.size hcur)).1 HRS.out).mono ?_; rintro e wk ⟨vk, ws, rfl, hRk, hWk, hbk⟩; obtain ⟨A8, c8, rfl, _, hC8⟩ := Kd.R_reads hRk; replace hcur := below_then hcur hcur.size hbk; clear hRk hbk) | (go_at_call 27; refine (atomCommit_any _ (w.heap.size + 1) w.heap.size n f x.f1 _ _ _ hC8 (H3.out.1.below hcur) ?mn ?ms).mono ?_; (case mn => have := HP.out.1; have := hWk.len; simp only [maxLen]; omega); (case ms => intro y hy; exact Nat.le_trans (hWk.small y hy) (by simp [maxLen])); rintro e wm ⟨rfl, ha, hg⟩; have hbm := (below_then HB.out HB.out.size hcur).grown hg (below_then HB.out HB.out.size hcur).size (fun k hk => by cases hk; exact Nat.le_refl _); have hkeep := HDW.out _ hbm))
      have HW := Aside0.mk hWk
      have H3m : Aside0 (AtomIs wm (w.heap.size + 1) w.heap.size (puts x.f1 (f, n) ws).2 (puts x.f1 (f, n) ws).1 ∧ AtomIs wm (w1.heap.size + 1) w1.heap.size n f ∧ AtomIs wm (w2.heap.size + 1) w2.heap.size nc fc) := ⟨ha, (H3.out.2.1.below hcur).kept hg (fun e => by injection e with e; have := HLT.out; omega) (fun e => by injection e with e; have := HLT.out; omega), (H3.out.2.2.below hcur).kept hg (fun e => by injection e with e; have := HLT.out; omega) (fun e => by injection e with e; have := HLT.out; omega)⟩
      have HBm := Aside0.mk hbm
      clear ha hg hcur hkeep hC8 hWk hbm d0 d1 d2 d3 d4 d5 H3 HB
      obtain ⟨d0, d1, d2, d3, d4, d5⟩ := HDW.out _ HBm.out
      have hcur : Below wm.heap.size wm wm.drew := below_drew (Below.refl _ _)
      go_wp2_with fail
      go_region_held3 (fun W => W.cell? (ad.add (i * 6)) = some (.int .i64 x.f0) ∧ W.cell? ⟨(ad.add (i * 6)).block, (ad.add (i * 6)).off + 1, none⟩ = some (.int .u32 x.f1) ∧ W.cell? ⟨(ad.add (i * 6)).block, (ad.add (i * 6)).off + 2, none⟩ = some (.slice A2 x.f2.length c2) ∧ W.cell? ⟨(ad.add (i * 6)).block, (ad.add (i * 6)).off + 3, none⟩ = some (.slice A3 x.f3.length c3) ∧ W.cell? ⟨(ad.add (i * 6)).block, (ad.add (i * 6)).off + 4, none⟩ = some (.slice A4 x.f4.length c4) ∧ W.cell? ⟨(ad.add (i * 6)).block, (ad.add (i * 6)).off + 5, none⟩ = some (.bool x.f5))
        (first | exact ⟨d0, d1, d2, d3, d4, d5⟩ | exact HDW.out _ (below_then HBm.out HBm.out.size hcur) | exact hkeep)
        (first | (go_at_call 32; refine (handWrites_any none 0 [] 1 (by omega) _ (HSW.out _ (below_then HBm.out HBm.out.size hcur)).2.1 ⟨rfl, by simp, fun h => absurd h (by simp)⟩ (by simp)).mono ?_; rintro e wk2 ⟨vk, ws1, rfl, hRk, hWk, hbk⟩; obtain ⟨A8, c8, rfl, _, hC8⟩ := Kd.R_reads hRk; replace hcur := below_then hcur hcur.size hbk; clear hRk hbk) | (go_at_call 27; refine (atomCommit_any _ (w2.heap.size + 1) w2.heap.size nc fc _ _ _ _ hC8 (H3m.out.2.2.below hcur) ?mn ?ms).mono ?_; (case mn => have := HP.out.2.1; have := hWk.len; simp only [maxLen]; omega); (case ms => intro y hy; exact Nat.le_trans (name_size (hWk.keys y hy)) (by simp [maxLen])); rintro e wm2 ⟨rfl, ha, hg⟩; have hbm := (below_then HBm.out HBm.out.size hcur).grown hg (below_then HBm.out HBm.out.size hcur).size (fun k hk => by cases hk; have := HLT.out; omega); have hkeep := HDW.out _ hbm))
      have hW1 := hWk.len
      have H32 : Aside0 (AtomIs wm2 (w.heap.size + 1) w.heap.size (puts x.f1 (f, n) ws).2 (puts x.f1 (f, n) ws).1 ∧ AtomIs wm2 (w1.heap.size + 1) w1.heap.size n f ∧ ∃ n2 f2, AtomIs wm2 (w2.heap.size + 1) w2.heap.size n2 f2 ∧ n2 ≤ nc + 12) := ⟨(H3m.out.1.below hcur).kept hg (fun e => by injection e with e; have := HLT.out; omega) (fun e => by injection e with e; have := HLT.out; omega), (H3m.out.2.1.below hcur).kept hg (fun e => by injection e with e; have := HLT.out; omega) (fun e => by injection e with e; have := HLT.out; omega), _, _, ha, Nat.le_trans (puts_le _ _ _) (by simp only; omega)⟩
      have HBm2 := Aside0.mk hbm
      obtain ⟨n2, f2, HC2⟩ : ∃ n2 f2, Aside0 (AtomIs wm2 (w2.heap.size + 1) w2.heap.size n2 f2 ∧ n2 ≤ nc + 12) := by
        obtain ⟨_, _, n2, f2, h⟩ := H32.out
        exact ⟨n2, f2, ⟨h⟩⟩
      clear ha hg hcur hkeep hC8 hWk hbm d0 d1 d2 d3 d4 d5 H3m HBm
      go_wp2_with fail
      refine (handKeys_any A1 c1 l1 5 (by omega) wm2 (HSW.out _ HBm2.out).2.1 (HSW.out _ HBm2.out).2.2).mono ?_
      rintro e wk3 ⟨v, rfl, hR, hb⟩
      obtain ⟨A9, c9, rfl, _, hC9⟩ := Kd.R_reads hR
      have HC9 := Aside0.mk hC9
      have HB9 := Aside0.mk hb
      clear hR hb hC9
      go_wp2_with fail
      refine (atomForget_any wk3 (w2.heap.size + 1) w2.heap.size n2 f2 A9 c9 (someKeys l1 5) HC9.out (HC2.out.1.below HB9.out) (fun s hs => Nat.le_trans (someKeys_small l1 5 s hs) (by simp [maxLen]))).mono ?_
      rintro e wm3 ⟨rfl, ha, hg⟩
      have H33 : Aside0 (AtomIs wm3 (w.heap.size + 1) w.heap.size (puts x.f1 (f, n) ws).2 (puts x.f1 (f, n) ws).1 ∧ AtomIs wm3 (w1.heap.size + 1) w1.heap.size n f ∧ ∃ n3 f3, AtomIs wm3 (w2.heap.size + 1) w2.heap.size n3 f3 ∧ n3 ≤ nc + 12) := ⟨(H32.out.1.below HB9.out).kept hg (fun e => by injection e with e; have := HLT.out; omega) (fun e => by injection e with e; have := HLT.out; omega), (H32.out.2.1.below HB9.out).kept hg (fun e => by injection e with e; have := HLT.out; omega) (fun e => by injection e with e; have := HLT.out; omega), _, _, ha, Nat.le_trans (drops_le _ _) HC2.out.2⟩
      have HBm3 : Aside0 (Below w.heap.size w wm3) := ⟨(below_then HBm2.out HBm2.out.size HB9.out).grown hg (below_then HBm2.out HBm2.out.size HB9.out).size (fun k hk => by cases hk; have := HLT.out; omega)⟩
      clear ha hg H32 HC2 HBm2 HB9 HC9
      obtain ⟨d0, d1, d2, d3, d4, d5⟩ := HDW.out _ HBm3.out
      have hcur : Below wm3.heap.size wm3 wm3.drew := below_drew (Below.refl _ _)
      go_wp2_with fail
      go_region_held3 (fun W => W.cell? (ad.add (i * 6)) = some (.int .i64 x.f0) ∧ W.cell? ⟨(ad.add (i * 6)).block, (ad.add (i * 6)).off + 1, none⟩ = some (.int .u32 x.f1) ∧ W.cell? ⟨(ad.add (i * 6)).block, (ad.add (i * 6)).off + 2, none⟩ = some (.slice A2 x.f2.length c2) ∧ W.cell? ⟨(ad.add (i * 6)).block, (ad.add (i * 6)).off + 3, none⟩ = some (.slice A3 x.f3.length c3) ∧ W.cell? ⟨(ad.add (i * 6)).block, (ad.add (i * 6)).off + 4, none⟩ = some (.slice A4 x.f4.length c4) ∧ W.cell? ⟨(ad.add (i * 6)).block, (ad.add (i * 6)).off + 5, none⟩ = some (.bool x.f5))
        (first | exact ⟨d0, d1, d2, d3, d4, d5⟩ | exact HDW.out _ (below_then HBm3.out HBm3.out.size hcur) | exact hkeep)
        (first | (go_at_call 26; refine (stepWrites_any x A2 c2 A3 c3 A4 c4 _ (HSW.out _ (below_then HBm3.out HBm3.out.size hcur)).2.1 (HSW.out _ (below_then HBm3.out HBm3.out.size hcur)).1 HRS.out).mono ?_; rintro e wk4 ⟨vk, ws4, rfl, hRk, hWk, hbk⟩; obtain rfl := hWk.unique HW.out; obtain ⟨A8, c8, rfl, _, hC8⟩ := Kd.R_reads hRk; replace hcur := below_then hcur hcur.size hbk; clear hRk hbk) | (go_at_call 27; refine (atomCommit_any _ (w1.heap.size + 1) w1.heap.size n f x.f1 _ _ _ hC8 (H33.out.2.1.below hcur) ?mn ?ms).mono ?_; (case mn => have := HP.out.1; have := hWk.len; simp only [maxLen]; omega); (case ms => intro y hy; exact Nat.le_trans (hWk.small y hy) (by simp [maxLen])); rintro e wm4 ⟨rfl, ha, hg⟩; have hbm := (below_then HBm3.out HBm3.out.size hcur).grown hg (below_then HBm3.out HBm3.out.size hcur).size (fun k hk => by cases hk; have := HLT.out; omega); have hkeep := HDW.out _ hbm))
      have HF : Aside0 (AtomIs wm4 (w.heap.size + 1) w.heap.size (puts x.f1 (f, n) ws4).2 (puts x.f1 (f, n) ws4).1 ∧ AtomIs wm4 (w1.heap.size + 1) w1.heap.size (puts x.f1 (f, n) ws4).2 (puts x.f1 (f, n) ws4).1 ∧ (∃ n3 f3, AtomIs wm4 (w2.heap.size + 1) w2.heap.size n3 f3 ∧ n3 ≤ nc + 12) ∧ Below w.heap.size w wm4) := ⟨(H33.out.1.below hcur).kept hg (fun e => by injection e with e; have := HLT.out; omega) (fun e => by injection e with e; have := HLT.out; omega), ha, by
        obtain ⟨n3, f3, h1, h2⟩ := H33.out.2.2
        exact ⟨n3, f3, (h1.below hcur).kept hg (fun e => by injection e with e; have := HLT.out; omega) (fun e => by injection e with e; have := HLT.out; omega), h2⟩, hbm⟩
      have HWl : Aside0 (ws4.length ≤ 12 ∧ ∀ y ∈ ws4, y.f0.size ≤ 60) := ⟨hWk.len, hWk.small⟩
      clear ha hg hcur hkeep hC8 hWk hbm d0 d1 d2 d3 d4 d5 H33
      go_wp2
      go_roundg g1
      case measure => omega
      case rel =>
        obtain ⟨h1, h2, ⟨n3, f3, h3, h4⟩, h5⟩ := HF.out
        refine ⟨i + 1, _, _, f3, n3, by go_num, ⟨by have := HK.out; omega⟩, ⟨h1, h2, h3⟩, ⟨?_, ?_, ?_, puts_counts ws4 (f, n) HP.out.2.2.2⟩, ⟨h5⟩⟩
        · have := puts_le x.f1 (f, n) ws4
          have := HP.out.1
          have := HWl.out.1
          simp only at *
          omega
        · have := HP.out.2.1
          omega
        · exact puts_has ws4 (f, n) HP.out.2.2.1 fun y hy => Nat.le_trans (HWl.out.2 y hy) (by omega)
    · have hsplit : ¬ (i : Int) < (l.length : Int) ∨ ((i : Int) < (l.length : Int) ∧ ¬ (i : Int) < 20) := by omega
      have HN9 : Aside0 (n ≤ 1000000) := ⟨by have := HP.out.1; have := HK.out; omega⟩
      clear q
      rcases hsplit with q1 | ⟨q1, q2⟩
      all_goals
        go_wp2_with fail
        refine (atomKeys_any wr (w.heap.size + 1) w.heap.size n f H3.out.1 (by have := HN9.out; omega) HP.out.2.2.1).mono ?_
        rintro e w5 ⟨v, out, rfl, hR, hri, hm, hb⟩
        have HO := Aside0.mk (And.intro hri hm)
        obtain ⟨A5, c5, rfl, hc5, hC5⟩ := Kd.R_reads hR
        have HC5 := Aside0.mk (And.intro hC5 hc5)
        have HA5 : Aside0 (AtomIs w5 (w.heap.size + 1) w.heap.size n f ∧ AtomIs w5 (w1.heap.size + 1) w1.heap.size n f) := ⟨H3.out.1.below hb, H3.out.2.1.below hb⟩
        have HB5 : Aside0 (Below w.heap.size w w5) := ⟨below_then HB.out HB.out.size hb⟩
        clear hR hri hm hb hC5 hc5
        go_wp2_with fail
        refine (atomKeys_any w5 (w1.heap.size + 1) w1.heap.size n f HA5.out.2 (by have := HN9.out; omega) HP.out.2.2.1).mono ?_
        rintro e w6 ⟨v, out2, rfl, hR, hri, hm, hb⟩
        obtain rfl := Rises.unique HO.out.1 hri fun s => (HO.out.2 s).trans (show s ∈ out2 ↔ ∃ c, f s = some c ∧ True by simpa using hm s).symm
        obtain ⟨A6, c6, rfl, hc6, hC6⟩ := Kd.R_reads hR
        have HC6 := Aside0.mk (And.intro hC6 hc6)
        have HC56 := Aside0.mk (Kd.C_below HC5.out.1 hb)
        have HA6 : Aside0 (AtomIs w6 (w.heap.size + 1) w.heap.size n f ∧ AtomIs w6 (w1.heap.size + 1) w1.heap.size n f) := ⟨HA5.out.1.below hb, HA5.out.2.below hb⟩
        have HB6 : Aside0 (Below w.heap.size w w6) := ⟨below_then HB5.out HB5.out.size hb⟩
        have HOS : Aside0 (∀ s ∈ out, s.size ≤ 1000000000) := ⟨fun s hs => by
          obtain ⟨c, h1, _⟩ := (HO.out.2 s).1 hs
          exact HP.out.2.2.1 s (by rw [h1]; rfl)⟩
        have HOL : Aside0 (out.length ≤ 1000000) := ⟨by
          have := HP.out.2.2.2.eq out HO.out.1.nodup (fun k => (HO.out.2 k).trans (by rw [Option.isSome_iff_exists]; simp))
          have := HN9.out
          omega⟩
        clear hR hri hm hb hC6 hc6 HA5 HB5
        go_wp2_with fail
        refine (sameTexts_any A5 A6 c5 c6 out w6 HC56.out HC5.out.2 HC6.out.1 HC6.out.2 (by have := HOL.out; omega)).mono ?_
        rintro e w7 ⟨rfl, hb⟩
        have HC57 := Aside0.mk (Kd.C_below HC56.out hb)
        have HA7 : Aside0 (AtomIs w7 (w.heap.size + 1) w.heap.size n f ∧ AtomIs w7 (w1.heap.size + 1) w1.heap.size n f) := ⟨HA6.out.1.below hb, HA6.out.2.below hb⟩
        have HB7 : Aside0 (Below w.heap.size w w7) := ⟨below_then HB6.out HB6.out.size hb⟩
        clear hb HA6 HB6 HC56
        obtain ⟨KG, hKG⟩ : ∃ KG, Aside0 (out.map (getF f) = KG ∧ KG.length ≤ 1000000000) := ⟨_, ⟨rfl, by rw [List.length_map]; have := HOL.out; omega⟩⟩
        go_wp2_with fail
        refine (atomGet_any w7 (w.heap.size + 1) w.heap.size n f A5 c5 out HC57.out HA7.out.1 (fun s hs => Nat.le_trans (HOS.out s hs) (by simp [maxLen])) (by have := HOL.out; omega)).mono ?_
        rintro e w8 ⟨v, rfl, hR, hb⟩
        rw [hKG.out.1] at hR
        obtain ⟨A8, c8, rfl, hc8, hC8⟩ := Kd.R_reads hR
        have HC8 := Aside0.mk (And.intro hC8 hc8)
        have HC58 := Aside0.mk (Kd.C_below HC57.out hb)
        have HA8 : Aside0 (AtomIs w8 (w1.heap.size + 1) w1.heap.size n f) := ⟨HA7.out.2.below hb⟩
        have HB8 : Aside0 (Below w.heap.size w w8) := ⟨below_then HB7.out HB7.out.size hb⟩
        clear hR hb hC8 hc8 HA7 HB7 HC57
        go_wp2_with fail
        refine (atomGet_any w8 (w1.heap.size + 1) w1.heap.size n f A5 c5 out HC58.out HA8.out (fun s hs => Nat.le_trans (HOS.out s hs) (by simp [maxLen])) (by have := HOL.out; omega)).mono ?_
        rintro e w9 ⟨v, rfl, hR, hb⟩
        rw [hKG.out.1] at hR
        obtain ⟨A9, c9, rfl, hc9, hC9⟩ := Kd.R_reads hR
        have HC9 := Aside0.mk (And.intro hC9 hc9)
        have HC89 := Aside0.mk (Kd.C_below HC8.out.1 hb)
        have HC59 := Aside0.mk (Kd.C_below HC58.out hb)
        have HB9 : Aside0 (Below w.heap.size w w9) := ⟨below_then HB8.out HB8.out.size hb⟩
        clear hR hb hC9 hc9 HA8 HB8 HC58
        go_wp2_with fail
        refine (sameAnswers_any A8 A9 c8 c9 KG w9 HC89.out HC8.out.2 HC9.out.1 HC9.out.2 hKG.out.2).mono ?_
        rintro e w10 ⟨rfl, hb⟩
        have HC510 := Aside0.mk (Kd.C_below HC59.out hb)
        have HB10 : Aside0 (Below w.heap.size w w10) := ⟨below_then HB9.out HB9.out.size hb⟩
        clear hb HC59 HB9 HC89
        go_wp2_with fail
        refine (keysSorted_any A5 c5 out w10 HC510.out HOL.out HOS.out).mono ?_
        rintro e w11 ⟨v, out3, rfl, hR, hri, hm, hb⟩
        obtain rfl := Rises.unique HO.out.1 hri fun s => (hm s).symm
        obtain ⟨A11, c11, rfl, hc11, hC11⟩ := Kd.R_reads hR
        have HC11 := Aside0.mk (And.intro hC11 hc11)
        have HC511 := Aside0.mk (Kd.C_below HC510.out hb)
        have HB11 : Aside0 (Below w.heap.size w w11) := ⟨below_then HB10.out HB10.out.size hb⟩
        clear hR hri hm hb hC11 hc11 HB10 HC510
        go_wp2_with fail
        refine (sameTexts_any A11 A5 c11 c5 out w11 HC11.out.1 HC11.out.2 HC511.out HC5.out.2 (by have := HOL.out; omega)).mono ?_
        rintro e w12 ⟨rfl, hb⟩
        have HB12 : Aside0 (Below w.heap.size w w12) := ⟨below_then HB11.out HB11.out.size hb⟩
        clear hb
        go_wp2
        go_ret
        exact ⟨rfl, HB12.out⟩
end Go.Proofs.YtmionoghpjpbaaaDoor
