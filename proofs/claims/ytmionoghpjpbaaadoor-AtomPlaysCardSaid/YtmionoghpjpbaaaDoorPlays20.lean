/-
  The law AtomPlays: it returns true.
-/
import Derived.Test.YtmionoghpjpbaaaDoorStep20
import Derived.Test.YtmionoghpjpbaaaDoorRefCommit
import Derived.Test.YtmionoghpjpbaaaDoorAlive20
import Derived.Deep.CutBlock
import Derived.Deep.DeepCutAuto
namespace Go.Proofs.YtmionoghpjpbaaaDoor
open Go.RowKit Go.Proofs.YtmionoghpjpbaaaDoorW.PrintWords Go.Proofs.YtmionoghpjpbaaaDoorW.PrintLast Go.Proofs.YtmionoghpjpbaaaDoorW.PrintMore
open Go.Proofs.YtmionoghpjpbaaaDoorM
set_option linter.unusedVariables false
set_option linter.unusedSimpArgs false
attribute [local go_sem ↓] Go.wp_at_zero Go.wp_at_succ

abbrev keyA : Answer → ByteArray := Pr.S101.f0
/-- The two maps say the same. -/
structure Both (f : ByteArray → Option Answer) (n : Nat) (L : List Answer) (i : Nat) : Prop where
  lists : Lists keyA f L
  n_le : n ≤ 12 * i
  l_le : L.length ≤ 12 * i
  small : ∀ a ∈ L, a.f0.size ≤ 1000000000
theorem Both.key {f : ByteArray → Option Answer} {n : Nat} {L : List Answer} {i : Nat} (h : Both f n L i) (s : ByteArray) (hs : (f s).isSome = true) : s.size ≤ 1000000000 := by
  obtain ⟨c, hc⟩ := Option.isSome_iff_exists.1 hs
  obtain ⟨h1, h2⟩ := (h.lists.get s c).1 hc
  rw [← h2]
  exact h.small c h1
theorem Both.forget {f : ByteArray → Option Answer} {n : Nat} {L : List Answer} {i : Nat} (h : Both f n L i) (ks : List ByteArray) : Both (drops (f, n) ks).1 (drops (f, n) ks).2 (lessL L ks) (i + 1) :=
  ⟨lists_forget ks f n L h.lists, by have := drops_le (f, n) ks; have := h.n_le; simp only at *; omega, by have := lessL_le ks L; have := h.l_le; omega, fun a ha => h.small a (lessL_mem ks L a ha)⟩
theorem Both.more {f : ByteArray → Option Answer} {n : Nat} {L : List Answer} {i : Nat} (h : Both f n L i) : Both f n L (i + 1) := ⟨h.lists, by have := h.n_le; omega, by have := h.l_le; omega, h.small⟩

theorem grown_far {w w1 w2 : World} {r1 r2 : Option Nat} (h : w.grownBy w1 r1) (k : w1.grownBy w2 r2) (hr : ∀ b, r2 = some b → w.heap.size ≤ b) : w.grownBy w2 r1 :=
  ⟨k.os.trans h.os, k.tape.trans h.tape, k.output.trans h.output, Nat.le_trans h.size k.size, fun b hb hne => (k.block b (Nat.lt_of_lt_of_le hb h.size) (fun e => by have := hr b e.symm; omega)).trans (h.block b hb hne)⟩
theorem R_away {α : Type} {d : Kd α} {e base n c : Nat} {ok : Nat → Prop} {w : World} {A : Option Addr} {xs : List α} (h : d.R e w base ok (.slice A n c) xs) : ∀ ad, A = some ad → base ≤ ad.block := by
  rintro ad rfl
  exact ((Kd.R_bound h).1 ad.block (by simp [Value.ownBlock])).2.1
theorem R_block {e base n c : Nat} {ok : Nat → Prop} {w : World} {A : Option Addr} {xs : List Write} (h : Kd.R kWrite e w base ok (.slice A n c) xs) (hn : 0 < xs.length) : ∃ B cap, (.slice A n c : Value) = .slice (some ⟨B, 0, none⟩) xs.length cap ∧ (∃ cs, w.heap[B]? = some (.cells cs e (0, 0))) ∧ base ≤ B := by
  obtain ⟨B, cap, e1, _⟩ := Kd.R_form h hn
  rw [e1] at h
  exact ⟨B, cap, e1, Kd.R_typed h B (by simp [Value.ownBlock]), R_away h ⟨B, 0, none⟩ rfl⟩
theorem R_third {e base n c B : Nat} {ok : Nat → Prop} {w : World} {xs : List Write} (h : Kd.R kWrite e w base ok (.slice (some ⟨B, 0, none⟩) n c) xs) (k : Nat) (hk : k < xs.length) : ∃ u, w.cell? ⟨B, k * 3 + 2, none⟩ = some u := by
  obtain ⟨hn, _, _⟩ := Kd.R_reads' h
  obtain ⟨c, hc, hM, hcc, _⟩ := Kd.R_elem h zWrite (k : Int) (by omega) (by omega)
  have e1 := kWrite_openM hM
  subst e1
  refine ⟨.string (xs.getD (k : Int).toNat zWrite).f2, ?_⟩
  have : w.cell? ⟨B, (k : Int).toNat * 3 + 2, none⟩ = _ := hcc 2 _ rfl
  simpa using this
theorem getF_of {f : ByteArray → Option Answer} {L : List Answer} (h : Lists keyA f L) (a : Answer) (ha : a ∈ L) : (getF f ∘ keyA) a = id a := by
  have h1 := (h.get (keyA a) a).2 ⟨ha, rfl⟩
  show getF f (keyA a) = a
  unfold getF
  rw [h1]
  rfl
theorem filter_all {α : Type} (l : List α) : l.filter (fun _ => true) = l := by simp
theorem stepBox {W : World} {B : Nat} {x : Step20} {A2 A3 A4 : Option Addr} {c2 c3 c4 : Nat} (h : W.heap[B]? = some (.cells (stepV x A2 c2 A3 c3 A4 c4) 35 (0, 0))) :
    W.cell? ⟨B, 0, none⟩ = some (.int .i64 x.f0) ∧ W.cell? ⟨B, 1, none⟩ = some (.int .u32 x.f1) ∧ W.cell? ⟨B, 2, none⟩ = some (.slice A2 x.f2.length c2) ∧ W.cell? ⟨B, 3, none⟩ = some (.slice A3 x.f3.length c3) ∧ W.cell? ⟨B, 4, none⟩ = some (.slice A4 x.f4.length c4) ∧ W.cell? ⟨B, 5, none⟩ = some (.bool x.f5) := box_cell6 h


set_option maxHeartbeats 8000000 in
set_option maxRecDepth 100000 in
theorem atomPlays_any (A : Option Addr) (c : Nat) (l : List Step20) (w : World) (hN : Names w) (hC : Kd.C kStep20 w A l.length l) (hs : ∀ x ∈ l, okStep20 x) :
    Calls Tryd.prog 3 #[.slice A l.length c] w fun e w' => e = .returned (.bool true) ∧ Below w.heap.size w w' := by
  have HC := Aside0.mk hC
  have HN := Aside0.mk hN
  have HS := Aside0.mk hs
  have hml := hC.2.1
  clear hC hs hN
  go_enter Tryd.func3, Tryd.ntmps3
  go_wp2_with fail
  refine (atomNew_any w).mono ?_
  rintro e w1 ⟨rfl, hw1⟩
  have HA := Aside0.mk (atomNew_is w)
  rw [← hw1] at HA
  have HB1 : Aside0 (Below w.heap.size w w1) := ⟨by rw [hw1]; exact ((Below.refl _ _).alloc (Nat.le_refl _) _).alloc (by simp) _⟩
  clear hw1
  go_wp2_with fail
  refine (alive20_any _).mono ?_
  rintro e w2 ⟨rfl, hb⟩
  have HA2 : Aside0 (AtomIs w2 (w.heap.size + 1) w.heap.size 0 (fun _ => none)) := ⟨HA.out.below hb⟩
  have HB2 : Aside0 (Below w.heap.size w w2) := ⟨below_then HB1.out HB1.out.size hb⟩
  have HR2 := Aside0.mk (refNew_is w2)
  have HGR : Aside0 (w.heap.size + 1 < w2.heap.size) := ⟨HA2.out.lt⟩
  clear hb HA HB1
  go_wp2_with fail
  go_loopg [5] (min 40 l.length) (fun kq v5 w' => ∃ (i : Nat) (f : ByteArray → Option Answer) (n : Nat) (L : List Answer), v5 = .int .i64 i ∧ Aside0 (i + kq = min 40 l.length) ∧ Aside0 (AtomIs w' (w.heap.size + 1) w.heap.size n f ∧ RefMIs w' w2.heap.size L) ∧ Aside0 (Both f n L i) ∧ Aside0 (Below w.heap.size w w'))
  case atStart => exact ⟨0, fun _ => none, 0, [], rfl, ⟨by omega⟩, ⟨HA2.out.alloc _, HR2.out⟩, ⟨Lists.nil _, by simp, by simp, by simp⟩, ⟨below_alloc HB2.out _⟩⟩
  case round =>
    obtain ⟨i, f, n, L, rfl, HK, HAR, HBo, HB⟩ := hrel
    by_cases q : i < min 40 l.length
    · have q' : (i : Int) < (l.length : Int) := by omega
      have qm : (i : Int) < 40 := by omega
      have p1 : (0 : Int) ≤ (i : Int) := by omega
      obtain ⟨g1, rfl⟩ : ∃ g1, gk = g1 + 1 := ⟨gk - 1, by have := HK.out; omega⟩
      obtain ⟨wq, rfl⟩ : ∃ wq : World, wq = wr := ⟨_, rfl⟩
      obtain ⟨ad, e, A2, c2, A3, c3, A4, c4, d0, d1, d2, d3, d4, d5, r2, r3, r4⟩ := atStep20 HC.out (i : Int) p1 q'
      cases e
      rw [Int.toNat_natCast] at d0 d1 d2 d3 d4 d5
      have hil : i < l.length := by omega
      have HX : Aside0 (rdStep20 l (i : Int) = l[i]) := ⟨by rw [rdStep20_get (by simpa using hil)]; simp⟩
      have HOK : Aside0 (okStep20 (rdStep20 l (i : Int))) := ⟨by rw [HX.out]; exact HS.out _ (List.getElem_mem hil)⟩
      generalize rdStep20 l (i : Int) = x at *
      have HSW : Aside0 (∀ W, Below w.heap.size w W → StepAt W x A2 c2 A3 c3 A4 c4 ∧ Names W) := ⟨fun W hb => ⟨(StepAt.mk r2.1 r2.2 r3.1 r3.2 r4.1 r4.2).below hb, HN.out.below hb HN.out.lt⟩⟩
      have HRS : Aside0 (∀ r ∈ x.f2, r.f2.size ≤ 4611686018427387904) := ⟨fun r hr => Nat.le_trans (HOK.out.2.2.1 r hr) (by decide)⟩
      replace d0 := pw_cell_below HB.out d0
      replace d1 := pw_cell_below HB.out d1
      replace d2 := pw_cell_below HB.out d2
      replace d3 := pw_cell_below HB.out d3
      replace d4 := pw_cell_below HB.out d4
      replace d5 := pw_cell_below HB.out d5
      clear r2 r3 r4 HX
      obtain ⟨p, hp0, hp8, hpick⟩ : ∃ p : Int, 0 ≤ p ∧ p < 8 ∧ Aside0 (Pr.cachepotbook_Pick.f x.f0 8 = some p) := by
        obtain ⟨p, h1, h2, h3⟩ := pickB x.f0 8 (by omega) (by omega)
        exact ⟨p, h1, h2, ⟨h3⟩⟩
      go_wp2_with fail
      refine (Pr.cachepotbook_Pick.calls x.f0 8 p _ hpick.out).mono ?_
      rintro e w3 ⟨rfl, hd⟩
      have hb := hd.below
      have HBX : Aside0 (w3.heap[wq.heap.size]? = some (.cells (stepV x A2 c2 A3 c3 A4 c4) 35 (0, 0))) := ⟨wblk (heap_alloc_new _ _) hb⟩
      have HB3 : Aside0 (Below wq.heap.size wq w3) := ⟨below_then (below_alloc (Below.refl _ _) _) (below_size (below_alloc (Below.refl _ _) _)) hb⟩
      have HA3 : Aside0 (AtomIs w3 (w.heap.size + 1) w.heap.size n f ∧ RefMIs w3 w2.heap.size L) := ⟨HAR.out.1.below HB3.out, HAR.out.2.below HB3.out⟩
      have HBW : Aside0 (Below w.heap.size w w3) := ⟨below_then HB.out HB.out.size HB3.out⟩
      have HLT : Aside0 (w2.heap.size < wq.heap.size ∧ wq.heap.size < w3.heap.size) := ⟨HAR.out.2.lt, (Array.getElem?_eq_some_iff.1 HBX.out).1⟩
      obtain ⟨b0, b1, b2, b3, b4, b5⟩ := stepBox HBX.out
      clear hd hb d0 d1 d2 d3 d4 d5 HAR HB3
      go_upto_block 2 with fail
      go_cut [7, 8] (fun v7 v8 wx => ∃ (f' : ByteArray → Option Answer) (n' : Nat) (L' : List Answer), Aside0 (AtomIs wx (w.heap.size + 1) w.heap.size n' f' ∧ RefMIs wx w2.heap.size L') ∧ Aside0 (Both f' n' L' (i + 1)) ∧ Aside0 (Below w.heap.size w wx))
      case first =>
        have hsp : p = 5 ∨ (p = 6 ∨ p = 7) ∨ (¬ p = 5 ∧ ¬ p = 6 ∧ ¬ p = 7) := by omega
        rcases hsp with h5 | h67 | ⟨h5, h6, h7⟩
        · subst h5
          go_wp2_with fail
          refine (stepKeys_any x A2 c2 A3 c3 A4 c4 w3 (HSW.out _ HBW.out).2 (HSW.out _ HBW.out).1).mono ?_
          rintro e w4 ⟨v, rfl, hR, hb⟩
          obtain ⟨A5, c5, rfl, _, hC5⟩ := Kd.R_reads hR
          have HC5 := Aside0.mk hC5
          have HB4 : Aside0 (Below w3.heap.size w3 w4) := ⟨hb⟩
          have HA4 : Aside0 (AtomIs w4 (w.heap.size + 1) w.heap.size n f ∧ RefMIs w4 w2.heap.size L) := ⟨HA3.out.1.below hb, HA3.out.2.below hb⟩
          clear hR hb hC5 b0 b1 b2 b3 b4 b5
          go_wp2_with fail
          refine (atomForget_any w4 (w.heap.size + 1) w.heap.size n f A5 c5 (keysF x) HC5.out HA4.out.1 (fun s hs => Nat.le_trans (keysF_size x s hs) (by simp [maxLen]))).mono ?_
          rintro e w5 ⟨rfl, ha, hg⟩
          have HA5 : Aside0 (AtomIs w5 (w.heap.size + 1) w.heap.size (drops (f, n) (keysF x)).2 (drops (f, n) (keysF x)).1 ∧ RefMIs w5 w2.heap.size L) := ⟨ha, HA4.out.2.map HA4.out.1.2 hg⟩
          have HB5 : Aside0 (Below w.heap.size w w5) := ⟨(below_then HBW.out HBW.out.size HB4.out).grown hg (below_then HBW.out HBW.out.size HB4.out).size (fun k hk => by cases hk; exact Nat.le_refl _)⟩
          have HX5 : Aside0 (w5.heap[wq.heap.size]? = some (.cells (stepV x A2 c2 A3 c3 A4 c4) 35 (0, 0))) := ⟨(hg.block _ (Nat.lt_of_lt_of_le HLT.out.2 HB4.out.size) (fun e => by injection e with e; have := HLT.out.1; have := HGR.out; omega)).trans (wblk HBX.out HB4.out)⟩
          obtain ⟨b0, b1, b2, b3, b4, b5⟩ := stepBox HX5.out
          clear ha hg
          go_wp2_with fail
          refine (stepKeys_any x A2 c2 A3 c3 A4 c4 w5 (HSW.out _ HB5.out).2 (HSW.out _ HB5.out).1).mono ?_
          rintro e w6 ⟨v, rfl, hR, hb⟩
          have HR6 := Aside0.mk hR
          obtain ⟨A6, c6, rfl, _, hC6⟩ := Kd.R_reads hR
          have HC6 := Aside0.mk hC6
          have HB6 : Aside0 (Below w.heap.size w w6) := ⟨below_then HB5.out HB5.out.size hb⟩
          have HA6 : Aside0 (AtomIs w6 (w.heap.size + 1) w.heap.size (drops (f, n) (keysF x)).2 (drops (f, n) (keysF x)).1 ∧ RefMIs w6 w2.heap.size L) := ⟨HA5.out.1.below hb, HA5.out.2.below hb⟩
          have HAW : Aside0 (∀ ad', A6 = some ad' → ad'.block ≠ w2.heap.size) := ⟨fun ad' e => by
            have h1 := R_away HR6.out ad' e
            have h2 := HA5.out.2.lt
            omega⟩
          clear hR hb hC6 b0 b1 b2 b3 b4 b5
          go_wp2_with fail
          refine (refForget_any w6 w2.heap.size L A6 c6 (keysF x) HC6.out HAW.out HA6.out.2 (by have := HBo.out.l_le; omega) (by have := keysF_len x; omega)).mono ?_
          rintro e w7 ⟨rfl, hr, hg⟩
          have HF : Aside0 (AtomIs w7 (w.heap.size + 1) w.heap.size (drops (f, n) (keysF x)).2 (drops (f, n) (keysF x)).1 ∧ RefMIs w7 w2.heap.size (lessL L (keysF x)) ∧ Below w.heap.size w w7) :=
            ⟨HA6.out.1.kept hg (fun e => by injection e with e; have := HGR.out; omega) (fun e => by injection e with e; have := HGR.out; omega), hr, HB6.out.grown hg HB6.out.size (fun k hk => by cases hk; have := HGR.out; omega)⟩
          clear hr hg
          go_wp2_with fail
          go_meet
          exact ⟨_, _, _, ⟨HF.out.1, HF.out.2.1⟩, ⟨HBo.out.forget (keysF x)⟩, ⟨HF.out.2.2⟩⟩
        · have hq5 : (p == 5) = false := by rw [beq_eq_false_iff_ne]; omega
          have HST3 : Aside0 (∀ W, Below w3.heap.size w3 W → StepAt W x A2 c2 A3 c3 A4 c4 ∧ Names W ∧ AtomIs W (w.heap.size + 1) w.heap.size n f ∧ RefMIs W w2.heap.size L) := ⟨fun W hb => ⟨(HSW.out _ (below_then HBW.out HBW.out.size hb)).1, (HSW.out _ (below_then HBW.out HBW.out.size hb)).2, HA3.out.1.below hb, HA3.out.2.below hb⟩⟩
          have HKP : Aside0 (∀ W, Below w3.heap.size w3 W → W.cell? ⟨wq.heap.size, 0, none⟩ = some (.int .i64 x.f0) ∧ W.cell? ⟨wq.heap.size, 1, none⟩ = some (.int .u32 x.f1) ∧ W.cell? ⟨wq.heap.size, 2, none⟩ = some (.slice A2 x.f2.length c2) ∧ W.cell? ⟨wq.heap.size, 3, none⟩ = some (.slice A3 x.f3.length c3) ∧ W.cell? ⟨wq.heap.size, 4, none⟩ = some (.slice A4 x.f4.length c4) ∧ W.cell? ⟨wq.heap.size, 5, none⟩ = some (.bool x.f5)) := ⟨fun W hb => stepBox (wblk HBX.out hb)⟩
          have HKS : Aside0 ((∀ s ∈ keysF x, s.size ≤ maxLen) ∧ (keysF x).length ≤ 1000000000) := ⟨fun s hs => Nat.le_trans (keysF_size x s hs) (by simp [maxLen]), by have := keysF_len x; omega⟩
          have HKL : Aside0 (L.length ≤ 1000000 ∧ (keysF x).length ≤ 1000000) := ⟨by have := HBo.out.l_le; omega, by have := keysF_len x; omega⟩
          obtain ⟨KG, hKG⟩ : ∃ KG, Aside0 ((keysF x).map (getF f) = KG) := ⟨_, ⟨rfl⟩⟩
          have HEQ : Aside0 ((keysF x).map (refA L) = KG) := ⟨by rw [← hKG.out]; exact List.map_congr_left fun k _ => refA_getF HBo.out.lists k⟩
          have HKGl : Aside0 (KG.length ≤ 1000000000) := ⟨by rw [← hKG.out, List.length_map]; have := keysF_len x; omega⟩
          have hcur : Below w3.heap.size w3 w3.drew := below_drew (Below.refl _ _)
          have tok1 : True := trivial
          rcases h67 with rfl | rfl
          all_goals
            clear hq5 hp0 hp8
            go_wp2_with fail
            go_region_held3 (fun W => W.cell? ⟨wq.heap.size, 0, none⟩ = some (.int .i64 x.f0) ∧ W.cell? ⟨wq.heap.size, 1, none⟩ = some (.int .u32 x.f1) ∧ W.cell? ⟨wq.heap.size, 2, none⟩ = some (.slice A2 x.f2.length c2) ∧ W.cell? ⟨wq.heap.size, 3, none⟩ = some (.slice A3 x.f3.length c3) ∧ W.cell? ⟨wq.heap.size, 4, none⟩ = some (.slice A4 x.f4.length c4) ∧ W.cell? ⟨wq.heap.size, 5, none⟩ = some (.bool x.f5))
              (first | exact ⟨b0, b1, b2, b3, b4, b5⟩ | exact HKP.out _ hcur)
              (first | (go_at_call 21; have _t := tok1; refine (stepKeys_any x A2 c2 A3 c3 A4 c4 _ (HST3.out _ hcur).2.1 (HST3.out _ hcur).1).mono ?_; rintro e wk ⟨vk, rfl, hRk, hbk⟩; obtain ⟨Aa, ca, rfl, _, hCa⟩ := Kd.R_reads hRk; replace hcur := below_then hcur hcur.size hbk; clear tok1 _t hRk hbk) | (go_at_call 21; refine (stepKeys_any x A2 c2 A3 c3 A4 c4 _ (HST3.out _ hcur).2.1 (HST3.out _ hcur).1).mono ?_; rintro e wk2 ⟨vk, rfl, hRk, hbk⟩; obtain ⟨Ab, cb, rfl, _, hCb⟩ := Kd.R_reads hRk; (try replace hCa := Kd.C_below hCa hbk); (try replace hGm := Kd.C_below hGm hbk); (try replace hGr := Kd.C_below hGr hbk); replace hcur := below_then hcur hcur.size hbk; clear hRk hbk) | (go_at_call 24; refine (atomGet_any _ (w.heap.size + 1) w.heap.size n f _ _ (keysF x) ?gc (HST3.out _ hcur).2.2.1 HKS.out.1 HKS.out.2).mono ?_; (case gc => (first | exact hCa | exact hCb)); rintro e wg ⟨vg, rfl, hRg, hbg⟩; rw [hKG.out] at hRg; obtain ⟨Ag, cg, rfl, hcm, hGm⟩ := Kd.R_reads hRg; (try replace hCa := Kd.C_below hCa hbg); (try replace hCb := Kd.C_below hCb hbg); (try replace hGr := Kd.C_below hGr hbg); replace hcur := below_then hcur hcur.size hbg; clear hRg hbg) | (go_at_call 25; refine (refGet_any _ w2.heap.size L _ _ (keysF x) ?hc (HST3.out _ hcur).2.2.2 HKL.out.1 HKL.out.2).mono ?_; (case hc => (first | exact hCa | exact hCb)); rintro e wh ⟨vh, rfl, hRh, hbh⟩; rw [HEQ.out] at hRh; obtain ⟨Ah, ch, rfl, hcr, hGr⟩ := Kd.R_reads hRh; (try replace hCa := Kd.C_below hCa hbh); (try replace hCb := Kd.C_below hCb hbh); (try replace hGm := Kd.C_below hGm hbh); replace hcur := below_then hcur hcur.size hbh; clear hRh hbh) | (go_at_call 23; refine (sameAnswers_any _ _ _ _ KG _ hGm hcm hGr hcr HKGl.out).mono ?_; rintro e wz ⟨rfl, hbz⟩; replace hcur := below_then hcur hcur.size hbz; clear hbz))
            all_goals go_wp2_with fail
            all_goals
              go_meet
              exact ⟨f, n, L, ⟨(HST3.out _ hcur).2.2⟩, ⟨HBo.out.more⟩, ⟨below_then HBW.out HBW.out.size hcur⟩⟩
        · have hq5 : (p == 5) = false := by rw [beq_eq_false_iff_ne]; omega
          have hq6 : (p == 6) = false := by rw [beq_eq_false_iff_ne]; omega
          have hq7 : (p == 7) = false := by rw [beq_eq_false_iff_ne]; omega
          clear h5 h6 h7
          go_wp2_with fail
          refine (stepWrites_any x A2 c2 A3 c3 A4 c4 w3 (HSW.out _ HBW.out).2 (HSW.out _ HBW.out).1 HRS.out).mono ?_
          rintro e w4 ⟨v, ws, rfl, hR, hW, hb⟩
          have HR4 := Aside0.mk hR
          obtain ⟨A7, c7, rfl, _, hC7⟩ := Kd.R_reads hR
          have HC7 := Aside0.mk hC7
          have HW := Aside0.mk hW
          have HB4 := Aside0.mk hb
          obtain ⟨b0, b1, b2, b3, b4, b5⟩ := stepBox (wblk HBX.out hb)
          clear hR hW hb hC7
          go_wp2_with fail
          refine (atomCommit_any w4 (w.heap.size + 1) w.heap.size n f x.f1 A7 c7 ws HC7.out (HA3.out.1.below HB4.out) (by have := HBo.out.n_le; have := HW.out.len; simp only [maxLen]; omega) (fun y hy => Nat.le_trans (HW.out.small y hy) (by simp [maxLen]))).mono ?_
          rintro e w5 ⟨rfl, ha, hg⟩
          have HA5 := Aside0.mk ha
          have HG5 := Aside0.mk hg
          have HAW : Aside0 (∀ ad', A7 = some ad' → w3.heap.size ≤ ad'.block) := ⟨R_away HR4.out⟩
          have HR5 : Aside0 (Kd.R kWrite 44 w5 w3.heap.size (fun _ => True) (.slice A7 ws.length c7) ws) := ⟨Kd.R_mono (Kd.R_grown (Kd.R_bound HR4.out) hg (fun k hk e => by cases e; have := hk.2.1; have := HLT.out; have := HGR.out; omega)) (fun _ _ => trivial)⟩
          have HWL : Aside0 (ws.length ≤ 12) := ⟨HW.out.len⟩
          clear ha hg b0 b1 b2 b3 b4 b5 HC7
          go_upto_block 3 with fail
          go_cut [8] (fun v8 wx => Aside0 (w5.grownBy wx (A7.map (·.block))))
          case first =>
            go_wp2_with fail
            go_loopg [8] ws.length (fun kq v8 w' => ∃ k : Nat, v8 = .int .i64 k ∧ Aside0 (k + kq = ws.length) ∧ Aside0 (w5.grownBy w' (A7.map (·.block))) ∧ Aside0 (∀ B cs, A7 = some ⟨B, 0, none⟩ → w5.heap[B]? = some (.cells cs 44 (0, 0)) → ∃ cs', w'.heap[B]? = some (.cells cs' 44 (0, 0)) ∧ cs'.size = cs.size))
            case atStart => exact ⟨0, rfl, ⟨by simp⟩, ⟨World.grownBy.refl _ _⟩, ⟨fun B cs _ h => ⟨cs, h, rfl⟩⟩⟩
            case round =>
              obtain ⟨k, rfl, HK2, HGr, HCS⟩ := hrel
              by_cases qk : k < ws.length
              · have qk' : (k : Int) < (ws.length : Int) := by omega
                have pk : (0 : Int) ≤ (k : Int) := by omega
                obtain ⟨k1, rfl⟩ : ∃ k1, gk = k1 + 1 := ⟨gk - 1, by have := HK2.out; omega⟩
                obtain ⟨B7, cap7, e7, hblk, hge7⟩ := R_block HR5.out (by omega)
                obtain ⟨cs7, hblk7⟩ := hblk
                cases e7
                have hcc := R_third HR5.out k qk
                have hsz : k * 3 + 2 < cs7.size := by
                  obtain ⟨u, hu⟩ := hcc
                  rw [blk_cell hblk7] at hu
                  exact (Array.getElem?_eq_some_iff.1 hu).1
                obtain ⟨cs', hb', hs'⟩ := HCS.out B7 cs7 rfl hblk7
                have hcell : wr.cell? ⟨B7, k * 3 + 2, none⟩ = some (cs'[k * 3 + 2]'(by omega)) := by rw [blk_cell hb']; exact Array.getElem?_eq_getElem _
                have hfr : wr.frozen? ⟨B7, k * 3 + 2, none⟩ = false := blk_frozen hb' _
                have HB' := Aside0.mk (And.intro hb' (And.intro hs' hblk7))
                generalize cs'[k * 3 + 2]'(by omega) = u7 at hcell
                clear hb' hs' hblk7 hcc hsz hge7
                go_wp2
                go_roundg k1
                case measure => omega
                case rel =>
                  refine ⟨k + 1, by first | go_num | rw [wsucc k (by have := HWL.out; omega)], ⟨by have := HK2.out; omega⟩, ⟨HGr.out.trans (grown_set _ _ _)⟩, ⟨fun B cs e h => ?_⟩⟩
                  cases e
                  have h2 := HB'.out.2.2
                  rw [h] at h2
                  cases h2
                  exact ⟨_, blk_set HB'.out.1 _ _, by rw [Array.size_setIfInBounds]; exact HB'.out.2.1⟩
              · go_wp2_with fail
                go_meet
                exact HGr
          case rest =>
            have HGc := hcut
            have HG3 : Aside0 (w3.grownBy wc (some w.heap.size)) := ⟨grown_far (World.grownBy.trans (grown_of_below HB4.out _) HG5.out) HGc.out (fun k hk => by
              obtain ⟨ad', h1, h2⟩ := Option.map_eq_some_iff.1 hk
              rw [← h2]
              exact HAW.out ad' h1)⟩
            have HAc : Aside0 (AtomIs wc (w.heap.size + 1) w.heap.size (puts x.f1 (f, n) ws).2 (puts x.f1 (f, n) ws).1 ∧ RefMIs wc w2.heap.size L) := ⟨HA5.out.kept HGc.out (fun e => by
                obtain ⟨ad', h1, h2⟩ := Option.map_eq_some_iff.1 e.symm
                have := HAW.out ad' h1
                have := HLT.out
                have := HGR.out
                omega) (fun e => by
                obtain ⟨ad', h1, h2⟩ := Option.map_eq_some_iff.1 e.symm
                have := HAW.out ad' h1
                have := HLT.out
                have := HGR.out
                omega), HA3.out.2.map HA3.out.1.2 HG3.out⟩
            have HBc : Aside0 (Below w.heap.size w wc) := ⟨HBW.out.grown HG3.out HBW.out.size (fun k hk => by cases hk; exact Nat.le_refl _)⟩
            have HXc : Aside0 (wc.heap[wq.heap.size]? = some (.cells (stepV x A2 c2 A3 c3 A4 c4) 35 (0, 0))) := ⟨(HG3.out.block _ HLT.out.2 (fun e => by injection e with e; have := HLT.out; have := HGR.out; omega)).trans HBX.out⟩
            obtain ⟨b0, b1, b2, b3, b4, b5⟩ := stepBox HXc.out
            have HKP : Aside0 (∀ W, Below wc.heap.size wc W → W.cell? ⟨wq.heap.size, 0, none⟩ = some (.int .i64 x.f0) ∧ W.cell? ⟨wq.heap.size, 1, none⟩ = some (.int .u32 x.f1) ∧ W.cell? ⟨wq.heap.size, 2, none⟩ = some (.slice A2 x.f2.length c2) ∧ W.cell? ⟨wq.heap.size, 3, none⟩ = some (.slice A3 x.f3.length c3) ∧ W.cell? ⟨wq.heap.size, 4, none⟩ = some (.slice A4 x.f4.length c4) ∧ W.cell? ⟨wq.heap.size, 5, none⟩ = some (.bool x.f5)) := ⟨fun W hb => stepBox (wblk HXc.out hb)⟩
            have HST3 : Aside0 (∀ W, Below wc.heap.size wc W → StepAt W x A2 c2 A3 c3 A4 c4 ∧ Names W ∧ AtomIs W (w.heap.size + 1) w.heap.size (puts x.f1 (f, n) ws).2 (puts x.f1 (f, n) ws).1 ∧ RefMIs W w2.heap.size L) := ⟨fun W hb => ⟨(HSW.out _ (below_then HBc.out HBc.out.size hb)).1, (HSW.out _ (below_then HBc.out HBc.out.size hb)).2, HAc.out.1.below hb, HAc.out.2.below hb⟩⟩
            have HLL : Aside0 (L.length + ws.length ≤ 1000000) := ⟨by have := HBo.out.l_le; have := HWL.out; omega⟩
            have HWS : Aside0 (∀ y ∈ ws, y.f0.size ≤ 1000000000) := ⟨fun y hy => Nat.le_trans (HW.out.small y hy) (by omega)⟩
            have HGC : Aside0 (w2.heap.size < wc.heap.size) := ⟨HAc.out.2.lt⟩
            have hcur : Below wc.heap.size wc wc.drew := below_drew (Below.refl _ _)
            go_wp2_with fail
            go_region_held3 (fun W => W.cell? ⟨wq.heap.size, 0, none⟩ = some (.int .i64 x.f0) ∧ W.cell? ⟨wq.heap.size, 1, none⟩ = some (.int .u32 x.f1) ∧ W.cell? ⟨wq.heap.size, 2, none⟩ = some (.slice A2 x.f2.length c2) ∧ W.cell? ⟨wq.heap.size, 3, none⟩ = some (.slice A3 x.f3.length c3) ∧ W.cell? ⟨wq.heap.size, 4, none⟩ = some (.slice A4 x.f4.length c4) ∧ W.cell? ⟨wq.heap.size, 5, none⟩ = some (.bool x.f5))
              (first | exact ⟨b0, b1, b2, b3, b4, b5⟩ | exact HKP.out _ hcur | exact hkeep)
              (first | (go_at_call 26; refine (stepWrites_any x A2 c2 A3 c3 A4 c4 _ (HST3.out _ hcur).2.1 (HST3.out _ hcur).1 HRS.out).mono ?_; rintro e wk ⟨vk, ws2, rfl, hRk, hWk, hbk⟩; obtain rfl := hWk.unique HW.out; obtain ⟨A8, c8, rfl, _, hC8⟩ := Kd.R_reads hRk; have haw := R_away hRk; replace hcur := below_then hcur hcur.size hbk; clear hRk hbk hWk) | (go_at_call 28; refine (refCommit_any _ w2.heap.size L f n x.f1 _ _ _ hC8 (fun ad' e => by have h2 : wc.heap.size ≤ ad'.block := haw ad' e; have := HGC.out; omega) (HST3.out _ hcur).2.2.2 HBo.out.lists HLL.out HWS.out HBo.out.small).mono ?_; rintro e wm ⟨L2, rfl, hRm, hLm, hlm, hsm, hgm⟩; have hkeep := stepBox ((hgm.block _ (Nat.lt_of_lt_of_le (Array.getElem?_eq_some_iff.1 HXc.out).1 hcur.size) (fun e => by injection e with e; have := HLT.out; omega)).trans (wblk HXc.out hcur))))
            have HF : Aside0 (AtomIs wm (w.heap.size + 1) w.heap.size (puts x.f1 (f, n) ws2).2 (puts x.f1 (f, n) ws2).1 ∧ RefMIs wm w2.heap.size L2 ∧ Both (puts x.f1 (f, n) ws2).1 (puts x.f1 (f, n) ws2).2 L2 (i + 1) ∧ Below w.heap.size w wm) :=
              ⟨(HST3.out _ hcur).2.2.1.kept hgm (fun e => by injection e with e; have := HGR.out; omega) (fun e => by injection e with e; have := HGR.out; omega), hRm,
                ⟨hLm, by have := puts_le x.f1 (f, n) ws2; have := HBo.out.n_le; have := HWL.out; simp only at *; omega, by have := HBo.out.l_le; have := HWL.out; omega, hsm⟩,
                (below_then HBc.out HBc.out.size hcur).grown hgm (below_then HBc.out HBc.out.size hcur).size (fun k hk => by cases hk; have := HGR.out; omega)⟩
            clear hRm hLm hlm hsm hgm hkeep hcur
            go_wp2_with fail
            go_meet
            exact ⟨_, _, _, ⟨HF.out.1, HF.out.2.1⟩, ⟨HF.out.2.2.1⟩, ⟨HF.out.2.2.2⟩⟩
      case rest =>
        obtain ⟨f', n', L', HAc, HBc, HBw⟩ := hcut
        go_wp2_with fail
        refine (atomKeys_any wc (w.heap.size + 1) w.heap.size n' f' HAc.out.1 (by have := HBc.out.n_le; omega) HBc.out.key).mono ?_
        rintro e w4 ⟨v, out, rfl, hR, hri, hm, hb⟩
        have hout : out = L'.map keyA := by
          have := HBc.out.lists.keysL (p := fun _ => true) hri hm
          rw [filter_all] at this
          exact this
        have HOUT := Aside0.mk hout
        clear hout
        obtain ⟨A5, c5, rfl, hc5, hC5⟩ := Kd.R_reads hR
        have HC5 := Aside0.mk (And.intro hC5 hc5)
        have HA4 : Aside0 (AtomIs w4 (w.heap.size + 1) w.heap.size n' f' ∧ RefMIs w4 w2.heap.size L') := ⟨HAc.out.1.below hb, HAc.out.2.below hb⟩
        have HB4 : Aside0 (Below w.heap.size w w4) := ⟨below_then HBw.out HBw.out.size hb⟩
        have HLL : Aside0 (L'.length ≤ 1000000 ∧ out.length ≤ 1000000000) := ⟨by have := HBc.out.l_le; omega, by rw [HOUT.out, List.length_map]; have := HBc.out.l_le; omega⟩
        clear hR hri hm hb hC5 hc5 HAc HBw
        go_wp2_with fail
        refine (refKeys_any w4 w2.heap.size L' HA4.out.2 HLL.out.1).mono ?_
        rintro e w5 ⟨v, rfl, hR, hb⟩
        rw [show L'.map Pr.S101.f0 = out from HOUT.out.symm] at hR
        obtain ⟨A6, c6, rfl, hc6, hC6⟩ := Kd.R_reads hR
        have HC6 := Aside0.mk (And.intro hC6 hc6)
        have HC55 := Aside0.mk (Kd.C_below HC5.out.1 hb)
        have HA5 : Aside0 (AtomIs w5 (w.heap.size + 1) w.heap.size n' f' ∧ RefMIs w5 w2.heap.size L') := ⟨HA4.out.1.below hb, HA4.out.2.below hb⟩
        have HB5 : Aside0 (Below w.heap.size w w5) := ⟨below_then HB4.out HB4.out.size hb⟩
        clear hR hb hC6 hc6 HA4 HB4
        go_wp2_with fail
        refine (sameTexts_any A5 A6 c5 c6 out w5 HC55.out HC5.out.2 HC6.out.1 HC6.out.2 HLL.out.2).mono ?_
        rintro e w6 ⟨rfl, hb⟩
        have HF : Aside0 (AtomIs w6 (w.heap.size + 1) w.heap.size n' f' ∧ RefMIs w6 w2.heap.size L' ∧ Below w.heap.size w w6) := ⟨HA5.out.1.below hb, HA5.out.2.below hb, below_then HB5.out HB5.out.size hb⟩
        clear hb
        go_wp2
        go_roundg g1
        case measure => omega
        case rel => exact ⟨i + 1, f', n', L', by go_num, ⟨by have := HK.out; omega⟩, ⟨HF.out.1, HF.out.2.1⟩, HBc, ⟨HF.out.2.2⟩⟩
    · have hsplit : ¬ (i : Int) < (l.length : Int) ∨ ((i : Int) < (l.length : Int) ∧ ¬ (i : Int) < 40) := by omega
      clear q
      obtain ⟨A0, c0, hblk, hlc, hCL⟩ := HAR.out.2
      have hcell : wr.cell? ⟨w2.heap.size, 0, none⟩ = some (.slice A0 L.length c0) := by simp [World.cell?, hblk]
      have HCL : Aside0 (Kd.C kAnswer wr A0 L.length L ∧ L.length ≤ c0) := ⟨hCL, hlc⟩
      have HKP : Aside0 (∀ W, Below wr.heap.size wr W → W.cell? ⟨w2.heap.size, 0, none⟩ = some (.slice A0 L.length c0)) := ⟨fun W hb => pw_cell_below hb hcell⟩
      have HST : Aside0 (∀ W, Below wr.heap.size wr W → AtomIs W (w.heap.size + 1) w.heap.size n f ∧ RefMIs W w2.heap.size L ∧ Kd.C kAnswer W A0 L.length L) := ⟨fun W hb => ⟨HAR.out.1.below hb, HAR.out.2.below hb, Kd.C_below HCL.out.1 hb⟩⟩
      obtain ⟨K0, hK0⟩ : ∃ K0, Aside0 (L.map keyA = K0) := ⟨_, ⟨rfl⟩⟩
      have HEQ : Aside0 (K0.map (getF f) = L) := ⟨by
        rw [← hK0.out, List.map_map]
        exact (List.map_congr_left fun a ha => getF_of HBo.out.lists a ha).trans (List.map_id L)⟩
      have HLL : Aside0 (L.length ≤ 1000000) := ⟨by have := HBo.out.l_le; have := HK.out; omega⟩
      have HKS : Aside0 ((∀ s ∈ K0, s.size ≤ maxLen) ∧ K0.length ≤ 1000000000) := ⟨fun s hs => by
        rw [← hK0.out] at hs
        obtain ⟨a, ha, rfl⟩ := List.mem_map.1 hs
        exact Nat.le_trans (HBo.out.small a ha) (by simp [maxLen]), by rw [← hK0.out, List.length_map]; have := HLL.out; omega⟩
      have hgl : w2.heap.size < wr.heap.size := (Array.getElem?_eq_some_iff.1 hblk).1
      clear hblk hlc hCL
      have hcur : Below wr.heap.size wr wr.drew := below_drew (Below.refl _ _)
      rcases hsplit with q1 | ⟨q1, q2⟩
      all_goals
        go_wp2_with fail
        go_region_held3 (fun W => W.cell? ⟨w2.heap.size, 0, none⟩ = some (.slice A0 L.length c0))
          (first | exact hcell | exact HKP.out _ hcur)
          (first | (go_at_call 31; refine (refKeys_any _ w2.heap.size L (HST.out _ hcur).2.1 HLL.out).mono ?_; rintro e wk ⟨vk, rfl, hRk, hbk⟩; rw [show L.map Pr.S101.f0 = K0 from hK0.out] at hRk; obtain ⟨Ak, ck, rfl, _, hCk⟩ := Kd.R_reads hRk; replace hcur := below_then hcur hcur.size hbk; clear hRk hbk) | (go_at_call 24; refine (atomGet_any _ (w.heap.size + 1) w.heap.size n f _ _ K0 hCk (HST.out _ hcur).1 HKS.out.1 HKS.out.2).mono ?_; rintro e wg ⟨vg, rfl, hRg, hbg⟩; rw [HEQ.out] at hRg; obtain ⟨Ag, cg, rfl, hcm, hGm⟩ := Kd.R_reads hRg; replace hcur := below_then hcur hcur.size hbg; clear hRg hbg) | (go_at_call 23; refine (sameAnswers_any _ _ _ _ L _ hGm hcm (HST.out _ hcur).2.2 HCL.out.2 (by have := HLL.out; omega)).mono ?_; rintro e wz ⟨rfl, hbz⟩; replace hcur := below_then hcur hcur.size hbz; clear hbz))
        all_goals go_wp2_with fail
        all_goals
          go_ret
          exact ⟨rfl, below_then HB.out HB.out.size hcur⟩
end Go.Proofs.YtmionoghpjpbaaaDoor
