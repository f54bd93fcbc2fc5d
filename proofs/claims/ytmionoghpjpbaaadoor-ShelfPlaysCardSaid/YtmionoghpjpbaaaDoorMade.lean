/-
  cachepotlaw15.made: a shelf of batches.
-/
import Derived.Test.YtmionoghpjpbaaaDoorWrites
import Derived.Test.YtmionoghpjpbaaaDoorDrop
namespace Go.Proofs.YtmionoghpjpbaaaDoor
open Go.RowKit Go.Proofs.YtmionoghpjpbaaaDoorW.PrintWords Go.Proofs.YtmionoghpjpbaaaDoorW.PrintLast Go.Proofs.YtmionoghpjpbaaaDoorW.PrintMore
open Go.Proofs.YtmionoghpjpbaaaDoorM
set_option linter.unusedVariables false
set_option linter.unusedSimpArgs false

/-! ### plain -/
abbrev ShS := (ByteArray → Option Cell) × Nat
/-- The number is that of the keys. -/
def Counts {α : Type} (f : ByteArray → Option α) (n : Nat) : Prop := ∃ K : List ByteArray, K.Nodup ∧ K.length = n ∧ ∀ k, k ∈ K ↔ (f k).isSome = true
theorem Counts.zero {α : Type} : Counts (fun _ : ByteArray => (none : Option α)) 0 := ⟨[], List.nodup_nil, rfl, by simp⟩
theorem Counts.putC {α : Type} {f : ByteArray → Option α} {n : Nat} (h : Counts f n) (s : ByteArray) (a : α) : Counts (put f s a) (putN f s n) := by
  obtain ⟨K, h1, h2, h3⟩ := h
  unfold put putN
  by_cases hs : (f s).isSome = true
  · refine ⟨K, h1, by rw [if_pos hs]; exact h2, fun k => ?_⟩
    rw [h3 k]
    by_cases e : k = s
    · subst e; simp [hs]
    · simp [e]
  · refine ⟨s :: K, List.nodup_cons.2 ⟨fun hm => hs ((h3 s).1 hm), h1⟩, by rw [if_neg hs]; simp [h2], fun k => ?_⟩
    rw [List.mem_cons, h3 k]
    by_cases e : k = s
    · subst e; simp
    · simp [e]
theorem nodup_less {α : Type} [DecidableEq α] (K : List α) (h : K.Nodup) (s : α) (hs : s ∈ K) : ∃ K' : List α, K'.Nodup ∧ K'.length = K.length - 1 ∧ ∀ k, k ∈ K' ↔ k ∈ K ∧ k ≠ s :=
  ⟨K.erase s, h.erase s, List.length_erase_of_mem hs, fun k => by
    rw [List.Nodup.mem_erase_iff h]
    exact And.comm⟩
theorem Counts.delC {α : Type} {f : ByteArray → Option α} {n : Nat} (h : Counts f n) (s : ByteArray) : Counts (del f s) (delN f s n) := by
  obtain ⟨K, h1, h2, h3⟩ := h
  unfold del delN
  by_cases hs : (f s).isSome = true
  · obtain ⟨K', k1, k2, k3⟩ := nodup_less K h1 s ((h3 s).2 hs)
    refine ⟨K', k1, by rw [if_pos hs, k2, h2], fun k => ?_⟩
    rw [k3 k, h3 k]
    by_cases e : k = s
    · subst e; simp
    · simp [e]
  · refine ⟨K, h1, by rw [if_neg hs]; exact h2, fun k => ?_⟩
    rw [h3 k]
    by_cases e : k = s
    · subst e; simp [hs]
    · simp [e]
theorem Counts.le {α : Type} {f : ByteArray → Option α} {n : Nat} (h : Counts f n) (L : List ByteArray) (hl : ∀ k, (f k).isSome = true → k ∈ L) : n ≤ L.length := by
  obtain ⟨K, h1, h2, h3⟩ := h
  rw [← h2]
  exact nodup_le K L h1 fun k hk => hl k ((h3 k).1 hk)
theorem Counts.eq {α : Type} {f : ByteArray → Option α} {n : Nat} (h : Counts f n) (L : List ByteArray) (hn : L.Nodup) (hl : ∀ k, k ∈ L ↔ (f k).isSome = true) : n = L.length := by
  obtain ⟨K, h1, h2, h3⟩ := h
  have a := nodup_le K L h1 fun k hk => (hl k).2 ((h3 k).1 hk)
  have b := nodup_le L K hn fun k hk => (h3 k).2 ((hl k).1 hk)
  omega

theorem keyN_mem (n : Int) : keyN n ∈ nameL := by
  unfold keyN nameAt
  have := pickN_lt n
  rw [List.getD_eq_getElem?_getD, List.getElem?_eq_getElem (by simpa [nameL] using this)]
  exact List.getElem_mem _
theorem IsWrites.keys {l : List Raw} {m : Nat} {ws : List Write} (h : IsWrites l m ws) : ∀ x ∈ ws, x.f0 ∈ nameL := by
  intro x hx
  have h1 := (h.2.1 x.f0).1 (List.mem_map_of_mem hx)
  obtain ⟨y, hy, e⟩ := List.mem_map.1 h1
  rw [← e]
  unfold rawL at hy
  split at hy
  · rw [List.mem_singleton.1 hy]; simp [nameL, kOneA]
  · obtain ⟨z, _, rfl⟩ := List.mem_map.1 hy
    exact keyN_mem _
theorem IsWrites.len {l : List Raw} {m : Nat} {ws : List Write} (h : IsWrites l m ws) : ws.length ≤ 12 := by
  have := nodup_le (ws.map (·.f0)) nameL h.1.nodup fun s hs => by
    obtain ⟨x, hx, rfl⟩ := List.mem_map.1 hs
    exact h.keys x hx
  simpa [nameL] using this
theorem IsWrites.unique {l : List Raw} {m : Nat} {a b : List Write} (ha : IsWrites l m a) (hb : IsWrites l m b) : a = b := IsMade.unique ha hb
theorem name_size {k : ByteArray} (h : k ∈ nameL) : k.size ≤ 4 := by
  have : ∀ k ∈ nameL, k.size ≤ 4 := by decide
  exact this k h

/-- A shelf whose cells are of the twelve names, each under one number. -/
structure Good (s : ShS) : Prop where
  cnt : Counts s.1 s.2
  named : ∀ k c, s.1 k = some c → k ∈ nameL ∧ c.f0 = k ∧ c.f1 = c.f2 ∧ 1 ≤ c.f1
theorem Good.zero : Good (fun _ => none, 0) := ⟨Counts.zero, fun k c h => by cases h⟩
theorem Good.lay1G {s : ShS} (h : Good s) (i : Int) (hi : 1 ≤ i) (x : Write) (hx : x.f0 ∈ nameL) : Good (lay1 i i s x) := by
  unfold lay1
  split
  · refine ⟨h.cnt.delC _, fun k c hk => ?_⟩
    have hk' : (if k = x.f0 then none else s.1 k) = some c := hk
    split at hk'
    · cases hk'
    · exact h.named k c hk'
  · refine ⟨h.cnt.putC _ _, fun k c hk => ?_⟩
    have hk' : (if k = x.f0 then some (⟨x.f0, i, i⟩ : Cell) else s.1 k) = some c := hk
    split at hk'
    · rename_i e
      subst e
      cases hk'
      exact ⟨hx, rfl, rfl, hi⟩
    · exact h.named k c hk'
theorem Good.laysG {i : Int} (hi : 1 ≤ i) : ∀ (ws : List Write) {s : ShS}, Good s → (∀ x ∈ ws, x.f0 ∈ nameL) → Good (lays i i s ws)
  | [], s, h, _ => h
  | x :: ws, s, h, hx => Good.laysG hi ws (h.lay1G i hi x (hx x (by simp))) fun y hy => hx y (List.mem_cons_of_mem _ hy)
theorem Good.le {s : ShS} (h : Good s) : s.2 ≤ 12 := by
  have := h.cnt.le nameL fun k hk => by
    obtain ⟨c, hc⟩ := Option.isSome_iff_exists.1 hk
    exact (h.named k c hc).1
  simpa [nameL] using this
theorem Good.small {s : ShS} (h : Good s) (k : ByteArray) (hk : (s.1 k).isSome = true) : k.size ≤ 4 := by
  obtain ⟨c, hc⟩ := Option.isSome_iff_exists.1 hk
  exact name_size (h.named k c hc).1

/-- What made makes of the first i. -/
def MadeAt (l : List (List Raw)) : Nat → ShS → Prop
  | 0, s => s = (fun _ => none, 0)
  | i + 1, s => ∃ s0 ws, MadeAt l i s0 ∧ IsWrites (l.getD i []) 5 ws ∧ s = lays ((i + 1 : Nat) : Int) ((i + 1 : Nat) : Int) s0 ws
theorem MadeAt.unique {l : List (List Raw)} : ∀ {i : Nat} {a b : ShS}, MadeAt l i a → MadeAt l i b → a = b
  | 0, a, b, ha, hb => by rw [show a = _ from ha, show b = _ from hb]
  | i + 1, a, b, ⟨a0, wa, ha, hwa, ea⟩, ⟨b0, wb, hb, hwb, eb⟩ => by rw [ea, eb, MadeAt.unique ha hb, hwa.unique hwb]
theorem MadeAt.good {l : List (List Raw)} : ∀ {i : Nat} {s : ShS}, MadeAt l i s → Good s
  | 0, s, h => by rw [show s = _ from h]; exact Good.zero
  | i + 1, s, ⟨s0, ws, h0, hw, e⟩ => by rw [e]; exact Good.laysG (by omega) ws h0.good hw.keys

/-! ### made -/
abbrev kRows := Kd.slice 86 kRaw

theorem u32w (x : Nat) (h : x < 1000) : IntKind.u32.wrap (wrap64 ((x : Int) + 1)) = ((x + 1 : Nat) : Int) := by
  rw [wsucc x (by omega)]
  rw [IntKind.wrap_u32]
  omega

set_option maxHeartbeats 4000000 in
set_option maxRecDepth 100000 in
theorem made_any (A : Option Addr) (c : Nat) (l : List (List Raw)) (w : World) (hN : Names w) (hC : Kd.C kRows w A l.length l) (hs : ∀ r ∈ l, ∀ x ∈ r, x.f2.size ≤ 4611686018427387904) :
    Calls Tryd.prog 35 #[.slice A l.length c] w fun e w' => ∃ s, e = .returned (.pointer (some ⟨w.heap.size + 1, 0, none⟩)) ∧ ShelfIs w' (w.heap.size + 1) w.heap.size s.2 s.1 ∧ MadeAt l (min 20 l.length) s ∧ Below w.heap.size w w' := by
  have HC := Aside0.mk hC
  have HN := Aside0.mk hN
  have HS := Aside0.mk hs
  clear hC hs hN
  go_enter Tryd.func35, Tryd.ntmps35
  go_wp2_with fail
  refine (shelfNew_any _).mono ?_
  rintro e w1 ⟨rfl, hw1⟩
  have HA := Aside0.mk (shelfNew_is w)
  rw [← hw1] at HA
  have HB1 : Aside0 (Below w.heap.size w w1) := ⟨by rw [hw1]; exact ((Below.refl _ _).alloc (Nat.le_refl _) _).alloc (by simp) _⟩
  clear hw1
  go_wp2
  go_loopg [4] (min 20 l.length) (fun kq v4 w' => ∃ (x : Nat), v4 = .int .i64 x ∧ Aside0 (x + kq = min 20 l.length) ∧ Aside0 (∃ s : ShS, ShelfIs w' (w.heap.size + 1) w.heap.size s.2 s.1 ∧ MadeAt l x s) ∧ Aside0 (Below w.heap.size w w'))
  case atStart => exact ⟨0, rfl, ⟨by omega⟩, ⟨_, HA.out, rfl⟩, HB1⟩
  case round =>
    obtain ⟨x, rfl, HK, HM, HB⟩ := hrel
    by_cases q : x < l.length
    · have q' : (x : Int) < (l.length : Int) := by omega
      by_cases qm : x < 20
      · have qm' : (x : Int) < 20 := by omega
        have p1 : (0 : Int) ≤ (x : Int) := by omega
        obtain ⟨g1, rfl⟩ : ∃ g1, gk = g1 + 1 := ⟨gk - 1, by have := HK.out; omega⟩
        obtain ⟨ad, cs, e, _, hK, hcell⟩ := Kd.C_get (Kd.C_below HC.out HB.out) [] (x : Int) p1 q'
        cases e
        obtain ⟨A2, c2, rfl, hle, hC2⟩ := hK
        have d0 := hcell 0 _ rfl
        rw [show ((x : Int).toNat * kRows.sz + 0) = x by simp [Kd.slice]] at d0
        have HE : Aside0 (l.getD (x : Int).toNat [] = l.getD x []) := ⟨by simp⟩
        rw [HE.out] at d0 hC2
        have HRS : Aside0 (∀ y ∈ l.getD x [], y.f2.size ≤ 4611686018427387904) := ⟨by
          rw [List.getD_eq_getElem?_getD, List.getElem?_eq_getElem q]
          exact HS.out _ (List.getElem_mem q)⟩
        obtain ⟨r, hr⟩ : ∃ r, Aside0 (l.getD x [] = r) := ⟨_, ⟨rfl⟩⟩
        rw [hr.out] at d0 hC2 HRS
        have HC2 := Aside0.mk hC2
        have HNm : Aside0 (Names wr) := ⟨HN.out.below HB.out HN.out.lt⟩
        clear hcell hC2 HE hle
        go_wp2_with fail
        refine (handWrites_any A2 c2 r 5 (by omega) wr HNm.out HC2.out HRS.out).mono ?_
        rintro e w2 ⟨v, ws, rfl, hR, hW, hb⟩
        obtain ⟨A3, c3, rfl, hc3, hr3⟩ := Kd.R_reads hR
        obtain ⟨s0, hA0, hM0⟩ := HM.out
        have HG := Aside0.mk hM0.good
        have HW := Aside0.mk (And.intro hW (And.intro hM0 hb))
        have HA2 : Aside0 (ShelfIs w2 (w.heap.size + 1) w.heap.size s0.2 s0.1) := ⟨hA0.below hb⟩
        have HR := Aside0.mk hr3
        clear hR hW hb hc3 hr3 hA0 hM0 HM
        go_wp2_with fail
        refine (shelfApply_any w2 (w.heap.size + 1) w.heap.size s0.2 s0.1 _ 0 _ A3 c3 ws HR.out HA2.out ?anN ?anS).mono ?_
        case anN => have := HG.out.le; have := HW.out.1.len; simp only [maxLen]; omega
        case anS => intro y hy; have := name_size (HW.out.1.keys y hy); simp only [maxLen]; omega
        rintro e w3 ⟨rfl, ha, hg⟩
        have hm : MadeAt l (x + 1) (lays ((x + 1 : Nat) : Int) ((x + 1 : Nat) : Int) s0 ws) := ⟨s0, ws, HW.out.2.1, by rw [hr.out]; exact HW.out.1, rfl⟩
        have e1 : ((x : Int) + 1) = ((x + 1 : Nat) : Int) := by omega
        rw [e1] at ha
        have HF : Aside0 ((∃ s : ShS, ShelfIs w3 (w.heap.size + 1) w.heap.size s.2 s.1 ∧ MadeAt l (x + 1) s) ∧ Below w.heap.size w w3) :=
          ⟨⟨_, ha, hm⟩, (below_then HB.out HB.out.size HW.out.2.2).grown hg (below_size (below_then HB.out HB.out.size HW.out.2.2)) (fun k hk => by cases hk; exact Nat.le_refl _)⟩
        clear ha hg hm e1
        go_wp2
        go_roundg g1
        case measure => omega
        case rel => exact ⟨x + 1, rfl, ⟨by have := HK.out; omega⟩, ⟨HF.out.1⟩, ⟨HF.out.2⟩⟩
      · have e : x = min 20 l.length := by have := HK.out; omega
        have HE := Aside0.mk e
        clear e
        go_wp2
        go_ret
        obtain ⟨s, h1, h2⟩ := HM.out
        rw [HE.out] at h2
        exact ⟨s, rfl, h1, h2, HB.out⟩
    · have e : x = min 20 l.length := by have := HK.out; omega
      have HE := Aside0.mk e
      clear e
      go_wp2
      go_ret
      obtain ⟨s, h1, h2⟩ := HM.out
      rw [HE.out] at h2
      exact ⟨s, rfl, h1, h2, HB.out⟩
end Go.Proofs.YtmionoghpjpbaaaDoor
