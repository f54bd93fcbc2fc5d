/-
  shelf.Shelf.Live, Drop.
-/
import Derived.Test.YtmionoghpjpbaaaDoorKeys
namespace Go.Proofs.YtmionoghpjpbaaaDoor
open Go.RowKit Go.Proofs.YtmionoghpjpbaaaDoorW.PrintWords Go.Proofs.YtmionoghpjpbaaaDoorW.PrintLast Go.Proofs.YtmionoghpjpbaaaDoorW.PrintMore
open Go.Proofs.YtmionoghpjpbaaaDoorM
set_option linter.unusedVariables false
set_option linter.unusedSimpArgs false

theorem KeysOf.lower {α : Type} {f : ByteArray → Option α} {p : α → Bool} {w0 w : World} {e : Ending} {w' : World} (h : KeysOf f p w e w') (hb : Below w0.heap.size w0 w) : KeysOf f p w0 e w' := by
  obtain ⟨v, out, h1, h2, h3, h4, h5⟩ := h
  exact ⟨v, out, h1, Kd.R_lower h2 hb.size, h3, h4, below_then hb hb.size h5⟩

theorem box_cell (w : World) (v : Value) (e : TypeId) {W : World} (h : Below (w.alloc (.cells #[v] e)).heap.size (w.alloc (.cells #[v] e)) W) : W.cell? ⟨w.heap.size, 0, none⟩ = some v := by
  have h1 : (w.alloc (.cells #[v] e)).cell? ⟨w.heap.size, 0, none⟩ = some v := by
    unfold World.cell?
    rw [heap_alloc_new w (.cells #[v] e)]
    rfl
  exact pw_cell_below h h1

set_option maxHeartbeats 1000000 in
set_option maxRecDepth 100000 in
theorem shelfLive_any (w : World) (g b n : Nat) (f : ByteArray → Option Cell) (seq : Int) (h : ShelfIs w g b n f) (hn : n ≤ 1000000000) (hs : ∀ s, (f s).isSome = true → s.size ≤ 1000000000) :
    Calls Tryd.prog 40 #[.pointer (some ⟨g, 0, none⟩), .int .u32 seq] w (KeysOf f (fun c => c.f1 == seq) w) := by
  have hmf : ∀ (fn : Fn) (first cap : Array Value) (w : World), (Instr.makeFunc fn first cap).run Tryd.prog w = .ok (.func fn first cap) w := fun _ _ _ _ => rfl
  have eg : ∀ args w, (callFunc 85 args).run Tryd.prog w = .ok (.enter 85 args) w := enters_of Tryd.func85 (by kernel_rfl) rfl
  have hp : ∀ (W : World) (c : Cell), Below (w.alloc (.cells #[.int .u32 seq] 30)).heap.size (w.alloc (.cells #[.int .u32 seq] 30)) W → Calls Tryd.prog 85 (#[.agg #[.string c.f0, .int .u32 c.f1, .int .u32 c.f2]] ++ #[.pointer (some ⟨w.heap.size, 0, none⟩)]) W fun e w' => e = .returned (.bool (c.f1 == seq)) ∧ Below W.heap.size W w' := by
    intro W c hb
    have hc := box_cell _ _ _ hb
    have hcA : ∀ o, (W.alloc o).cell? ⟨w.heap.size, 0, none⟩ = some (.int .u32 seq) := fun o => pw_cell_below (below_alloc (Below.refl _ _) o) hc
    clear h hs eg hb
    go_enter Tryd.func85, Tryd.ntmps85
    go_wp2
    go_ret
    exact ⟨rfl, below_alloc (Below.refl _ _) _⟩
  have ht := Aside0.mk (shelfThose_any _ g b n f (fun c => c.f1 == seq) 85 #[.pointer (some ⟨w.heap.size, 0, none⟩)] (h.alloc _) hn hs hp eg)
  clear h hs eg hp
  go_enter Tryd.func40, Tryd.ntmps40
  go_wp2_with fail
  refine ht.out.mono ?_
  intro e w3 hso
  have HK := Aside0.mk (KeysOf.lower (w0 := w) hso (below_alloc (Below.refl _ _) _))
  obtain ⟨v, out, rfl, _⟩ := hso
  go_wp2_with fail
  go_ret
  exact HK.out

/-! ### Drop -/
def dropsC (s : (ByteArray → Option Cell) × Nat) (l : List ByteArray) : (ByteArray → Option Cell) × Nat := l.foldl (fun s x => (del s.1 x, delN s.1 x s.2)) s
theorem dropsC_snoc (s : (ByteArray → Option Cell) × Nat) (l : List ByteArray) (i : Nat) (h : i < l.length) : dropsC s (l.take (i + 1)) = (del (dropsC s (l.take i)).1 l[i], delN (dropsC s (l.take i)).1 l[i] (dropsC s (l.take i)).2) := by
  unfold dropsC
  rw [List.take_succ_eq_append_getElem h, List.foldl_append]
  rfl
def outP (seq from_ : Int) (c : Cell) : Bool := decide (c.f1 ≤ seq) || decide (c.f2 ≤ from_)

/-- What Drop does: the keys that go; what is left. -/
def DropOf (f : ByteArray → Option Cell) (n g b : Nat) (seq from_ : Int) (w0 : World) (e : Ending) (w' : World) : Prop :=
  ∃ v out, e = .returned v ∧ Kd.R Kd.string 9 w' w0.heap.size (fun _ => True) v out ∧ Rises out ∧ (∀ s, s ∈ out ↔ ∃ c, f s = some c ∧ outP seq from_ c = true) ∧
    ShelfIs w' g b (dropsC (f, n) out).2 (dropsC (f, n) out).1 ∧ w0.grownBy w' (some b)

set_option maxHeartbeats 2000000 in
set_option maxRecDepth 100000 in
theorem shelfDrop_any (w : World) (g b n : Nat) (f : ByteArray → Option Cell) (seq from_ : Int) (h : ShelfIs w g b n f) (hn : n ≤ 1000000000) (hs : ∀ s, (f s).isSome = true → s.size ≤ 1000000000) :
    Calls Tryd.prog 41 #[.pointer (some ⟨g, 0, none⟩), .int .u32 seq, .int .u32 from_] w (DropOf f n g b seq from_ w) := by
  have hmf : ∀ (fn : Fn) (first cap : Array Value) (w : World), (Instr.makeFunc fn first cap).run Tryd.prog w = .ok (.func fn first cap) w := fun _ _ _ _ => rfl
  have eg : ∀ args w, (callFunc 86 args).run Tryd.prog w = .ok (.enter 86 args) w := enters_of Tryd.func86 (by kernel_rfl) rfl
  obtain ⟨w1, hw1⟩ : ∃ w1, w1 = w.alloc (.cells #[.int .u32 seq] 30) := ⟨_, rfl⟩
  have hz1 : w1.heap.size = w.heap.size + 1 := by rw [hw1]; simp
  have hp : ∀ (W : World) (c : Cell), Below (w1.alloc (.cells #[.int .u32 from_] 30)).heap.size (w1.alloc (.cells #[.int .u32 from_] 30)) W → Calls Tryd.prog 86 (#[.agg #[.string c.f0, .int .u32 c.f1, .int .u32 c.f2]] ++ #[.pointer (some ⟨w.heap.size, 0, none⟩), .pointer (some ⟨w.heap.size + 1, 0, none⟩)]) W fun e w' => e = .returned (.bool (outP seq from_ c)) ∧ Below W.heap.size W w' := by
    intro W c hb
    have hc2 := box_cell _ _ _ hb
    rw [hz1] at hc2
    have hc1 : W.cell? ⟨w.heap.size, 0, none⟩ = some (.int .u32 seq) := by
      refine box_cell w _ 30 ?_
      rw [← hw1]
      exact below_then (below_alloc (Below.refl _ _) _) (below_size (below_alloc (Below.refl _ _) _)) hb
    have hcA1 : ∀ o, (W.alloc o).cell? ⟨w.heap.size, 0, none⟩ = some (.int .u32 seq) := fun o => pw_cell_below (below_alloc (Below.refl _ _) o) hc1
    have hcA2 : ∀ o, (W.alloc o).cell? ⟨w.heap.size + 1, 0, none⟩ = some (.int .u32 from_) := fun o => pw_cell_below (below_alloc (Below.refl _ _) o) hc2
    clear h hs eg hb hw1 hz1
    unfold outP
    by_cases h1 : c.f1 ≤ seq
    · go_enter Tryd.func86, Tryd.ntmps86
      go_wp2
      go_ret
      exact ⟨by simp [h1], below_alloc (Below.refl _ _) _⟩
    · go_enter Tryd.func86, Tryd.ntmps86
      go_wp2
      go_ret
      exact ⟨by simp [show ¬ c.f1 ≤ seq by omega], below_alloc (Below.refl _ _) _⟩
  have HT := Aside0.mk (shelfThose_any _ g b n f (outP seq from_) 86 #[.pointer (some ⟨w.heap.size, 0, none⟩), .pointer (some ⟨w.heap.size + 1, 0, none⟩)] (((h.alloc (.cells #[.int .u32 seq] 30)).kept (World.grownBy.refl _ none) (by simp) (by simp)).alloc (.cells #[.int .u32 from_] 30)) hn hs (by rw [← hw1]; exact hp) eg)
  have H := Aside0.mk h
  have HS := Aside0.mk hs
  clear h hs eg hp hw1 hz1 w1
  go_enter Tryd.func41, Tryd.ntmps41
  go_wp2_with fail
  refine HT.out.mono ?_
  rintro e w1 hso
  obtain ⟨v, out, rfl, hR, hri, hm, hb⟩ := KeysOf.lower (w0 := w) hso (below_alloc (below_alloc (Below.refl _ _) _) _)
  have HRr := Aside0.mk hR
  obtain ⟨A, c, rfl, hcp, hC⟩ := Kd.R_reads hR
  have HC := Aside0.mk hC
  have hml := hC.2.1
  have HM := Aside0.mk (And.intro hri hm)
  have HB := Aside0.mk hb
  have HA : Aside0 (ShelfIs w1 g b n f) := ⟨H.out.below hb⟩
  clear hso hR hri hm hb hC HT hcp
  go_wp2
  go_loopg [15] out.length (fun kq v15 w' => ∃ x : Int, v15 = .int .i64 x ∧ Aside0 (0 ≤ x ∧ x.toNat + kq = out.length) ∧ Aside0 (ShelfIs w' g b (dropsC (f, n) (out.take x.toNat)).2 (dropsC (f, n) (out.take x.toNat)).1) ∧ Aside0 (w1.grownBy w' (some b)))
  case atStart => exact ⟨0, rfl, ⟨by simp⟩, ⟨by simpa [dropsC] using HA.out⟩, ⟨World.grownBy.refl _ _⟩⟩
  case round =>
    obtain ⟨x, rfl, HK, HA2, HG⟩ := hrel
    have p := HK.out.1
    by_cases q : x < (out.length : Int)
    · obtain ⟨k1, rfl⟩ : ∃ k1, gk = k1 + 1 := ⟨gk - 1, by have := HK.out.2; omega⟩
      obtain ⟨ad, e, c0⟩ := Kd.at_string HC.out x p q
      cases e
      replace c0 := MapIs_cell HA.out.2 HG.out c0
      have hcell := HA2.out.cell
      have hlt : x.toNat < out.length := by omega
      have HX : Aside0 (rdOf ByteArray.empty out x = out[x.toNat]'hlt) := ⟨rdOf_get hlt⟩
      generalize rdOf ByteArray.empty out x = y at *
      have hsm : Aside0 (y.size ≤ maxLen) := ⟨by
        rw [HX.out]
        obtain ⟨cc, h1, _⟩ := (HM.out.2 _).1 (List.getElem_mem hlt)
        have := HS.out _ (by rw [h1]; rfl)
        simp only [maxLen]
        omega⟩
      go_wp2_with (at_delete; refine wp_drop _ rfl (.tmp 22) (.tmp 23) 141 9 rfl eCell keyedS Tryd.underlying9 Tryd.underlying141 b _ _ rfl HA2.out.2 y rfl hsm.out ?_; intro w2 hm2 hg2 _)
      have hh : Aside0 (ShelfIs w2 g b (dropsC (f, n) (out.take (x + 1).toNat)).2 (dropsC (f, n) (out.take (x + 1).toNat)).1 ∧ w1.grownBy w2 (some b)) := ⟨by
        have e : (x + 1).toNat = x.toNat + 1 := by omega
        rw [e, dropsC_snoc (f, n) out x.toNat hlt, ← HX.out]
        exact ⟨HA2.out.step hg2 hm2, HG.out.trans hg2⟩⟩
      clear hm2 hg2
      go_roundg k1
      case measure => omega
      case rel => exact ⟨x + 1, rfl, ⟨by have := HK.out.2; omega⟩, ⟨hh.out.1⟩, ⟨hh.out.2⟩⟩
    · have HE : Aside0 (out.take x.toNat = out) := ⟨List.take_of_length_le (by omega)⟩
      go_wp2
      go_ret
      rw [HE.out] at HA2
      exact ⟨_, out, rfl, Kd.R_mono (Kd.R_grown (Kd.R_bound HRr.out) HG.out (fun k hk e => by cases e; have := hk.2.1; have := H.out.2.lt; omega)) (fun _ _ => trivial), HM.out.1, HM.out.2, HA2.out, World.grownBy.trans (grown_of_below HB.out _) HG.out⟩
end Go.Proofs.YtmionoghpjpbaaaDoor
