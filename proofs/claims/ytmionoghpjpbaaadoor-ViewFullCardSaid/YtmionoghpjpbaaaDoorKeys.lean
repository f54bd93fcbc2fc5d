/-
  atom.Map.Keys; shelf.Shelf.those, Keys, Live, Drop.
-/
import Derived.Test.YtmionoghpjpbaaaDoorSorted
import Derived.Test.YtmionoghpjpbaaaDoorShelf2
namespace Go.Proofs.YtmionoghpjpbaaaDoor
open Go.RowKit Go.Proofs.YtmionoghpjpbaaaDoorW.PrintWords Go.Proofs.YtmionoghpjpbaaaDoorW.PrintLast Go.Proofs.YtmionoghpjpbaaaDoorW.PrintMore
open Go.Proofs.YtmionoghpjpbaaaDoorM
set_option linter.unusedVariables false
set_option linter.unusedSimpArgs false

theorem infoOfStr : (Tryd.prog.info? 9).map (fun i => (i.zero, i.size, i.bytes)) = some (some (.string ⟨#[]⟩), 1, 16) := by kernel_rfl
/-- append(v, x) of texts. -/
theorem appStr {ops : Array Oper} {rest : List Oper} {o : Oper} {a : Act} {Q : Exit → Act → World → Prop} {w0 W : World} (base : Nat) (hgd : o.guard = none) (s x : Operand) (B : Nat)
    (ho : o.op = .call { callee := .builtin .append, args := #[s, x], argTypes := #[33, 33] }) (v : Value) (xs : List ByteArray) (p : ByteArray) (hs : a.eval s = v) (hx : a.eval x = .slice (some ⟨B, 0, none⟩) 1 1) (hB : B = W.heap.size)
    (HO : Kd.R Kd.string 9 W base (fun _ => True) v xs) (HB : Below base w0 W) (hbase : base ≤ W.heap.size) (hl : xs.length ≤ 1000000000)
    (h : ∀ v1 w1, Kd.R Kd.string 9 w1 base (fun _ => True) v1 (xs ++ [p]) → Below base w0 w1 → W.grownBy w1 v.ownBlock → (v1.ownBlock = v.ownBlock ∨ ∃ b, v1.ownBlock = some b ∧ W.heap.size ≤ b) → wpList Tryd.prog ops Q rest (a.put o.dst v1) w1) :
    wpList Tryd.prog ops Q (o :: rest) a (W.alloc (.cells #[.string p] 9)) := by
  subst hB
  exact Kd.R_append Kd.string base hgd s x 33 9 (.string ⟨#[]⟩) 16 ho Tryd.underlying33 infoOfStr rfl (by decide) (by omega) v xs p [.string p] (fun _ => True) (fun _ => False) hs hx rfl (fun _ hk => hk.elim) (fun _ _ => trivial) HO HB hbase (by omega) h

/-- What the keys of a map are, on the way: acc of those that have come. -/
structure Coll {α : Type} (f : ByteArray → Option α) (p : α → Bool) (left : ByteArray → Bool) (acc : List ByteArray) : Prop where
  sound : ∀ s, left s = true → (f s).isSome = true
  mem : ∀ s, s ∈ acc ↔ ∃ c, f s = some c ∧ p c = true ∧ left s = false
theorem Coll.start {α : Type} (f : ByteArray → Option α) (p : α → Bool) : Coll f p (fun s => (f s).isSome) [] :=
  ⟨fun _ h => h, fun s => by
    constructor
    · intro h; cases h
    · rintro ⟨c, h1, _, h2⟩; rw [h1] at h2; cases h2⟩
theorem Coll.yes {α : Type} {f : ByteArray → Option α} {p : α → Bool} {left : ByteArray → Bool} {acc : List ByteArray} (h : Coll f p left acc) {s : ByteArray} {c : α} (hl : left s = true) (hf : f s = some c) (hp : p c = true) :
    Coll f p (fun x => left x && !decide (x = s)) (acc ++ [s]) :=
  ⟨fun x hx => h.sound x (by simp at hx; exact hx.1), fun x => by
    rw [List.mem_append, h.mem x, List.mem_singleton]
    by_cases e : x = s
    · subst e; simp [hf, hp]
    · simp [e]⟩
theorem Coll.no {α : Type} {f : ByteArray → Option α} {p : α → Bool} {left : ByteArray → Bool} {acc : List ByteArray} (h : Coll f p left acc) {s : ByteArray} {c : α} (hl : left s = true) (hf : f s = some c) (hp : p c = false) :
    Coll f p (fun x => left x && !decide (x = s)) acc :=
  ⟨fun x hx => h.sound x (by simp at hx; exact hx.1), fun x => by
    rw [h.mem x]
    by_cases e : x = s
    · subst e; simp [hf, hp]
    · simp [e]⟩
theorem Coll.done {α : Type} {f : ByteArray → Option α} {p : α → Bool} {left : ByteArray → Bool} {acc : List ByteArray} (h : Coll f p left acc) (hd : ∀ s, left s = false) (s : ByteArray) : s ∈ acc ↔ ∃ c, f s = some c ∧ p c = true := by
  rw [h.mem s]
  simp [hd]

/-- The rising list of the keys whose elements are so. -/
def KeysOf {α : Type} (f : ByteArray → Option α) (p : α → Bool) (w0 : World) (e : Ending) (w' : World) : Prop :=
  ∃ v out, e = .returned v ∧ Kd.R Kd.string 9 w' w0.heap.size (fun _ => True) v out ∧ Rises out ∧ (∀ s, s ∈ out ↔ ∃ c, f s = some c ∧ p c = true) ∧ Below w0.heap.size w0 w'
theorem KeysOf.of_sorted {α : Type} {f : ByteArray → Option α} {p : α → Bool} {w0 w : World} {acc : List ByteArray} {e : Ending} {w' : World} (h : SortedOf w acc e w') (hb : Below w0.heap.size w0 w) (hm : ∀ s, s ∈ acc ↔ ∃ c, f s = some c ∧ p c = true) : KeysOf f p w0 e w' := by
  obtain ⟨v, out, h1, h2, h3, h4, h5⟩ := h
  exact ⟨v, out, h1, Kd.R_lower h2 hb.size, h3, fun s => (h4 s).trans (hm s), below_then hb hb.size h5⟩

set_option maxHeartbeats 1000000 in
set_option maxRecDepth 100000 in
theorem atomKeys_any (w : World) (g b n : Nat) (f : ByteArray → Option Answer) (h : AtomIs w g b n f) (hn : n ≤ 1000000000) (hs : ∀ s, (f s).isSome = true → s.size ≤ 1000000000) :
    Calls Tryd.prog 30 #[.pointer (some ⟨g, 0, none⟩)] w (KeysOf f (fun _ => true) w) := by
  have hcell := h.cell
  have H := Aside0.mk h
  have HN := Aside0.mk hn
  have HS := Aside0.mk hs
  clear h hn hs
  go_enter Tryd.func30, Tryd.ntmps30
  go_wp2_with (at_range; refine wp_range _ rfl (.tmp 10) 133 rfl eAnswer keyedS Tryd.underlying133 b n f rfl H.out.2 ?_; intro w0 hr0 hg0 _; have HR := Aside0.mk hr0; have HB : Aside0 (Below w.heap.size w w0) := ⟨(Below.refl _ _).grown hg0 (Nat.le_refl _) (fun k hk => by cases hk)⟩; clear hr0 hg0)
  go_frame
  go_loopg [3] n (fun kq v3 w' => ∃ left acc, Aside0 (RangeIs Tryd.prog 9 eAnswer w' b w.heap.size n f left kq) ∧ Aside0 (Coll f (fun _ => true) left acc) ∧ Aside0 (acc.length + kq ≤ n) ∧ Aside0 (Kd.R Kd.string 9 w' (w.heap.size + 1) (fun _ => True) v3 acc) ∧ Aside0 (Below w.heap.size w w'))
  case atStart => exact ⟨_, [], HR, ⟨Coll.start _ _⟩, ⟨by simp⟩, ⟨Kd.R_nil _ _ _ _ _⟩, HB⟩
  case round =>
    obtain ⟨left, acc, HR1, HC, HL, HO, HB1⟩ := hrel
    go_wp2_with (at_next; refine wp_next _ rfl (.tmp 11) rfl eAnswer keyedS Tryd.underlying9 b w.heap.size n f left gk rfl HR1.out HC.out.sound ?_ ?_)
    · intro _ hdone
      have HD := Aside0.mk (HC.out.done hdone)
      clear hdone
      obtain ⟨A1, c1, rfl, hc1, hr1⟩ := Kd.R_reads HO.out
      have HRd := Aside0.mk hr1
      clear hc1 hr1
      have HSZ : Aside0 (∀ s, s ∈ acc → s.size ≤ 1000000000) := ⟨fun s hm => by
        obtain ⟨c, hc, _⟩ := (HD.out s).1 hm
        exact HS.out s (by rw [hc]; rfl)⟩
      go_wp2_with fail
      refine (sorted_any A1 c1 acc _ HRd.out (by have := HL.out; have := HN.out; omega) HSZ.out).mono ?_
      intro e w3 hso
      have HK := Aside0.mk (KeysOf.of_sorted (f := f) (p := fun _ => true) hso HB1.out (fun s => (HD.out s).trans (by simp)))
      obtain ⟨v, out, rfl, _⟩ := hso
      go_wp2_with fail
      go_ret
      exact HK.out
    · intro s c w2 cnt hsz hls hf hrg hlt hgr hsz2 hen
      have hen' : (Instr.entry (.pointer (some ⟨w.heap.size, 0, none⟩))).run Tryd.prog w2 = .ok (.tuple #[.string s, .agg #[.string c.f0, .bool c.f1, .string c.f2, .int .u32 c.f3]]) w2 := hen
      have HB2 : Aside0 (Below w.heap.size w w2) := ⟨HB1.out.grown hgr HB1.out.size (fun k hk => by cases hk; exact Nat.le_refl _)⟩
      have HR2 := Aside0.mk hrg
      have HC2 := Aside0.mk (HC.out.yes hls hf rfl)
      have HL2 : Aside0 (acc.length + 1 + cnt ≤ n) := ⟨by have := HL.out; omega⟩
      have HLT := Aside0.mk hlt
      have HO2 : Aside0 (Kd.R Kd.string 9 w2 (w.heap.size + 1) (fun _ => True) u3 acc) := ⟨Kd.R_mono (Kd.R_grown (Kd.R_bound HO.out) hgr (fun k hk e => by cases e; have := hk.2.1; omega)) (fun _ _ => trivial)⟩
      have HSW : Aside0 (w.heap.size + 1 ≤ w2.heap.size) := ⟨by have := hrg.lt; omega⟩
      clear hsz hls hf hrg hlt hgr hen hsz2 HB1 HR1 HO HC HL
      rw [show eAnswer.enc c = .agg #[.string c.f0, .bool c.f1, .string c.f2, .int .u32 c.f3] from rfl]
      go_wp2_with (at_builtin; refine appStr (w0 := w2) (w.heap.size + 1) rfl (.tmp 16) (.tmp 18) w2.heap.size rfl u3 acc s rfl rfl rfl ?aO ?aB ?aS ?aL ?_; (case aO => exact HO2.out); (case aB => exact Below.refl _ _); (case aS => exact HSW.out); (case aL => have := HL2.out; have := HN.out; omega); intro v1 w3 ho hb hg hat; have HO3 := Aside0.mk ho; have HB3 := Aside0.mk hb; have HG3 := Aside0.mk hg; clear ho hb hg hat)
      have HR3 : Aside0 (RangeIs Tryd.prog 9 eAnswer w3 b w.heap.size n f (fun x => left x && !decide (x = s)) cnt) := ⟨HR2.out.kept HG3.out (fun e => by have := ((Kd.R_bound HO2.out).1 b e.symm).2.1; have := H.out.2.lt; omega) (fun e => by have := ((Kd.R_bound HO2.out).1 _ e.symm).2.1; omega)⟩
      go_roundg cnt
      case measure => exact HLT.out
      case rel => exact ⟨_, acc ++ [s], HR3, HC2, ⟨by have := HL2.out; simp; omega⟩, HO3, ⟨HB2.out.trans (HB3.out.mono (by omega))⟩⟩

/-! ### shelf -/
set_option maxHeartbeats 1000000 in
set_option maxRecDepth 100000 in
/-- those: the function value answers p of each cell; it turns nothing. -/
theorem shelfThose_any (w : World) (g b n : Nat) (f : ByteArray → Option Cell) (p : Cell → Bool) (fv : Nat) (cb : Array Value) (h : ShelfIs w g b n f) (hn : n ≤ 1000000000) (hs : ∀ s, (f s).isSome = true → s.size ≤ 1000000000)
    (hp : ∀ (W : World) (c : Cell), Below w.heap.size w W → Calls Tryd.prog fv (#[.agg #[.string c.f0, .int .u32 c.f1, .int .u32 c.f2]] ++ cb) W fun e w' => e = .returned (.bool (p c)) ∧ Below W.heap.size W w')
    (eg : ∀ args w, (callFunc fv args).run Tryd.prog w = .ok (.enter fv args) w) :
    Calls Tryd.prog 84 #[.pointer (some ⟨g, 0, none⟩), .func (.func fv) #[] cb] w (KeysOf f p w) := by
  have hcell := h.cell
  have H := Aside0.mk h
  have HN := Aside0.mk hn
  have HS := Aside0.mk hs
  have HP := Aside0.mk hp
  clear h hn hs hp
  go_enter Tryd.func84, Tryd.ntmps84
  go_wp2_with (at_range; refine wp_range _ rfl (.tmp 13) 141 rfl eCell keyedS Tryd.underlying141 b n f rfl H.out.2 ?_; intro w0 hr0 hg0 _; have HR := Aside0.mk hr0; have HB : Aside0 (Below w.heap.size w w0) := ⟨(Below.refl _ _).grown hg0 (Nat.le_refl _) (fun k hk => by cases hk)⟩; clear hr0 hg0)
  go_frame
  go_loopg [5] n (fun kq v5 w' => ∃ left acc, Aside0 (RangeIs Tryd.prog 9 eCell w' b w.heap.size n f left kq) ∧ Aside0 (Coll f p left acc) ∧ Aside0 (acc.length + kq ≤ n) ∧ Aside0 (Kd.R Kd.string 9 w' (w.heap.size + 1) (fun _ => True) v5 acc) ∧ Aside0 (Below w.heap.size w w'))
  case atStart => exact ⟨_, [], HR, ⟨Coll.start _ _⟩, ⟨by simp⟩, ⟨Kd.R_nil _ _ _ _ _⟩, HB⟩
  case round =>
    obtain ⟨left, acc, HR1, HC, HL, HO, HB1⟩ := hrel
    go_wp2_with (at_next; refine wp_next _ rfl (.tmp 14) rfl eCell keyedS Tryd.underlying9 b w.heap.size n f left gk rfl HR1.out HC.out.sound ?_ ?_)
    · intro _ hdone
      have HD := Aside0.mk (HC.out.done hdone)
      clear hdone
      obtain ⟨A1, c1, rfl, hc1, hr1⟩ := Kd.R_reads HO.out
      have HRd := Aside0.mk hr1
      clear hc1 hr1
      have HSZ : Aside0 (∀ s, s ∈ acc → s.size ≤ 1000000000) := ⟨fun s hm => by
        obtain ⟨c, hc, _⟩ := (HD.out s).1 hm
        exact HS.out s (by rw [hc]; rfl)⟩
      go_wp2_with fail
      refine (sorted_any A1 c1 acc _ HRd.out (by have := HL.out; have := HN.out; omega) HSZ.out).mono ?_
      intro e w3 hso
      have HK := Aside0.mk (KeysOf.of_sorted (f := f) (p := p) hso HB1.out HD.out)
      obtain ⟨v, out, rfl, _⟩ := hso
      go_wp2_with fail
      go_ret
      exact HK.out
    · intro s c w2 cnt hsz hls hf hrg hlt hgr hsz2 hen
      have hen' : (Instr.entry (.pointer (some ⟨w.heap.size, 0, none⟩))).run Tryd.prog w2 = .ok (.tuple #[.string s, .agg #[.string c.f0, .int .u32 c.f1, .int .u32 c.f2]]) w2 := hen
      have HB2 : Aside0 (Below w.heap.size w w2) := ⟨HB1.out.grown hgr HB1.out.size (fun k hk => by cases hk; exact Nat.le_refl _)⟩
      have HR2 := Aside0.mk hrg
      have HL2 : Aside0 (acc.length + 1 + cnt ≤ n) := ⟨by have := HL.out; omega⟩
      have HLT := Aside0.mk hlt
      have HO2 : Aside0 (Kd.R Kd.string 9 w2 (w.heap.size + 1) (fun _ => True) u5 acc) := ⟨Kd.R_mono (Kd.R_grown (Kd.R_bound HO.out) hgr (fun k hk e => by cases e; have := hk.2.1; omega)) (fun _ _ => trivial)⟩
      have HSW : Aside0 (w.heap.size + 1 ≤ w2.heap.size) := ⟨by have := hrg.lt; omega⟩
      have HLS := Aside0.mk (And.intro hls hf)
      clear hsz hls hf hrg hlt hgr hen hsz2 HB1 HR1 HO HL
      rw [show eCell.enc c = .agg #[.string c.f0, .int .u32 c.f1, .int .u32 c.f2] from rfl]
      cases hpc : p c
      · have HC2 := Aside0.mk (HC.out.no HLS.out.1 HLS.out.2 hpc)
        have HPC := Aside0.mk hpc
        clear hpc
        go_wp2_with (go_at_fn fv; refine (HP.out _ c ?bb).mono ?_; (case bb => exact below_alloc HB2.out _); rintro e w3 ⟨rfl, hb3⟩; rw [HPC.out]; have HB3 := Aside0.mk hb3; clear hb3)
        have HG3 : Aside0 (Below w2.heap.size w2 w3) := ⟨below_then (below_alloc (Below.refl _ _) _) (below_size (below_alloc (Below.refl _ _) _)) HB3.out⟩
        go_roundg cnt
        case measure => exact HLT.out
        case rel => exact ⟨_, acc, ⟨HR2.out.below HG3.out⟩, HC2, ⟨by have := HL2.out; omega⟩, ⟨Kd.R_below HO2.out HG3.out⟩, ⟨below_then HB2.out HB2.out.size HG3.out⟩⟩
      · have HC2 := Aside0.mk (HC.out.yes HLS.out.1 HLS.out.2 hpc)
        have HPC := Aside0.mk hpc
        clear hpc
        go_wp2_with fail
        go_at_fn fv
        refine (HP.out _ c ?bb).mono ?_
        case bb => exact below_alloc HB2.out _
        rintro e w3 ⟨rfl, hb3⟩
        rw [HPC.out]
        have HG3 : Aside0 (Below w2.heap.size w2 w3) := ⟨below_then (below_alloc (Below.refl _ _) _) (below_size (below_alloc (Below.refl _ _) _)) hb3⟩
        have HR3 : Aside0 (RangeIs Tryd.prog 9 eCell w3 b w.heap.size n f (fun x => left x && !decide (x = s)) cnt) := ⟨HR2.out.below HG3.out⟩
        have HO3 : Aside0 (Kd.R Kd.string 9 w3 (w.heap.size + 1) (fun _ => True) u5 acc) := ⟨Kd.R_below HO2.out HG3.out⟩
        have HB3 : Aside0 (Below w.heap.size w w3) := ⟨below_then HB2.out HB2.out.size HG3.out⟩
        have HS3 : Aside0 (w.heap.size + 1 ≤ w3.heap.size) := ⟨by have := HSW.out; have := HG3.out.size; omega⟩
        clear hb3 HG3 HR2 HO2 HB2 HSW
        go_wp2_with (at_builtin; refine appStr (w0 := w3) (w.heap.size + 1) rfl (.tmp 23) (.tmp 25) w3.heap.size rfl u5 acc s rfl rfl rfl ?aO ?aB ?aS ?aL ?_; (case aO => exact HO3.out); (case aB => exact Below.refl _ _); (case aS => exact HS3.out); (case aL => have := HL2.out; have := HN.out; omega); intro v1 w4 ho hb hg hat; have HO4 := Aside0.mk ho; have HB4 := Aside0.mk hb; have HG4 := Aside0.mk hg; clear ho hb hg hat)
        have HR4 : Aside0 (RangeIs Tryd.prog 9 eCell w4 b w.heap.size n f (fun x => left x && !decide (x = s)) cnt) := ⟨HR3.out.kept HG4.out (fun e => by have := ((Kd.R_bound HO3.out).1 b e.symm).2.1; have := H.out.2.lt; omega) (fun e => by have := ((Kd.R_bound HO3.out).1 _ e.symm).2.1; omega)⟩
        go_roundg cnt
        case measure => exact HLT.out
        case rel => exact ⟨_, acc ++ [s], HR4, HC2, ⟨by have := HL2.out; simp; omega⟩, HO4, ⟨HB3.out.trans (HB4.out.mono (by omega))⟩⟩

set_option maxHeartbeats 1000000 in
theorem shelfKeys_any (w : World) (g b n : Nat) (f : ByteArray → Option Cell) (h : ShelfIs w g b n f) (hn : n ≤ 1000000000) (hs : ∀ s, (f s).isSome = true → s.size ≤ 1000000000) :
    Calls Tryd.prog 48 #[.pointer (some ⟨g, 0, none⟩)] w (KeysOf f (fun _ => true) w) := by
  have eg : ∀ args w, (callFunc 92 args).run Tryd.prog w = .ok (.enter 92 args) w := enters_of Tryd.func92 (by kernel_rfl) rfl
  have hp : ∀ (W : World) (c : Cell), Below w.heap.size w W → Calls Tryd.prog 92 (#[.agg #[.string c.f0, .int .u32 c.f1, .int .u32 c.f2]] ++ #[]) W fun e w' => e = .returned (.bool true) ∧ Below W.heap.size W w' := by
    intro W c _
    clear h hs eg
    go_enter Tryd.func92, Tryd.ntmps92
    go_wp2
    go_ret
    exact ⟨rfl, below_alloc (Below.refl _ _) _⟩
  have ht := Aside0.mk (shelfThose_any w g b n f (fun _ => true) 92 #[] h hn hs hp eg)
  clear h hs eg hp
  go_enter Tryd.func48, Tryd.ntmps48
  go_wp2_with fail
  refine ht.out.mono ?_
  intro e w3 hso
  have HK := Aside0.mk hso
  obtain ⟨v, out, rfl, _⟩ := hso
  go_wp2_with fail
  go_ret
  exact HK.out
end Go.Proofs.YtmionoghpjpbaaaDoor
