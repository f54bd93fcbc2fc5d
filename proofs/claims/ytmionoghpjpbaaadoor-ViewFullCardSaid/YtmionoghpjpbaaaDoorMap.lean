/-
  Maps with string keys, told by a Lean function from keys to elements and by their size: the kit's laws on maps, said in these words. No program in sight.
-/
import Derived.Maps.RangeWalk
import Derived.Maps.OwnSet
import Derived.Maps.OwnOps
import Derived.StringKeys
import Derived.StillTail
import Derived.StillTactics
import Derived.WalkKit
import Derived.Deep.Draws
namespace Go.Proofs.YtmionoghpjpbaaaDoorM
open Go.Maps Go.RowKit Go.WideMaps

/-- How the elements of a map lie as values, and what they read as. -/
structure Elem (α : Type) where
  enc : α → Value
  dec : Value → Option α
  dat : α → DataW Unit
  decEnc : ∀ a, dec (enc a) = some a
  encDec : ∀ v a, dec v = some a → v = enc a
  inj : ∀ a b, dat a = dat b → a = b

variable {α : Type}

def Elem.R (E : Elem α) (v : Value) : Option (DataW Unit × List MemPlace) := (E.dec v).map fun a => (E.dat a, [])

theorem Elem.R_enc (E : Elem α) (a : α) : E.R (E.enc a) = some (E.dat a, []) := by simp [Elem.R, E.decEnc]
theorem Elem.R_inv (E : Elem α) {v : Value} {y : DataW Unit × List MemPlace} (h : E.R v = some y) : ∃ a, v = E.enc a ∧ y = (E.dat a, []) := by
  unfold Elem.R at h
  obtain ⟨a, h1, h2⟩ := Option.map_eq_some_iff.1 h
  exact ⟨a, E.encDec _ _ h1, h2.symm⟩

def lit (s : ByteArray) : Lit := .string s.data.toList

theorem lit_inj {s t : ByteArray} (h : lit s = lit t) : s = t := by
  unfold lit at h
  injection h with h
  cases s; cases t
  simp only at h
  congr 1
  exact Array.toList_inj.1 h
theorem lit_key (s : ByteArray) : WideAt.IsKeyLit (lit s) := trivial
theorem lit_same (s t : ByteArray) : (lit s).sameKey (lit t) = decide (s = t) := by
  by_cases h : s = t
  · subst h
    simp [WideAt.sameKey_self (lit_key s)]
  · rw [Maps.sameKey_ne (fun e => h (lit_inj e))]
    simp [h]

/-- The map in block b holds, at each key, what f says; it has n entries. -/
def MapIs (P : Program) (k : TypeId) (E : Elem α) (w : World) (b n : Nat) (f : ByteArray → Option α) : Prop :=
  ∃ D, w.ownsMap P k E.R b n D ∧ Maps.size D = n ∧ (∀ s, (f s).isSome = true → s.size ≤ maxLen) ∧
    ∀ s : ByteArray, s.size ≤ maxLen → Maps.has D (lit s) = (f s).isSome ∧ ∀ a, f s = some a → ∀ z, D.atKey (lit s) z = E.dat a

def put (f : ByteArray → Option α) (s : ByteArray) (a : α) : ByteArray → Option α := fun t => if t = s then some a else f t
def del (f : ByteArray → Option α) (s : ByteArray) : ByteArray → Option α := fun t => if t = s then none else f t
def putN (f : ByteArray → Option α) (s : ByteArray) (n : Nat) : Nat := if (f s).isSome then n else n + 1
def delN (f : ByteArray → Option α) (s : ByteArray) (n : Nat) : Nat := if (f s).isSome then n - 1 else n

section
variable {P : Program} {k : TypeId} {E : Elem α} {w : World} {b n : Nat} {f : ByteArray → Option α}

theorem owns_tight {H : Type} {R : Value → Option (DataW H × List MemPlace)} {D : DataW H} {m : Nat} (h : w.ownsMap P k R b m D) : w.ownsMap P k R b (Maps.size D) D := by
  obtain ⟨es, clock, hb, F, hs, rfl⟩ := h
  exact ⟨es, clock, hb, F, by simp [Maps.size, length_sorted], rfl⟩

theorem MapIs.made (P : Program) (k : TypeId) (E : Elem α) (w : World) : MapIs P k E (w.alloc (.map #[] 0)) w.heap.size 0 (fun _ => none) :=
  ⟨.map [], World.ownsMap_made w P k E.R, rfl, fun s h => by simp at h, fun s _ => ⟨rfl, fun a h => by cases h⟩⟩

theorem MapIs.lt (h : MapIs P k E w b n f) : b < w.heap.size := by
  obtain ⟨D, h, _⟩ := h
  exact h.lt

theorem MapIs.kept {w' : World} {row : Option Nat} (h : MapIs P k E w b n f) (hg : w.grownBy w' row) (hne : some b ≠ row) : MapIs P k E w' b n f := by
  obtain ⟨D, h, r⟩ := h
  exact ⟨D, h.kept hg hne, r⟩
theorem MapIs.below {w' : World} (h : MapIs P k E w b n f) (hb : Below w.heap.size w w') : MapIs P k E w' b n f :=
  h.kept (row := none) ⟨hb.os, hb.tape, hb.output, hb.size, fun i hi _ => hb.block i hi⟩ (by simp)
theorem MapIs.alloc (h : MapIs P k E w b n f) (o : Obj) : MapIs P k E (w.alloc o) b n f := h.kept (World.grownBy_alloc w o none) (by simp)
theorem MapIs.drew (h : MapIs P k E w b n f) : MapIs P k E w.drew b n f := h
theorem MapIs.drewN (h : MapIs P k E w b n f) (m : Nat) : MapIs P k E (w.drewN m) b n f := h
theorem MapIs.setCell (h : MapIs P k E w b n f) {a : Addr} (ha : b ≠ a.block) (u : Value) : MapIs P k E (w.setCell a u) b n f := by
  obtain ⟨D, h, r⟩ := h
  exact ⟨D, h.setCell ha u, r⟩
theorem MapIs.small (h : MapIs P k E w b n f) {s : ByteArray} (hs : (f s).isSome = true) : s.size ≤ maxLen := by
  obtain ⟨D, _, _, h, _⟩ := h
  exact h s hs

theorem MapIs.size_pos (h : MapIs P k E w b n f) {s : ByteArray} (hs : (f s).isSome = true) : 0 < n := by
  obtain ⟨D, h1, h2, h3, h4⟩ := h
  have h5 := (h4 s (h3 s hs)).1
  rw [hs] at h5
  obtain ⟨es, _, _, _, _, rfl⟩ := h1
  unfold Maps.has at h5
  unfold Maps.size at h2
  rcases hl : (es.toList.map (Go.WideElems.rg P k E.R)).foldr DataW.insert [] with _ | ⟨x, r⟩
  · rw [hl] at h5; simp at h5
  · rw [hl] at h2; simp at h2; omega

variable (K : Keyed P k)
include K

theorem MapIs.look {t e : TypeId} (h : MapIs P k E w b n f) (ht : P.underlying t = some (.map k e)) {z : α} (hz : (zeroValue e).run P w = .ok (E.enc z) w) (hk : P.underlying k = some .string)
    {s : ByteArray} (hs : s.size ≤ maxLen) :
    (Instr.lookup t (.map (some b)) (.string s) false).run P w = .ok (E.enc ((f s).getD z)) w ∧ (Instr.lookup t (.map (some b)) (.string s) true).run P w = .ok (.tuple #[E.enc ((f s).getD z), .bool (f s).isSome]) w := by
  obtain ⟨D, h1, _, _, h4⟩ := h
  have hkey : keyOf P k (.string s) = some (lit s) := keyOf_string_mk hk hs
  obtain ⟨h5, h6⟩ := h4 s hs
  obtain ⟨v, ps, hrun, hv⟩ := h1.lookup K ht hz (E.R_enc z) hkey
  obtain ⟨v', ps', hrun', hv'⟩ := h1.look_ok K ht hz (E.R_enc z) hkey
  have key : ∀ u us, E.R u = some (D.atKey (lit s) (E.dat z), us) → u = E.enc ((f s).getD z) := by
    intro u us hu
    obtain ⟨a, rfl, ha⟩ := E.R_inv hu
    have ha1 : D.atKey (lit s) (E.dat z) = E.dat a := (Prod.mk.inj ha).1
    cases hf : f s with
    | none =>
      rw [hf] at h5
      rw [atKey_of_not_has h5] at ha1
      rw [E.inj _ _ ha1]
      rfl
    | some c =>
      rw [h6 c hf] at ha1
      rw [E.inj _ _ ha1]
      rfl
  rw [key v ps hv] at hrun
  rw [key v' ps' hv', h5] at hrun'
  exact ⟨hrun, hrun'⟩

theorem MapIs.store {t e : TypeId} (h : MapIs P k E w b n f) (ht : P.underlying t = some (.map k e)) (hk : P.underlying k = some .string) (hn : n < maxLen) {s : ByteArray} (hs : s.size ≤ maxLen) (a : α) :
    ∃ w', (Instr.mapUpdate t (.map (some b)) (.string s) (E.enc a)).run P w = .ok () w' ∧ MapIs P k E w' b (putN f s n) (put f s a) ∧ w.grownBy w' (some b) ∧ w'.heap.size = w.heap.size := by
  obtain ⟨D, h1, h2, h3, h4⟩ := h
  have hkey : keyOf P k (.string s) = some (lit s) := keyOf_string_mk hk hs
  obtain ⟨w', hrun, hown, hturn⟩ := h1.store K ht hn hkey (E.R_enc a)
  have hT := h1.tidy K
  have hsz : Maps.size (D.put (lit s) (E.dat a)) = putN f s n := by
    rw [size_put hT, (h4 s hs).1, h2]
    rfl
  refine ⟨w', hrun, ⟨D.put (lit s) (E.dat a), ?_, hsz, ?_, ?_⟩, hturn.grown, ?_⟩
  · rw [← hsz]; exact owns_tight hown
  · intro t ht'
    unfold put at ht'
    split at ht'
    · rename_i e; rw [e]; exact hs
    · exact h3 t ht'
  · intro t ht'
    unfold put
    by_cases e : t = s
    · subst e
      rw [if_pos rfl, has_put_same hT.isMap (lit_key _)]
      exact ⟨rfl, fun c hc z => by cases hc; exact atKey_put_same hT.isMap (lit_key _) _ _⟩
    · have hne : lit t ≠ lit s := fun h => e (lit_inj h)
      rw [if_neg e, has_put_other hne]
      exact ⟨(h4 t ht').1, fun c hc z => by rw [atKey_put_other hne]; exact (h4 t ht').2 c hc z⟩
  · obtain ⟨_, _, _, _, _, rfl⟩ := hturn
    simp [ChangeMaps.setBlock]

theorem MapIs.drop {t e : TypeId} (h : MapIs P k E w b n f) (ht : P.underlying t = some (.map k e)) (hk : P.underlying k = some .string) {s : ByteArray} (hs : s.size ≤ maxLen) (ty : TypeId) :
    ∃ w', (Builtin.delete_ #[t, k] ty #[.map (some b), .string s]).run P w = .ok (.tuple #[]) w' ∧ MapIs P k E w' b (delN f s n) (del f s) ∧ w.grownBy w' (some b) ∧ w'.heap.size = w.heap.size := by
  obtain ⟨D, h1, h2, h3, h4⟩ := h
  have hkey : keyOf P k (.string s) = some (lit s) := keyOf_string_mk hk hs
  obtain ⟨w', hrun, hown, hturn⟩ := h1.drop K ht hkey ty
  have hT := h1.tidy K
  have hsz : Maps.size (D.del (lit s)) = delN f s n := by
    have := size_del (k := lit s) hT
    rw [(h4 s hs).1, h2] at this
    unfold delN
    split at this <;> rename_i h <;> simp [h] <;> omega
  refine ⟨w', hrun, ⟨D.del (lit s), ?_, hsz, ?_, ?_⟩, hturn.grown, ?_⟩
  · rw [← hsz]; exact owns_tight hown
  · intro t ht'
    unfold del at ht'
    split at ht'
    · simp at ht'
    · exact h3 t ht'
  · intro t ht'
    unfold del
    by_cases e : t = s
    · subst e
      rw [if_pos rfl, has_del_same]
      exact ⟨rfl, fun c hc z => by cases hc⟩
    · have hne : lit t ≠ lit s := fun h => e (lit_inj h)
      rw [if_neg e, has_del_other hne]
      exact ⟨(h4 t ht').1, fun c hc z => by rw [atKey_del_other hne]; exact (h4 t ht').2 c hc z⟩
  · obtain ⟨_, _, _, _, _, rfl⟩ := hturn
    simp [ChangeMaps.setBlock]

omit K in
theorem MapIs.len {t e : TypeId} (h : MapIs P k E w b n f) (ht : P.underlying t = some (.map k e)) (ty : TypeId) : (Builtin.len_ #[t] ty #[.map (some b)]).run P w = .ok (.int .i64 n) w := by
  obtain ⟨D, h1, h2, _⟩ := h
  rw [h1.len ht ty, h2]

end

/-! ### a region whose operations but the last ones only read, in the world's own spelling -/
section
variable {P : Program}
theorem region_tail {id : Nat} {Q : Exit → Act → World → Prop} {a : Act} {w : World} {l : List Oper} (n : Nat) (hm : P.follows .mixedOrders = true) (hB : Region.lexTailB .any l.toArray n = true)
    (h : wpStill P l.toArray w.drew (fun a' => wpList P l.toArray Q (l.drop n) a' w.drew) (l.take n) a) : (Code.region id l.toArray true).wp P Q a w :=
  wp_region_still_tail n hm hB h
end

/-! ### ranging -/
/-- A range over the map in block b is under way (its iterator: block r); 'left': is the entry at this key still to come? cnt: how many are. -/
def RangeIs (P : Program) (k : TypeId) (E : Elem α) (w : World) (b r n : Nat) (f : ByteArray → Option α) (left : ByteArray → Bool) (cnt : Nat) : Prop :=
  ∃ D lf, w.ranges P k E.R b r n D lf cnt ∧ Maps.size D = n ∧ (∀ s, (f s).isSome = true → s.size ≤ maxLen) ∧
    (∀ s : ByteArray, s.size ≤ maxLen → Maps.has D (lit s) = (f s).isSome ∧ ∀ a, f s = some a → ∀ z, D.atKey (lit s) z = E.dat a) ∧ ∀ s : ByteArray, s.size ≤ maxLen → left s = lf (lit s)

section
variable {P : Program} {k : TypeId} {E : Elem α} {w : World} {b r n cnt : Nat} {f : ByteArray → Option α} {left : ByteArray → Bool}

theorem RangeIs.map (h : RangeIs P k E w b r n f left cnt) : MapIs P k E w b n f := by
  obtain ⟨D, lf, h1, h2, h3, h4, _⟩ := h
  exact ⟨D, h1.owns, h2, h3, h4⟩
theorem RangeIs.left_eq (h : RangeIs P k E w b r n f left cnt) : w.rangeLeft b r = cnt := by
  obtain ⟨D, lf, h1, _⟩ := h
  exact h1.left_eq
theorem RangeIs.ne (h : RangeIs P k E w b r n f left cnt) : r ≠ b := by
  obtain ⟨D, lf, h1, _⟩ := h
  exact h1.ne
theorem RangeIs.lt (h : RangeIs P k E w b r n f left cnt) : r < w.heap.size := by
  obtain ⟨D, lf, h1, _⟩ := h
  exact h1.lt
theorem RangeIs.kept {w' : World} {row : Option Nat} (h : RangeIs P k E w b r n f left cnt) (hg : w.grownBy w' row) (hb : some b ≠ row) (hr : some r ≠ row) : RangeIs P k E w' b r n f left cnt := by
  obtain ⟨D, lf, h1, rest⟩ := h
  exact ⟨D, lf, h1.kept hg hb hr, rest⟩
theorem RangeIs.alloc (h : RangeIs P k E w b r n f left cnt) (o : Obj) : RangeIs P k E (w.alloc o) b r n f left cnt := h.kept (World.grownBy_alloc w o none) (by simp) (by simp)
theorem RangeIs.drew (h : RangeIs P k E w b r n f left cnt) : RangeIs P k E w.drew b r n f left cnt := h
theorem RangeIs.below {w' : World} (h : RangeIs P k E w b r n f left cnt) (hb : Below w.heap.size w w') : RangeIs P k E w' b r n f left cnt :=
  h.kept (row := none) ⟨hb.os, hb.tape, hb.output, hb.size, fun i hi _ => hb.block i hi⟩ (by simp) (by simp)

theorem MapIs.range (h : MapIs P k E w b n f) (K : Keyed P k) {t e : TypeId} (ht : P.underlying t = some (.map k e)) :
    ∃ w', (Instr.range t (.map (some b))).run P w = .ok (.pointer (some ⟨w.heap.size, 0, none⟩)) w' ∧ RangeIs P k E w' b w.heap.size n f (fun s => (f s).isSome) n ∧ w.grownBy w' none ∧ w'.heap.size = w.heap.size + 1 := by
  obtain ⟨D, h1, h2, h3, h4⟩ := h
  obtain ⟨w', hrun, hr, hg, hs⟩ := h1.range K ht
  rw [h2] at hr
  exact ⟨w', hrun, ⟨D, _, hr, h2, h3, h4, fun s hs => (h4 s hs).1.symm⟩, hg, hs⟩

theorem key_string (hk : P.underlying k = some .string) {key : Value} {kl : Lit} (h : keyOf P k key = some kl) : ∃ s : ByteArray, key = .string s ∧ kl = lit s ∧ s.size ≤ maxLen := by
  cases key <;> simp [keyOf, hk, mapKey] at h
  obtain ⟨h1, h2⟩ := h
  exact ⟨_, rfl, h2.symm, h1⟩

theorem RangeIs.next (h : RangeIs P k E w b r n f left cnt) (K : Keyed P k) (hk : P.underlying k = some .string) (hsome : ∀ s, left s = true → (f s).isSome = true) (ty : TypeId) :
    (cnt = 0 ∧ (∀ s, left s = false) ∧ (Instr.next (.pointer (some ⟨r, 0, none⟩)) false ty).run P w = .ok (.tuple #[.bool false]) w) ∨
    ∃ s a w' cnt', s.size ≤ maxLen ∧ left s = true ∧ f s = some a ∧ (Instr.next (.pointer (some ⟨r, 0, none⟩)) false ty).run P w = .ok (.tuple #[.bool true, .string s, E.enc a]) w' ∧
      RangeIs P k E w' b r n f (fun x => left x && !decide (x = s)) cnt' ∧ cnt' < cnt ∧ w.grownBy w' (some r) ∧ w'.heap.size = w.heap.size ∧ (Instr.entry (.pointer (some ⟨r, 0, none⟩))).run P w' = .ok (.tuple #[.string s, E.enc a]) w' := by
  obtain ⟨D, lf, h1, h2, h3, h4, h5⟩ := h
  rcases h1.next K ty with ⟨h0, hl, hrun⟩ | ⟨key, v, kl, y, w', cnt', hkey, hlk, hv, hat, hrun, hrg, hlt, hgr, hsz, hen⟩
  · refine .inl ⟨h0, fun s => ?_, hrun⟩
    cases hls : left s
    · rfl
    · rw [h5 s (h3 s (hsome s hls)), hl] at hls
      cases hls
  · obtain ⟨s, rfl, rfl, hs⟩ := key_string hk hkey
    obtain ⟨a, rfl, rfl⟩ := E.R_inv hv
    have hf : f s = some a := by
      have hh : Maps.has D (lit s) = true := has_true_of_atKey hat
      rw [(h4 s hs).1] at hh
      obtain ⟨c, hc⟩ := Option.isSome_iff_exists.1 hh
      have := (h4 s hs).2 c hc .nil
      rw [hat] at this
      rw [hc, E.inj _ _ this]
    refine .inr ⟨s, a, w', cnt', hs, (h5 s hs).trans hlk, hf, hrun, ⟨D, _, hrg, h2, h3, h4, fun x hx => ?_⟩, hlt, hgr, hsz, hen⟩
    simp only [h5 x hx, lit_same]

end

/-! ### at the operations, for the walk -/
section
variable {P : Program} (w : World) {ops : Array Oper} {rest : List Oper} {o : Oper} {a : Act} {Q : Exit → Act → World → Prop}

theorem wp_look (hg : o.guard = none) (m x : Operand) (t : TypeId) (hop : o.op = Op.lookup t m x false) {k e : TypeId} (E : Elem α) (K : Keyed P k) (hk : P.underlying k = some .string) (ht : P.underlying t = some (.map k e))
    (z : α) (hz : (zeroValue e).run P w = .ok (E.enc z) w) (b n : Nat) (f : ByteArray → Option α) (hm : a.eval m = .map (some b)) (h : MapIs P k E w b n f) (s : ByteArray) (hx : a.eval x = .string s) (hs : s.size ≤ maxLen)
    (hK : wpList P ops Q rest (a.put o.dst (E.enc ((f s).getD z))) w) : wpList P ops Q (o :: rest) a w := by
  refine wpList_plain hg fun K' hK' => ?_
  obtain ⟨hrun, _⟩ := h.look K ht hz hk hs
  unfold Oper.wp
  simp [execOp, hop, hm, hx, hrun, Result.andThen]
  exact hK' _ _ hK

theorem wp_look_ok (hg : o.guard = none) (m x : Operand) (t : TypeId) (hop : o.op = Op.lookup t m x true) {k e : TypeId} (E : Elem α) (K : Keyed P k) (hk : P.underlying k = some .string) (ht : P.underlying t = some (.map k e))
    (z : α) (hz : (zeroValue e).run P w = .ok (E.enc z) w) (b n : Nat) (f : ByteArray → Option α) (hm : a.eval m = .map (some b)) (h : MapIs P k E w b n f) (s : ByteArray) (hx : a.eval x = .string s) (hs : s.size ≤ maxLen)
    (hK : wpList P ops Q rest (a.put o.dst (.tuple #[E.enc ((f s).getD z), .bool (f s).isSome])) w) : wpList P ops Q (o :: rest) a w := by
  refine wpList_plain hg fun K' hK' => ?_
  obtain ⟨_, hrun⟩ := h.look K ht hz hk hs
  unfold Oper.wp
  simp [execOp, hop, hm, hx, hrun, Result.andThen]
  exact hK' _ _ hK

theorem wp_store (hg : o.guard = none) (m x v : Operand) (t : TypeId) (hop : o.op = Op.mapUpdate t m x v) {k e : TypeId} (E : Elem α) (K : Keyed P k) (hk : P.underlying k = some .string) (ht : P.underlying t = some (.map k e))
    (b n : Nat) (f : ByteArray → Option α) (hm : a.eval m = .map (some b)) (h : MapIs P k E w b n f) (hn : n < maxLen) (s : ByteArray) (hx : a.eval x = .string s) (hs : s.size ≤ maxLen) (c : α) (hv : a.eval v = E.enc c)
    (hK : ∀ w', MapIs P k E w' b (putN f s n) (put f s c) → w.grownBy w' (some b) → w'.heap.size = w.heap.size → wpList P ops Q rest (a.put o.dst undef) w') : wpList P ops Q (o :: rest) a w := by
  refine wpList_plain hg fun K' hK' => ?_
  obtain ⟨w', hrun, h1, h2, h3⟩ := h.store K ht hk hn hs c
  unfold Oper.wp
  simp [execOp, hop, hm, hx, hv, hrun, Result.andThen]
  exact hK' _ _ (hK w' h1 h2 h3)

theorem wp_drop (hg : o.guard = none) (m x : Operand) (t k : TypeId) (hop : o.op = Op.call { callee := Callee.builtin Builtin.delete, args := #[m, x], argTypes := #[t, k] }) {e : TypeId} (E : Elem α) (K : Keyed P k) (hk : P.underlying k = some .string) (ht : P.underlying t = some (.map k e))
    (b n : Nat) (f : ByteArray → Option α) (hm : a.eval m = .map (some b)) (h : MapIs P k E w b n f) (s : ByteArray) (hx : a.eval x = .string s) (hs : s.size ≤ maxLen)
    (hK : ∀ w', MapIs P k E w' b (delN f s n) (del f s) → w.grownBy w' (some b) → w'.heap.size = w.heap.size → wpList P ops Q rest (a.put o.dst (.tuple #[])) w') : wpList P ops Q (o :: rest) a w := by
  refine wpList_plain hg fun K' hK' => ?_
  obtain ⟨w', hrun, h1, h2, h3⟩ := h.drop K ht hk hs o.type
  unfold Oper.wp
  simp [execOp, hop, resolve, invoke, builtin, hm, hx, hrun, Result.andThen]
  exact hK' _ _ (hK w' h1 h2 h3)

theorem wp_range (hg : o.guard = none) (m : Operand) (t : TypeId) (hop : o.op = Op.range t m) {k e : TypeId} (E : Elem α) (K : Keyed P k) (ht : P.underlying t = some (.map k e))
    (b n : Nat) (f : ByteArray → Option α) (hm : a.eval m = .map (some b)) (h : MapIs P k E w b n f)
    (hK : ∀ w', RangeIs P k E w' b w.heap.size n f (fun s => (f s).isSome) n → w.grownBy w' none → w'.heap.size = w.heap.size + 1 → wpList P ops Q rest (a.put o.dst (.pointer (some ⟨w.heap.size, 0, none⟩))) w') :
    wpList P ops Q (o :: rest) a w := by
  refine wpList_plain hg fun K' hK' => ?_
  obtain ⟨w', hrun, h1, h2, h3⟩ := h.range K ht
  unfold Oper.wp
  simp [execOp, hop, hm, hrun, Result.andThen]
  exact hK' _ _ (hK w' h1 h2 h3)

theorem wp_next (hg : o.guard = none) (it : Operand) (hop : o.op = Op.next it false) {k : TypeId} (E : Elem α) (K : Keyed P k) (hk : P.underlying k = some .string)
    (b r n : Nat) (f : ByteArray → Option α) (left : ByteArray → Bool) (cnt : Nat) (hit : a.eval it = .pointer (some ⟨r, 0, none⟩)) (h : RangeIs P k E w b r n f left cnt) (hsome : ∀ s, left s = true → (f s).isSome = true)
    (hDone : cnt = 0 → (∀ s, left s = false) → wpList P ops Q rest (a.put o.dst (.tuple #[.bool false])) w)
    (hMore : ∀ (s : ByteArray) (c : α) (w' : World) (cnt' : Nat), s.size ≤ maxLen → left s = true → f s = some c → RangeIs P k E w' b r n f (fun x => left x && !decide (x = s)) cnt' → cnt' < cnt → w.grownBy w' (some r) → w'.heap.size = w.heap.size →
      (Instr.entry (.pointer (some ⟨r, 0, none⟩))).run P w' = .ok (.tuple #[.string s, E.enc c]) w' → wpList P ops Q rest (a.put o.dst (.tuple #[.bool true, .string s, E.enc c])) w') :
    wpList P ops Q (o :: rest) a w := by
  refine wpList_plain hg fun K' hK' => ?_
  unfold Oper.wp
  rcases h.next K hk hsome o.type with ⟨h0, hl, hrun⟩ | ⟨s, c, w', cnt', hs, hls, hf, hrun, hrg, hlt, hgr, hsz, hen⟩
  · simp [execOp, hop, hit, hrun, Result.andThen]
    exact hK' _ _ (hDone h0 hl)
  · simp [execOp, hop, hit, hrun, Result.andThen]
    exact hK' _ _ (hMore s c w' cnt' hs hls hf hrg hlt hgr hsz hen)
end

end Go.Proofs.YtmionoghpjpbaaaDoorM
