/-
  Lists of elements by rising keys against functions from keys to elements. Plain.
-/
import Derived.Test.YtmionoghpjpbaaaDoorKSorted
namespace Go.Proofs.YtmionoghpjpbaaaDoorM
section
variable {α : Type} {key : α → ByteArray} {f : ByteArray → Option α} {L : List α}

/-- The list holds just what f says, by rising keys. -/
structure Lists (key : α → ByteArray) (f : ByteArray → Option α) (L : List α) : Prop where
  rises : Rises (L.map key)
  get : ∀ k c, f k = some c ↔ c ∈ L ∧ key c = k

theorem Lists.nil (key : α → ByteArray) : Lists key (fun _ => none) [] := ⟨List.Pairwise.nil, fun k c => by simp⟩

theorem less_mem {k : ByteArray} {c : α} : c ∈ (L.filter fun c => !decide (key c = k)) ↔ c ∈ L ∧ key c ≠ k := by
  rw [List.mem_filter]
  simp
theorem Lists.delL (h : Lists key f L) (k : ByteArray) : Lists key (del f k) (L.filter fun c => !decide (key c = k)) := by
  refine ⟨List.Pairwise.sublist ((List.filter_sublist).map key) h.rises, fun t c => ?_⟩
  rw [less_mem]
  unfold del
  by_cases e : t = k
  · rw [if_pos e]
    constructor
    · intro h; cases h
    · rintro ⟨⟨_, h1⟩, h2⟩; exact absurd (h2.trans e) h1
  · rw [if_neg e, h.get t c]
    constructor
    · rintro ⟨h1, h2⟩; exact ⟨⟨h1, fun h3 => e (h2.symm.trans h3)⟩, h2⟩
    · rintro ⟨⟨h1, _⟩, h2⟩; exact ⟨h1, h2⟩

theorem insert_memA {R : List α} {a x : α} {i : Nat} : x ∈ R.take i ++ [a] ++ R.drop i ↔ x ∈ R ∨ x = a := by
  rw [List.mem_append, List.mem_append, List.mem_singleton]
  constructor
  · rintro ((h | h) | h)
    · exact .inl (List.mem_of_mem_take h)
    · exact .inr h
    · exact .inl (List.mem_of_mem_drop h)
  · rintro (h | h)
    · rw [← List.take_append_drop i R] at h
      rcases List.mem_append.1 h with h | h
      · exact .inl (.inl h)
      · exact .inr h
    · exact .inl (.inr h)

theorem Lists.putL (h : Lists key f L) (a : α) {R : List α} (hR : R = L.filter fun c => !decide (key c = key a)) {i : Nat} (hi : i ≤ R.length)
    (h1 : ∀ j, (hj : j < i) → ltF (key (R[j]'(by omega))) (key a) = true) (h2 : ∀ hj : i < R.length, ltF (key R[i]) (key a) = false) :
    Lists key (put f (key a) a) (R.take i ++ [a] ++ R.drop i) := by
  have hd := h.delL (key a)
  rw [← hR] at hd
  have hne : ∀ c ∈ R, key c ≠ key a := fun c hc => by rw [hR] at hc; exact (less_mem.1 hc).2
  refine ⟨?_, fun t c => ?_⟩
  · have := insert_rises (out := R.map key) hd.rises (s := key a) (k := i) (by simpa using hi) (fun j hj => by simpa using h1 j hj) (fun hj => by
      have hj' : i < R.length := by simpa using hj
      rw [List.getElem_map]
      exact ⟨h2 hj', hne _ (List.getElem_mem _)⟩)
    simpa [List.map_append, List.map_take, List.map_drop] using this
  · rw [insert_memA]
    unfold put
    by_cases e : t = key a
    · rw [if_pos e]
      constructor
      · intro h; cases h; exact ⟨.inr rfl, e.symm⟩
      · rintro ⟨h3 | h3, h4⟩
        · exact absurd (h4.trans e) (hne c h3)
        · rw [h3]
    · rw [if_neg e]
      have h3 := hd.get t c
      unfold del at h3
      rw [if_neg e] at h3
      rw [h3]
      constructor
      · rintro ⟨h4, h5⟩; exact ⟨.inl h4, h5⟩
      · rintro ⟨h4 | h4, h5⟩
        · exact ⟨h4, h5⟩
        · subst h4; exact absurd h5.symm e

theorem Lists.keysL (h : Lists key f L) {p : α → Bool} {out : List ByteArray} (hr : Rises out) (hm : ∀ s, s ∈ out ↔ ∃ c, f s = some c ∧ p c = true) : out = (L.filter p).map key := by
  refine Rises.unique hr (List.Pairwise.sublist ((List.filter_sublist).map key) h.rises) fun s => (hm s).trans ?_
  rw [List.mem_map]
  constructor
  · rintro ⟨c, h1, h2⟩
    obtain ⟨h3, h4⟩ := (h.get s c).1 h1
    exact ⟨c, List.mem_filter.2 ⟨h3, h2⟩, h4⟩
  · rintro ⟨c, h1, h2⟩
    obtain ⟨h3, h4⟩ := List.mem_filter.1 h1
    exact ⟨c, (h.get s c).2 ⟨h3, h2⟩, h4⟩

/-- The last element of a key; z: of none. -/
def seekL (key : α → ByteArray) (k : ByteArray) (L : List α) (z : α) : α := L.foldl (fun a c => if key c = k then c else a) z
theorem seekL_snoc (k : ByteArray) (L : List α) (c z : α) : seekL key k (L ++ [c]) z = if key c = k then c else seekL key k L z := by
  unfold seekL
  rw [List.foldl_append]
  rfl
theorem seekL_none (k : ByteArray) : ∀ (L : List α) (z : α), (∀ c ∈ L, key c ≠ k) → seekL key k L z = z
  | [], z, _ => rfl
  | c :: L, z, h => by
    show seekL key k L (if key c = k then c else z) = z
    rw [if_neg (h c (by simp))]
    exact seekL_none k L z fun x hx => h x (List.mem_cons_of_mem _ hx)
theorem seekL_some (k : ByteArray) (d : α) : ∀ (L : List α) (z : α), (∀ c ∈ L, key c = k → c = d) → ((∃ c ∈ L, key c = k) ∨ z = d) → seekL key k L z = d
  | [], z, _, h => by
    rcases h with ⟨c, hc, _⟩ | h
    · cases hc
    · exact h
  | c :: L, z, hu, h => by
    show seekL key k L (if key c = k then c else z) = d
    refine seekL_some k d L _ (fun x hx => hu x (List.mem_cons_of_mem _ hx)) ?_
    by_cases e : key c = k
    · rw [if_pos e]; exact .inr (hu c (by simp) e)
    · rw [if_neg e]
      rcases h with ⟨x, hx, hk⟩ | h
      · rcases List.mem_cons.1 hx with rfl | hx
        · exact absurd hk e
        · exact .inl ⟨x, hx, hk⟩
      · exact .inr h
theorem Lists.seek (h : Lists key f L) (k : ByteArray) (z : α) : seekL key k L z = (f k).getD z := by
  cases hf : f k with
  | none => exact seekL_none k L z fun c hc e => by rw [(h.get k c).2 ⟨hc, e⟩] at hf; cases hf
  | some d =>
    obtain ⟨h1, h2⟩ := (h.get k d).1 hf
    refine seekL_some k d L z (fun c hc e => ?_) (.inl ⟨d, h1, h2⟩)
    have := (h.get k c).2 ⟨hc, e⟩
    rw [hf] at this
    exact (Option.some.inj this).symm
theorem Lists.nodup (h : Lists key f L) : (L.map key).Nodup := h.rises.nodup
theorem Lists.mem (h : Lists key f L) (k : ByteArray) : k ∈ L.map key ↔ (f k).isSome = true := by
  rw [List.mem_map, Option.isSome_iff_exists]
  constructor
  · rintro ⟨c, h1, h2⟩; exact ⟨c, (h.get k c).2 ⟨h1, h2⟩⟩
  · rintro ⟨c, h1⟩; exact ⟨c, (h.get k c).1 h1⟩
/-- How many, from the i-th on, stand ahead of a text. -/
theorem ahead_stop {R : List α} {s : ByteArray} {i : Nat} (h : ∀ j, (hj : j < i) → (hl : j < R.length) → ltF (key R[j]) s = true) (x : Nat) (hx : x = i) (hl : x < R.length) (ha : ltF (key R[x]) s = true) :
    ∀ j, (hj : j < x + 1) → (hl : j < R.length) → ltF (key R[j]) s = true := by
  intro j hj hl'
  by_cases e : j = x
  · subst e; exact ha
  · exact h j (by omega) hl'
end
end Go.Proofs.YtmionoghpjpbaaaDoorM
