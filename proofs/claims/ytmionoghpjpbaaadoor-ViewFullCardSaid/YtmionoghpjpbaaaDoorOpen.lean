/-
  Arguments opened into the printed kinds: slices of structs, slices of slices. The variable 'names'.
-/
import Derived.Test.YtmionoghpjpbaaaDoorWrites
import Derived.Test.YtmionoghpjpbaaaDoorRows
import Derived.OpenShut
import Derived.Deep.Slices
import Derived.Deep.Strs
import Derived.SizedLaws
import Derived.LaidMore
namespace Go.Proofs.YtmionoghpjpbaaaDoor
open Go.RowKit Go.Proofs.YtmionoghpjpbaaaDoorW.PrintWords Go.Proofs.YtmionoghpjpbaaaDoorW.PrintLast Go.Proofs.YtmionoghpjpbaaaDoorW.PrintMore
open Go.Proofs.YtmionoghpjpbaaaDoorM
open Go.ChangeShapes Go.WideShapes
set_option linter.unusedVariables false
set_option linter.unusedSimpArgs false

/-- What a datum of type t reads as, in the words of a kind; ok: what is known of it besides. -/
def Opens {α : Type} (P : Program) (t : TypeId) (d : Kd α) (ok : α → Prop) : Prop :=
  ∀ {H : Type} {enc : TypeId × Value → H} {w : World} {base : Nat} {spare : Nat → Bool} {held : Bool} {fuel : Nat} {cs : List Value} {x : DataW H × List MemPlace},
    DataW.trod enc P w base spare held fuel t cs = some x → (∀ n ∈ x.1.weights P t, n ≤ reachBytes) → ∃ a : α, d.K w a cs ∧ ok a

theorem opens_string {P : Program} {t : TypeId} (ht : P.underlying t = some .string) : Opens P t Kd.string (fun s => s.size ≤ reachBytes) := by
  intro H enc w base spare held fuel cs x h hw
  obtain ⟨s, rfl, rfl, _⟩ := DataW.trod_string ht h
  refine ⟨s, rfl, ?_⟩
  have := hw s.data.toList.length (by simp [DataW.weights])
  simpa using this
theorem opens_int {P : Program} {t : TypeId} {k : IntKind} (ht : P.underlying t = some (.int k)) : Opens P t (Kd.int k) (fun n => (Lit.int k n).wf = true) := by
  intro H enc w base spare held fuel cs x h hw
  obtain ⟨n, rfl, rfl, hn⟩ := DataW.trod_int ht h
  exact ⟨n, rfl, hn⟩
theorem opens_bool {P : Program} {t : TypeId} (ht : P.underlying t = some .bool) : Opens P t Kd.bool (fun _ => True) := by
  intro H enc w base spare held fuel cs x h hw
  obtain ⟨n, rfl, rfl⟩ := DataW.trod_bool ht h
  exact ⟨n, rfl, trivial⟩

theorem weights_all {H : Type} {P : Program} {e : TypeId} : ∀ {l : List (DataW H)} {d : DataW H}, d ∈ l → ∀ n ∈ d.weights P e, n ∈ DataW.weightsAll P e l
  | a :: l, d, hd, n, hn => by
    unfold DataW.weightsAll
    rcases List.mem_cons.1 hd with rfl | hd
    · exact List.mem_append.2 (.inl hn)
    · exact List.mem_append.2 (.inr (weights_all hd n hn))

theorem list_of {α : Type} {Q : Nat → α → Prop} : ∀ (n : Nat), (∀ i, i < n → ∃ a, Q i a) → ∃ l : List α, l.length = n ∧ ∀ (i : Nat) (h : i < l.length), Q i l[i]
  | 0, _ => ⟨[], rfl, fun i h => absurd h (by simp)⟩
  | n + 1, h => by
    obtain ⟨l, hl, hq⟩ := list_of n fun i hi => h i (by omega)
    obtain ⟨a, ha⟩ := h n (by omega)
    refine ⟨l ++ [a], by simp [hl], fun i hi => ?_⟩
    rw [List.getElem_append]
    split
    · exact hq i _
    · have : i = n := by simp at hi; omega
      subst this
      simpa [hl] using ha

theorem opens_slice {α : Type} {P : Program} {t e : TypeId} {d : Kd α} {ok : α → Prop} (e' : Nat) (ht : P.underlying t = some (.slice e)) (hsz : P.cellsOf e = d.sz) (hd : Opens P e d ok) : Opens P t (Kd.slice e' d) (fun l => ∀ a ∈ l, ok a) := by
  intro H enc w base spare held fuel cs x h hw
  rcases Go.Deep.open_slice ht h with ⟨rfl, rfl⟩ | ⟨a, len, cap, m, n, D, Pl, rfl, hb, hl, hm, hme, rfl, hel⟩
  · exact ⟨[], ⟨none, 0, rfl, Nat.le_refl _, ⟨rfl, by simp, fun h => absurd h (by simp)⟩⟩, by simp⟩
  · have hlm : len ≤ m := by rw [hme]; split <;> omega
    have hwD : ∀ i, i < len → ∀ n ∈ (D i).weights P e, n ≤ reachBytes := fun i hi n hn => hw n (by
      simp only [DataW.weights, ht]
      exact List.mem_cons_of_mem _ (List.mem_append.2 (.inl (weights_all (List.mem_map.2 ⟨i, List.mem_range.2 hi, rfl⟩) n hn))))
    have hex : ∀ i, i < len → ∃ y : α, ok y ∧ ∃ c, c.length = d.sz ∧ d.K w y c ∧ ∀ k u, c[k]? = some u → w.cell? (a.add (i * d.sz + k)) = some u := fun i hi => by
      obtain ⟨cs', h1, h2⟩ := hel i (by omega)
      obtain ⟨y, h3, h4⟩ := hd h2 (hwD i hi)
      rw [hsz] at h1
      obtain ⟨_, h5, h6⟩ := World.cells?_some h1
      refine ⟨y, h4, cs', h5, h3, fun k u hk => ?_⟩
      obtain ⟨hkl, hku⟩ := List.getElem?_eq_some_iff.1 hk
      rw [← add_add, h6 k (by omega), hk]
    obtain ⟨l, hll, hq⟩ := list_of len hex
    refine ⟨l, ⟨some a, cap, by rw [hll], by omega, ⟨rfl, by simp only [maxLen] at hm; omega, fun _ => ⟨a, rfl, fun j p hj => ?_⟩⟩⟩, fun y hy => ?_⟩
    · obtain ⟨hjl, rfl⟩ := List.getElem?_eq_some_iff.1 hj
      exact (hq j hjl).2
    · obtain ⟨j, hj, rfl⟩ := List.getElem_of_mem hy
      exact (hq j hj).1

theorem three {α : Type} {l : List α} (h : l.length = 3) : ∃ a b c, l = [a, b, c] := by
  match l, h with
  | [a, b, c], _ => exact ⟨a, b, c, rfl⟩
set_option maxRecDepth 100000 in
theorem opens_raw : Opens Tryd.prog 86 kRaw (fun x => x.f2.size ≤ reachBytes) := by
  intro H enc w base spare held fuel cs x h hw
  obtain ⟨y0, y1, y2, n, rfl, hl, h0, h1, h2⟩ := Go.Deep.trod_struct3 Tryd.underlying86 h
  have hw2 : ∀ n ∈ y2.1.weights Tryd.prog 9, n ≤ reachBytes := fun n hn => hw n (by
    simp only [DataW.weights, Tryd.underlying86]
    simp only [List.map_cons, List.map_nil, DataW.weightsEach, List.mem_append]
    exact .inr (.inr (.inl hn)))
  obtain ⟨n0, e0, _, _⟩ := DataW.trod_int Tryd.underlying3 h0
  obtain ⟨b1, e1, _⟩ := DataW.trod_bool Tryd.underlying4 h1
  obtain ⟨s2, k2, o2⟩ := opens_string Tryd.underlying9 h2 hw2
  have c : Tryd.prog.cellsOf 86 = 3 := by kernel_rfl
  have ci : Tryd.prog.cellsOf 3 = 1 := by kernel_rfl
  have cb : Tryd.prog.cellsOf 4 = 1 := by kernel_rfl
  have cst : Tryd.prog.cellsOf 9 = 1 := by kernel_rfl
  rw [c] at hl
  obtain ⟨u0, u1, u2, rfl⟩ := three hl
  have k2' : _ = [Value.string s2] := k2
  rw [ci] at e0
  rw [cb] at e1
  rw [cst] at k2'
  have e0' : [u0] = [Value.int .i64 n0] := e0
  have e1' : [u1] = [Value.bool b1] := e1
  have e2' : [u2] = [Value.string s2] := k2'
  cases e0'
  cases e1'
  cases e2'
  exact ⟨⟨n0, b1, s2⟩, Pr.k86_mk w ⟨n0, b1, s2⟩, o2⟩

set_option maxRecDepth 100000 in
/-- The row's condition on the variable names. -/
theorem names_of {W : World} {rest : List (String × DataW Unit)} (h : laidMet Tryd.prog (("cachepot/cachepothand.names", Rows.laid_cachepot_cachepothand_names) :: rest) W) : Names W := by
  obtain ⟨ps, ⟨g0, t0, cs0, f0, p0, q0, hg0, ht0, hv0, hd0, _⟩, _, _⟩ := h
  obtain rfl := Option.some.inj ((show Tryd.prog.globalNamed "cachepot/cachepothand.names" = some 0 by kernel_rfl).symm.trans hg0)
  obtain rfl := Option.some.inj ((show (Tryd.prog.globals[0]?).map (·.type) = some 140 by kernel_rfl).symm.trans ht0)
  obtain ⟨xs, m, _, hx, hlen, hn, hel⟩ := DataW.trod_array Tryd.underlying140 hd0
  have cst : Tryd.prog.cellsOf 9 = 1 := by kernel_rfl
  have hmap : nameL.map (fun s => (DataW.lit (.string s.data.toList) : DataW Unit)) = xs.map (·.1) := by
    have h1 := congrArg Prod.fst hx
    have h2 : (DataW.agg (nameL.map (fun s => (DataW.lit (.string s.data.toList) : DataW Unit))) : DataW Unit) = .agg (xs.map (·.1)) := h1
    injection h2
  intro i hi
  rw [World.var?_cell hg0 hv0 i]
  have hxi : i < xs.length := by omega
  have h1 := hel i hi
  rw [cst, Nat.mul_one, List.getElem?_eq_getElem hxi] at h1
  obtain ⟨s, e1, e2, _⟩ := DataW.trod_string Tryd.underlying9 h1
  have h3 : (xs.map (·.1))[i]? = some (.lit (.string s.data.toList)) := by
    rw [List.getElem?_map, List.getElem?_eq_getElem hxi, Option.map_some, e2]
  rw [← hmap, List.getElem?_map, List.getElem?_eq_getElem (show i < nameL.length by simpa [nameL] using hi), Option.map_some] at h3
  injection h3 with h3
  injection h3 with h3
  injection h3 with h3
  have h4 : nameAt i = s := by
    unfold nameAt
    rw [List.getD_eq_getElem?_getD, List.getElem?_eq_getElem (show i < nameL.length by simpa [nameL] using hi)]
    exact bytes_ext h3
  rw [h4]
  have h5 : (cs0.toList.drop i).take 1 = [.string s] := e1
  have h6 := congrArg (fun l => l[0]?) h5
  simpa using h6
end Go.Proofs.YtmionoghpjpbaaaDoor
