/-
  Arguments of type api.Write, api.Answer opened.
-/
import Derived.Test.YtmionoghpjpbaaaDoorOpen
namespace Go.Proofs.YtmionoghpjpbaaaDoor
open Go.RowKit Go.Proofs.YtmionoghpjpbaaaDoorW.PrintWords Go.Proofs.YtmionoghpjpbaaaDoorW.PrintLast Go.Proofs.YtmionoghpjpbaaaDoorW.PrintMore
open Go.Proofs.YtmionoghpjpbaaaDoorM
open Go.ChangeShapes Go.WideShapes
set_option linter.unusedVariables false
set_option linter.unusedSimpArgs false

def okWrite (x : Write) : Prop := x.f0.size ≤ reachBytes ∧ True ∧ x.f2.size ≤ reachBytes
set_option maxRecDepth 100000 in
theorem opens_Write : Opens Tryd.prog 44 kWrite okWrite := by
  intro H enc w base spare held fuel cs x h hw
  obtain ⟨xs, n, _, rfl, hl, hxl, hf⟩ := DataW.trod_struct Tryd.underlying44 h
  have c : Tryd.prog.cellsOf 44 = 3 := by kernel_rfl
  rw [c] at hl
  match cs, hl, xs, hxl, hf, hw with
  | [u0, u1, u2], _, [y0, y1, y2], _, hf, hw =>
    have h0 : DataW.trod enc Tryd.prog w base spare held n 9 (([u0, u1, u2].drop 0).take (Tryd.prog.cellsOf 9)) = some y0 := hf 0 _ rfl
    rw [show Tryd.prog.cellsOf 9 = 1 by kernel_rfl] at h0
    have g0 : DataW.trod enc Tryd.prog w base spare held n 9 [u0] = some y0 := h0
    have w0 : ∀ n ∈ y0.1.weights Tryd.prog 9, n ≤ reachBytes := fun n hn => hw n (by
      simp only [DataW.weights, Tryd.underlying44]
      simp only [List.map_cons, List.map_nil, DataW.weightsEach, List.mem_append]
      exact .inl hn)
    obtain ⟨a0, k0, o0⟩ := (opens_string Tryd.underlying9) g0 w0
    have h1 : DataW.trod enc Tryd.prog w base spare held n 4 (([u0, u1, u2].drop 1).take (Tryd.prog.cellsOf 4)) = some y1 := hf 1 _ rfl
    rw [show Tryd.prog.cellsOf 4 = 1 by kernel_rfl] at h1
    have g1 : DataW.trod enc Tryd.prog w base spare held n 4 [u1] = some y1 := h1
    have w1 : ∀ n ∈ y1.1.weights Tryd.prog 4, n ≤ reachBytes := fun n hn => hw n (by
      simp only [DataW.weights, Tryd.underlying44]
      simp only [List.map_cons, List.map_nil, DataW.weightsEach, List.mem_append]
      exact .inr (.inl hn))
    obtain ⟨a1, k1, o1⟩ := (opens_bool Tryd.underlying4) g1 w1
    have h2 : DataW.trod enc Tryd.prog w base spare held n 9 (([u0, u1, u2].drop 2).take (Tryd.prog.cellsOf 9)) = some y2 := hf 2 _ rfl
    rw [show Tryd.prog.cellsOf 9 = 1 by kernel_rfl] at h2
    have g2 : DataW.trod enc Tryd.prog w base spare held n 9 [u2] = some y2 := h2
    have w2 : ∀ n ∈ y2.1.weights Tryd.prog 9, n ≤ reachBytes := fun n hn => hw n (by
      simp only [DataW.weights, Tryd.underlying44]
      simp only [List.map_cons, List.map_nil, DataW.weightsEach, List.mem_append]
      exact .inr (.inr (.inl hn)))
    obtain ⟨a2, k2, o2⟩ := (opens_string Tryd.underlying9) g2 w2
    exact ⟨⟨a0, a1, a2⟩, ⟨[u0], [u1, u2], rfl, k0, ⟨[u1], [u2], rfl, k1, k2⟩⟩, ⟨o0, o1, o2⟩⟩

def okAnswer (x : Answer) : Prop := x.f0.size ≤ reachBytes ∧ True ∧ x.f2.size ≤ reachBytes ∧ (Lit.int .u32 x.f3).wf = true
set_option maxRecDepth 100000 in
theorem opens_Answer : Opens Tryd.prog 101 kAnswer okAnswer := by
  intro H enc w base spare held fuel cs x h hw
  obtain ⟨xs, n, _, rfl, hl, hxl, hf⟩ := DataW.trod_struct Tryd.underlying101 h
  have c : Tryd.prog.cellsOf 101 = 4 := by kernel_rfl
  rw [c] at hl
  match cs, hl, xs, hxl, hf, hw with
  | [u0, u1, u2, u3], _, [y0, y1, y2, y3], _, hf, hw =>
    have h0 : DataW.trod enc Tryd.prog w base spare held n 9 (([u0, u1, u2, u3].drop 0).take (Tryd.prog.cellsOf 9)) = some y0 := hf 0 _ rfl
    rw [show Tryd.prog.cellsOf 9 = 1 by kernel_rfl] at h0
    have g0 : DataW.trod enc Tryd.prog w base spare held n 9 [u0] = some y0 := h0
    have w0 : ∀ n ∈ y0.1.weights Tryd.prog 9, n ≤ reachBytes := fun n hn => hw n (by
      simp only [DataW.weights, Tryd.underlying101]
      simp only [List.map_cons, List.map_nil, DataW.weightsEach, List.mem_append]
      exact .inl hn)
    obtain ⟨a0, k0, o0⟩ := (opens_string Tryd.underlying9) g0 w0
    have h1 : DataW.trod enc Tryd.prog w base spare held n 4 (([u0, u1, u2, u3].drop 1).take (Tryd.prog.cellsOf 4)) = some y1 := hf 1 _ rfl
    rw [show Tryd.prog.cellsOf 4 = 1 by kernel_rfl] at h1
    have g1 : DataW.trod enc Tryd.prog w base spare held n 4 [u1] = some y1 := h1
    have w1 : ∀ n ∈ y1.1.weights Tryd.prog 4, n ≤ reachBytes := fun n hn => hw n (by
      simp only [DataW.weights, Tryd.underlying101]
      simp only [List.map_cons, List.map_nil, DataW.weightsEach, List.mem_append]
      exact .inr (.inl hn))
    obtain ⟨a1, k1, o1⟩ := (opens_bool Tryd.underlying4) g1 w1
    have h2 : DataW.trod enc Tryd.prog w base spare held n 9 (([u0, u1, u2, u3].drop 2).take (Tryd.prog.cellsOf 9)) = some y2 := hf 2 _ rfl
    rw [show Tryd.prog.cellsOf 9 = 1 by kernel_rfl] at h2
    have g2 : DataW.trod enc Tryd.prog w base spare held n 9 [u2] = some y2 := h2
    have w2 : ∀ n ∈ y2.1.weights Tryd.prog 9, n ≤ reachBytes := fun n hn => hw n (by
      simp only [DataW.weights, Tryd.underlying101]
      simp only [List.map_cons, List.map_nil, DataW.weightsEach, List.mem_append]
      exact .inr (.inr (.inl hn)))
    obtain ⟨a2, k2, o2⟩ := (opens_string Tryd.underlying9) g2 w2
    have h3 : DataW.trod enc Tryd.prog w base spare held n 30 (([u0, u1, u2, u3].drop 3).take (Tryd.prog.cellsOf 30)) = some y3 := hf 3 _ rfl
    rw [show Tryd.prog.cellsOf 30 = 1 by kernel_rfl] at h3
    have g3 : DataW.trod enc Tryd.prog w base spare held n 30 [u3] = some y3 := h3
    have w3 : ∀ n ∈ y3.1.weights Tryd.prog 30, n ≤ reachBytes := fun n hn => hw n (by
      simp only [DataW.weights, Tryd.underlying101]
      simp only [List.map_cons, List.map_nil, DataW.weightsEach, List.mem_append]
      exact .inr (.inr (.inr (.inl hn))))
    obtain ⟨a3, k3, o3⟩ := (opens_int Tryd.underlying30) g3 w3
    exact ⟨⟨a0, a1, a2, a3⟩, ⟨[u0], [u1, u2, u3], rfl, k0, ⟨[u1], [u2, u3], rfl, k1, ⟨[u2], [u3], rfl, k2, k3⟩⟩⟩, ⟨o0, o1, o2, o3⟩⟩

end Go.Proofs.YtmionoghpjpbaaaDoor
