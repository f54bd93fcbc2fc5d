/-
  cachepotlaw15.Step: read, and opened.
-/
import Derived.Test.YtmionoghpjpbaaaDoorOpenW
namespace Go.Proofs.YtmionoghpjpbaaaDoor
open Go.RowKit Go.Proofs.YtmionoghpjpbaaaDoorW.PrintWords Go.Proofs.YtmionoghpjpbaaaDoorW.PrintLast Go.Proofs.YtmionoghpjpbaaaDoorW.PrintMore
open Go.Proofs.YtmionoghpjpbaaaDoorM
open Go.ChangeShapes Go.WideShapes
set_option linter.unusedVariables false
set_option linter.unusedSimpArgs false

structure Step15 where
  f0 : Int
  f1 : Int
  f2 : Int
  f3 : List Raw
  f4 : List Write
  f5 : Bool
def zStep15 : Step15 := ⟨(0 : Int), (0 : Int), (0 : Int), [], [], false⟩
def kStep15 : Kd Step15 := Kd.iso (Kd.pair (Kd.int .i64) (Kd.pair (Kd.int .u32) (Kd.pair (Kd.int .u32) (Kd.pair (Kd.slice 86 kRaw) (Kd.pair (Kd.slice 44 kWrite) Kd.bool))))) (fun x : Step15 => (x.f0, x.f1, x.f2, x.f3, x.f4, x.f5))
theorem kStep15_open {w : World} {x : Step15} {cs : List Value} (h : kStep15.K w x cs) : ∃ A3 c3, ∃ A4 c4, cs = [.int .i64 x.f0, .int .u32 x.f1, .int .u32 x.f2, .slice A3 x.f3.length c3, .slice A4 x.f4.length c4, .bool x.f5] ∧ (x.f3.length ≤ c3 ∧ Kd.C kRaw w A3 x.f3.length x.f3) ∧ (x.f4.length ≤ c4 ∧ Kd.C kWrite w A4 x.f4.length x.f4) := by
  obtain ⟨_, _, rfl, rfl, ⟨_, _, rfl, rfl, ⟨_, _, rfl, rfl, ⟨_, _, rfl, ⟨A3, c3, rfl, l3, h3⟩, ⟨_, _, rfl, ⟨A4, c4, rfl, l4, h4⟩, rfl⟩⟩⟩⟩⟩ := h
  exact ⟨A3, c3, A4, c4, rfl, ⟨l3, h3⟩, ⟨l4, h4⟩⟩
def rdStep15 (xs : List Step15) (i : Int) : Step15 := xs.getD i.toNat zStep15
theorem rdStep15_get {xs : List Step15} {i : Int} (h : i.toNat < xs.length) : rdStep15 xs i = xs[i.toNat] := by
  show xs.getD i.toNat zStep15 = _
  rw [List.getD_eq_getElem?_getD, List.getElem?_eq_getElem h]
  rfl
theorem atStep15 {w : World} {A : Option Addr} {n : Nat} {xs : List Step15} (h : Kd.C kStep15 w A n xs) (i : Int) (h0 : 0 ≤ i) (h1 : i < n) : ∃ ad, A = some ad ∧ ∃ A3 c3, ∃ A4 c4, w.cell? (ad.add (i.toNat * 6)) = some (.int .i64 (rdStep15 xs i).f0) ∧ w.cell? ⟨(ad.add (i.toNat * 6)).block, (ad.add (i.toNat * 6)).off + 1, none⟩ = some (.int .u32 (rdStep15 xs i).f1) ∧ w.cell? ⟨(ad.add (i.toNat * 6)).block, (ad.add (i.toNat * 6)).off + 2, none⟩ = some (.int .u32 (rdStep15 xs i).f2) ∧ w.cell? ⟨(ad.add (i.toNat * 6)).block, (ad.add (i.toNat * 6)).off + 3, none⟩ = some (.slice A3 (rdStep15 xs i).f3.length c3) ∧ w.cell? ⟨(ad.add (i.toNat * 6)).block, (ad.add (i.toNat * 6)).off + 4, none⟩ = some (.slice A4 (rdStep15 xs i).f4.length c4) ∧ w.cell? ⟨(ad.add (i.toNat * 6)).block, (ad.add (i.toNat * 6)).off + 5, none⟩ = some (.bool (rdStep15 xs i).f5) ∧ ((rdStep15 xs i).f3.length ≤ c3 ∧ Kd.C kRaw w A3 (rdStep15 xs i).f3.length (rdStep15 xs i).f3) ∧ ((rdStep15 xs i).f4.length ≤ c4 ∧ Kd.C kWrite w A4 (rdStep15 xs i).f4.length (rdStep15 xs i).f4) := by
  obtain ⟨ad, c, e, _, hK, hc0⟩ := Kd.C_get h zStep15 i h0 h1
  have hc : ∀ j u, c[j]? = some u → w.cell? (ad.add (i.toNat * 6 + j)) = some u := hc0
  obtain ⟨A3, c3, A4, c4, rfl, hS3, hS4⟩ := kStep15_open hK
  exact ⟨ad, e, A3, c3, A4, c4, hc 0 _ rfl, by rw [← add_field _ _ 1 (by omega)]; exact hc 1 _ rfl, by rw [← add_field _ _ 2 (by omega)]; exact hc 2 _ rfl, by rw [← add_field _ _ 3 (by omega)]; exact hc 3 _ rfl, by rw [← add_field _ _ 4 (by omega)]; exact hc 4 _ rfl, by rw [← add_field _ _ 5 (by omega)]; exact hc 5 _ rfl, hS3, hS4⟩
def okStep15 (x : Step15) : Prop := (Lit.int .i64 x.f0).wf = true ∧ (Lit.int .u32 x.f1).wf = true ∧ (Lit.int .u32 x.f2).wf = true ∧ (∀ r ∈ x.f3, (fun r : Raw => r.f2.size ≤ reachBytes) r) ∧ (∀ r ∈ x.f4, (fun r : Write => okWrite r) r) ∧ True
set_option maxRecDepth 100000 in
theorem opens_Step15 : Opens Tryd.prog 71 kStep15 okStep15 := by
  intro H enc w base spare held fuel cs x h hw
  obtain ⟨xs, n, _, rfl, hl, hxl, hf⟩ := DataW.trod_struct Tryd.underlying71 h
  have c : Tryd.prog.cellsOf 71 = 6 := by kernel_rfl
  rw [c] at hl
  match cs, hl, xs, hxl, hf, hw with
  | [u0, u1, u2, u3, u4, u5], _, [y0, y1, y2, y3, y4, y5], _, hf, hw =>
    have h0 : DataW.trod enc Tryd.prog w base spare held n 3 (([u0, u1, u2, u3, u4, u5].drop 0).take (Tryd.prog.cellsOf 3)) = some y0 := hf 0 _ rfl
    rw [show Tryd.prog.cellsOf 3 = 1 by kernel_rfl] at h0
    have g0 : DataW.trod enc Tryd.prog w base spare held n 3 [u0] = some y0 := h0
    have w0 : ∀ n ∈ y0.1.weights Tryd.prog 3, n ≤ reachBytes := fun n hn => hw n (by
      simp only [DataW.weights, Tryd.underlying71]
      simp only [List.map_cons, List.map_nil, DataW.weightsEach, List.mem_append]
      exact .inl hn)
    obtain ⟨a0, k0, o0⟩ := (opens_int Tryd.underlying3) g0 w0
    have h1 : DataW.trod enc Tryd.prog w base spare held n 30 (([u0, u1, u2, u3, u4, u5].drop 1).take (Tryd.prog.cellsOf 30)) = some y1 := hf 1 _ rfl
    rw [show Tryd.prog.cellsOf 30 = 1 by kernel_rfl] at h1
    have g1 : DataW.trod enc Tryd.prog w base spare held n 30 [u1] = some y1 := h1
    have w1 : ∀ n ∈ y1.1.weights Tryd.prog 30, n ≤ reachBytes := fun n hn => hw n (by
      simp only [DataW.weights, Tryd.underlying71]
      simp only [List.map_cons, List.map_nil, DataW.weightsEach, List.mem_append]
      exact .inr (.inl hn))
    obtain ⟨a1, k1, o1⟩ := (opens_int Tryd.underlying30) g1 w1
    have h2 : DataW.trod enc Tryd.prog w base spare held n 30 (([u0, u1, u2, u3, u4, u5].drop 2).take (Tryd.prog.cellsOf 30)) = some y2 := hf 2 _ rfl
    rw [show Tryd.prog.cellsOf 30 = 1 by kernel_rfl] at h2
    have g2 : DataW.trod enc Tryd.prog w base spare held n 30 [u2] = some y2 := h2
    have w2 : ∀ n ∈ y2.1.weights Tryd.prog 30, n ≤ reachBytes := fun n hn => hw n (by
      simp only [DataW.weights, Tryd.underlying71]
      simp only [List.map_cons, List.map_nil, DataW.weightsEach, List.mem_append]
      exact .inr (.inr (.inl hn)))
    obtain ⟨a2, k2, o2⟩ := (opens_int Tryd.underlying30) g2 w2
    have h3 : DataW.trod enc Tryd.prog w base spare held n 31 (([u0, u1, u2, u3, u4, u5].drop 3).take (Tryd.prog.cellsOf 31)) = some y3 := hf 3 _ rfl
    rw [show Tryd.prog.cellsOf 31 = 1 by kernel_rfl] at h3
    have g3 : DataW.trod enc Tryd.prog w base spare held n 31 [u3] = some y3 := h3
    have w3 : ∀ n ∈ y3.1.weights Tryd.prog 31, n ≤ reachBytes := fun n hn => hw n (by
      simp only [DataW.weights, Tryd.underlying71]
      simp only [List.map_cons, List.map_nil, DataW.weightsEach, List.mem_append]
      exact .inr (.inr (.inr (.inl hn))))
    obtain ⟨a3, k3, o3⟩ := (opens_slice 86 Tryd.underlying31 (by kernel_rfl) opens_raw) g3 w3
    have h4 : DataW.trod enc Tryd.prog w base spare held n 32 (([u0, u1, u2, u3, u4, u5].drop 4).take (Tryd.prog.cellsOf 32)) = some y4 := hf 4 _ rfl
    rw [show Tryd.prog.cellsOf 32 = 1 by kernel_rfl] at h4
    have g4 : DataW.trod enc Tryd.prog w base spare held n 32 [u4] = some y4 := h4
    have w4 : ∀ n ∈ y4.1.weights Tryd.prog 32, n ≤ reachBytes := fun n hn => hw n (by
      simp only [DataW.weights, Tryd.underlying71]
      simp only [List.map_cons, List.map_nil, DataW.weightsEach, List.mem_append]
      exact .inr (.inr (.inr (.inr (.inl hn)))))
    obtain ⟨a4, k4, o4⟩ := (opens_slice 44 Tryd.underlying32 (by kernel_rfl) opens_Write) g4 w4
    have h5 : DataW.trod enc Tryd.prog w base spare held n 4 (([u0, u1, u2, u3, u4, u5].drop 5).take (Tryd.prog.cellsOf 4)) = some y5 := hf 5 _ rfl
    rw [show Tryd.prog.cellsOf 4 = 1 by kernel_rfl] at h5
    have g5 : DataW.trod enc Tryd.prog w base spare held n 4 [u5] = some y5 := h5
    have w5 : ∀ n ∈ y5.1.weights Tryd.prog 4, n ≤ reachBytes := fun n hn => hw n (by
      simp only [DataW.weights, Tryd.underlying71]
      simp only [List.map_cons, List.map_nil, DataW.weightsEach, List.mem_append]
      exact .inr (.inr (.inr (.inr (.inr (.inl hn))))))
    obtain ⟨a5, k5, o5⟩ := (opens_bool Tryd.underlying4) g5 w5
    exact ⟨⟨a0, a1, a2, a3, a4, a5⟩, ⟨[u0], [u1, u2, u3, u4, u5], rfl, k0, ⟨[u1], [u2, u3, u4, u5], rfl, k1, ⟨[u2], [u3, u4, u5], rfl, k2, ⟨[u3], [u4, u5], rfl, k3, ⟨[u4], [u5], rfl, k4, k5⟩⟩⟩⟩⟩, ⟨o0, o1, o2, o3, o4, o5⟩⟩

end Go.Proofs.YtmionoghpjpbaaaDoor
