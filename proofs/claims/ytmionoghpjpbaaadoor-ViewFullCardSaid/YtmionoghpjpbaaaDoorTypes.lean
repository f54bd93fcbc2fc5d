/-
  The structs of api as Lean structures, as the printed words have them, and as elements of maps.
-/
import Derived.Test.YtmionoghpjpbaaaDoorPrA1
import Derived.Test.YtmionoghpjpbaaaDoorMap
import Derived.Test.YtmionoghpjpbaaaDoorProg
import Derived.KernelRfl
namespace Go.Proofs.YtmionoghpjpbaaaDoor
open Go.RowKit Go.Proofs.YtmionoghpjpbaaaDoorW.PrintWords Go.Proofs.YtmionoghpjpbaaaDoorW.PrintLast Go.Proofs.YtmionoghpjpbaaaDoorW.PrintMore

set_option linter.unusedVariables false
set_option linter.unusedSimpArgs false

theorem bytes_ext {s t : ByteArray} (h : s.data.toList = t.data.toList) : s = t := by
  cases s; cases t
  congr 1
  exact Array.toList_inj.1 h

abbrev Write := Pr.S44
abbrev zWrite := Pr.z44
abbrev kWrite := Pr.k44
theorem kWrite_open {w : World} {x : Write} {cs : List Value} (h : kWrite.K w x cs) : cs = [.string x.f0, .bool x.f1, .string x.f2] := Pr.k44_open h
theorem kWrite_openM {w : World} {base : Nat} {ok : Nat → Prop} {x : Write} {cs : List Value} (h : kWrite.M w base ok x cs) : cs = [.string x.f0, .bool x.f1, .string x.f2] := Pr.k44_openM h
theorem kWrite_mk (w : World) (x : Write) : kWrite.K w x [.string x.f0, .bool x.f1, .string x.f2] := Pr.k44_mk w x
theorem kWrite_mkM (w : World) (base : Nat) (ok : Nat → Prop) (x : Write) : kWrite.M w base ok x [.string x.f0, .bool x.f1, .string x.f2] := Pr.k44_mkM w base ok x
abbrev rdWrite := Pr.rd_T44
theorem atWrite {w : World} {A : Option Addr} {n : Nat} {xs : List Write} (h : Kd.C kWrite w A n xs) (i : Int) (h0 : 0 ≤ i) (h1 : i < n) : ∃ ad, A = some ad ∧ w.cell? (ad.add (i.toNat * 3)) = some (.string (rdWrite xs i).f0) ∧ w.cell? ⟨(ad.add (i.toNat * 3)).block, (ad.add (i.toNat * 3)).off + 1, none⟩ = some (.bool (rdWrite xs i).f1) ∧ w.cell? ⟨(ad.add (i.toNat * 3)).block, (ad.add (i.toNat * 3)).off + 2, none⟩ = some (.string (rdWrite xs i).f2) := Pr.at_T44 h i h0 h1
theorem rdWrite_get {xs : List Write} {i : Int} (h : i.toNat < xs.length) : rdWrite xs i = xs[i.toNat] := by
  show xs.getD i.toNat zWrite = _
  rw [List.getD_eq_getElem?_getD, List.getElem?_eq_getElem h]
  rfl
theorem rdWrite_eq (xs : List Write) (i : Int) : rdWrite xs i = xs.getD i.toNat zWrite := rfl
theorem zWrite_eq : zWrite = ⟨(⟨#[]⟩ : ByteArray), false, (⟨#[]⟩ : ByteArray)⟩ := rfl
/-- Write as a map's element. -/
def eWrite : YtmionoghpjpbaaaDoorM.Elem Write where
  enc x := .agg #[.string x.f0, .bool x.f1, .string x.f2]
  dec v := match v with | .agg ⟨[.string a0, .bool a1, .string a2]⟩ => some ⟨a0, a1, a2⟩ | _ => none
  dat x := .agg [.lit (.string x.f0.data.toList), .lit (.bool x.f1), .lit (.string x.f2.data.toList)]
  decEnc x := rfl
  encDec v x h := by
    split at h
    · cases h; rfl
    · cases h
  inj x y h := by
    obtain ⟨a0, a1, a2⟩ := x
    obtain ⟨b0, b1, b2⟩ := y
    simp only [DataW.agg.injEq, List.cons.injEq, DataW.lit.injEq, Lit.string.injEq, Lit.bool.injEq, Lit.int.injEq, true_and, and_true] at h
    obtain ⟨h0, h1, h2⟩ := h
    rw [bytes_ext h0, h1, bytes_ext h2]

abbrev Answer := Pr.S101
abbrev zAnswer := Pr.z101
abbrev kAnswer := Pr.k101
theorem kAnswer_open {w : World} {x : Answer} {cs : List Value} (h : kAnswer.K w x cs) : cs = [.string x.f0, .bool x.f1, .string x.f2, .int .u32 x.f3] := Pr.k101_open h
theorem kAnswer_openM {w : World} {base : Nat} {ok : Nat → Prop} {x : Answer} {cs : List Value} (h : kAnswer.M w base ok x cs) : cs = [.string x.f0, .bool x.f1, .string x.f2, .int .u32 x.f3] := Pr.k101_openM h
theorem kAnswer_mk (w : World) (x : Answer) : kAnswer.K w x [.string x.f0, .bool x.f1, .string x.f2, .int .u32 x.f3] := Pr.k101_mk w x
theorem kAnswer_mkM (w : World) (base : Nat) (ok : Nat → Prop) (x : Answer) : kAnswer.M w base ok x [.string x.f0, .bool x.f1, .string x.f2, .int .u32 x.f3] := Pr.k101_mkM w base ok x
abbrev rdAnswer := Pr.rd_T101
theorem atAnswer {w : World} {A : Option Addr} {n : Nat} {xs : List Answer} (h : Kd.C kAnswer w A n xs) (i : Int) (h0 : 0 ≤ i) (h1 : i < n) : ∃ ad, A = some ad ∧ w.cell? (ad.add (i.toNat * 4)) = some (.string (rdAnswer xs i).f0) ∧ w.cell? ⟨(ad.add (i.toNat * 4)).block, (ad.add (i.toNat * 4)).off + 1, none⟩ = some (.bool (rdAnswer xs i).f1) ∧ w.cell? ⟨(ad.add (i.toNat * 4)).block, (ad.add (i.toNat * 4)).off + 2, none⟩ = some (.string (rdAnswer xs i).f2) ∧ w.cell? ⟨(ad.add (i.toNat * 4)).block, (ad.add (i.toNat * 4)).off + 3, none⟩ = some (.int .u32 (rdAnswer xs i).f3) := Pr.at_T101 h i h0 h1
theorem rdAnswer_get {xs : List Answer} {i : Int} (h : i.toNat < xs.length) : rdAnswer xs i = xs[i.toNat] := by
  show xs.getD i.toNat zAnswer = _
  rw [List.getD_eq_getElem?_getD, List.getElem?_eq_getElem h]
  rfl
theorem rdAnswer_eq (xs : List Answer) (i : Int) : rdAnswer xs i = xs.getD i.toNat zAnswer := rfl
theorem zAnswer_eq : zAnswer = ⟨(⟨#[]⟩ : ByteArray), false, (⟨#[]⟩ : ByteArray), (0 : Int)⟩ := rfl
/-- Answer as a map's element. -/
def eAnswer : YtmionoghpjpbaaaDoorM.Elem Answer where
  enc x := .agg #[.string x.f0, .bool x.f1, .string x.f2, .int .u32 x.f3]
  dec v := match v with | .agg ⟨[.string a0, .bool a1, .string a2, .int .u32 a3]⟩ => some ⟨a0, a1, a2, a3⟩ | _ => none
  dat x := .agg [.lit (.string x.f0.data.toList), .lit (.bool x.f1), .lit (.string x.f2.data.toList), .lit (.int .u32 x.f3)]
  decEnc x := rfl
  encDec v x h := by
    split at h
    · cases h; rfl
    · cases h
  inj x y h := by
    obtain ⟨a0, a1, a2, a3⟩ := x
    obtain ⟨b0, b1, b2, b3⟩ := y
    simp only [DataW.agg.injEq, List.cons.injEq, DataW.lit.injEq, Lit.string.injEq, Lit.bool.injEq, Lit.int.injEq, true_and, and_true] at h
    obtain ⟨h0, h1, h2, h3⟩ := h
    rw [bytes_ext h0, h1, bytes_ext h2, h3]

abbrev Cell := Pr.S57
abbrev zCell := Pr.z57
abbrev kCell := Pr.k57
theorem kCell_open {w : World} {x : Cell} {cs : List Value} (h : kCell.K w x cs) : cs = [.string x.f0, .int .u32 x.f1, .int .u32 x.f2] := Pr.k57_open h
theorem kCell_openM {w : World} {base : Nat} {ok : Nat → Prop} {x : Cell} {cs : List Value} (h : kCell.M w base ok x cs) : cs = [.string x.f0, .int .u32 x.f1, .int .u32 x.f2] := Pr.k57_openM h
theorem kCell_mk (w : World) (x : Cell) : kCell.K w x [.string x.f0, .int .u32 x.f1, .int .u32 x.f2] := Pr.k57_mk w x
theorem kCell_mkM (w : World) (base : Nat) (ok : Nat → Prop) (x : Cell) : kCell.M w base ok x [.string x.f0, .int .u32 x.f1, .int .u32 x.f2] := Pr.k57_mkM w base ok x
abbrev rdCell := Pr.rd_T57
theorem atCell {w : World} {A : Option Addr} {n : Nat} {xs : List Cell} (h : Kd.C kCell w A n xs) (i : Int) (h0 : 0 ≤ i) (h1 : i < n) : ∃ ad, A = some ad ∧ w.cell? (ad.add (i.toNat * 3)) = some (.string (rdCell xs i).f0) ∧ w.cell? ⟨(ad.add (i.toNat * 3)).block, (ad.add (i.toNat * 3)).off + 1, none⟩ = some (.int .u32 (rdCell xs i).f1) ∧ w.cell? ⟨(ad.add (i.toNat * 3)).block, (ad.add (i.toNat * 3)).off + 2, none⟩ = some (.int .u32 (rdCell xs i).f2) := Pr.at_T57 h i h0 h1
theorem rdCell_get {xs : List Cell} {i : Int} (h : i.toNat < xs.length) : rdCell xs i = xs[i.toNat] := by
  show xs.getD i.toNat zCell = _
  rw [List.getD_eq_getElem?_getD, List.getElem?_eq_getElem h]
  rfl
theorem rdCell_eq (xs : List Cell) (i : Int) : rdCell xs i = xs.getD i.toNat zCell := rfl
theorem zCell_eq : zCell = ⟨(⟨#[]⟩ : ByteArray), (0 : Int), (0 : Int)⟩ := rfl
/-- Cell as a map's element. -/
def eCell : YtmionoghpjpbaaaDoorM.Elem Cell where
  enc x := .agg #[.string x.f0, .int .u32 x.f1, .int .u32 x.f2]
  dec v := match v with | .agg ⟨[.string a0, .int .u32 a1, .int .u32 a2]⟩ => some ⟨a0, a1, a2⟩ | _ => none
  dat x := .agg [.lit (.string x.f0.data.toList), .lit (.int .u32 x.f1), .lit (.int .u32 x.f2)]
  decEnc x := rfl
  encDec v x h := by
    split at h
    · cases h; rfl
    · cases h
  inj x y h := by
    obtain ⟨a0, a1, a2⟩ := x
    obtain ⟨b0, b1, b2⟩ := y
    simp only [DataW.agg.injEq, List.cons.injEq, DataW.lit.injEq, Lit.string.injEq, Lit.bool.injEq, Lit.int.injEq, true_and, and_true] at h
    obtain ⟨h0, h1, h2⟩ := h
    rw [bytes_ext h0, h1, h2]

/-- A row that is written out. -/
theorem C_lit {α : Type} (d : Kd α) (w : World) (e : TypeId) (xs : List α) (cs : List Value) (hr : Reps (d.K (w.alloc (.cells cs.toArray e))) d.sz xs cs) (hm : xs.length ≤ maxLen) :
    d.C (w.alloc (.cells cs.toArray e)) (some ⟨w.heap.size, 0, none⟩) xs.length xs := by
  have h := World.ownsRow_lit (base := 0) (e := e) (size := d.sz) w cs.toArray xs.length (Nat.zero_le _) hm (by simpa using hr.1)
  obtain ⟨A, c, e1, h1⟩ := own_reads_row h (by simpa using hr) rfl
  cases e1
  exact h1

theorem reps_strs (w : World) (xs : List ByteArray) : Reps (Kd.string.K w) Kd.string.sz xs (xs.map Value.string) := by
  refine ⟨by simp [Kd.string, Kd.scalar], fun j p hp => ?_⟩
  obtain ⟨h1, h2⟩ := List.getElem?_eq_some_iff.1 hp
  show _ = [Value.string p]
  have e : (Kd.string).sz = 1 := rfl
  rw [e, Nat.mul_one, List.drop_eq_getElem_cons (by simpa using h1)]
  simp [h2]
theorem C_strs (w : World) (e : TypeId) (xs : List ByteArray) (hm : xs.length ≤ maxLen) : Kd.string.C (w.alloc (.cells (xs.map Value.string).toArray e)) (some ⟨w.heap.size, 0, none⟩) xs.length xs :=
  C_lit Kd.string w e xs _ (reps_strs _ xs) hm

theorem eqvWrite (d : Nat) (w : World) (x0 y0 : ByteArray) (x1 y1 : Bool) (x2 y2 : ByteArray) :
    (Op.equalIn (d + 2) 44 (.agg #[.string x0, .bool x1, .string x2]) (.agg #[.string y0, .bool y1, .string y2])).run Tryd.prog w = .ok (x0.toList == y0.toList && ((x1 == y1) && (x2.toList == y2.toList))) w := by
  refine eqA_of Tryd.underlying44 (by kernel_rfl) ?_
  refine eqf_cons (by rfl) (by go_simp; rfl) (by go_simp; rfl) (by go_simp) ?_
  refine eqf_cons (by rfl) (by go_simp; rfl) (by go_simp; rfl) (by go_simp) ?_
  exact eqf_last (by rfl) (by go_simp; rfl) (by go_simp; rfl) (by go_simp)

theorem eqvAnswer (d : Nat) (w : World) (x0 y0 : ByteArray) (x1 y1 : Bool) (x2 y2 : ByteArray) (x3 y3 : Int) :
    (Op.equalIn (d + 2) 101 (.agg #[.string x0, .bool x1, .string x2, .int .u32 x3]) (.agg #[.string y0, .bool y1, .string y2, .int .u32 y3])).run Tryd.prog w = .ok (x0.toList == y0.toList && ((x1 == y1) && (x2.toList == y2.toList && (x3 == y3)))) w := by
  refine eqA_of Tryd.underlying101 (by kernel_rfl) ?_
  refine eqf_cons (by rfl) (by go_simp; rfl) (by go_simp; rfl) (by go_simp) ?_
  refine eqf_cons (by rfl) (by go_simp; rfl) (by go_simp; rfl) (by go_simp) ?_
  refine eqf_cons (by rfl) (by go_simp; rfl) (by go_simp; rfl) (by go_simp) ?_
  exact eqf_last (by rfl) (by go_simp; rfl) (by go_simp; rfl) (by go_simp)

theorem eqvCell (d : Nat) (w : World) (x0 y0 : ByteArray) (x1 y1 : Int) (x2 y2 : Int) :
    (Op.equalIn (d + 2) 57 (.agg #[.string x0, .int .u32 x1, .int .u32 x2]) (.agg #[.string y0, .int .u32 y1, .int .u32 y2])).run Tryd.prog w = .ok (x0.toList == y0.toList && ((x1 == y1) && (x2 == y2))) w := by
  refine eqA_of Tryd.underlying57 (by kernel_rfl) ?_
  refine eqf_cons (by rfl) (by go_simp; rfl) (by go_simp; rfl) (by go_simp) ?_
  refine eqf_cons (by rfl) (by go_simp; rfl) (by go_simp; rfl) (by go_simp) ?_
  exact eqf_last (by rfl) (by go_simp; rfl) (by go_simp; rfl) (by go_simp)

theorem infoOfWrite : (Tryd.prog.info? 44).map (fun i => (i.zero, i.size, i.bytes)) = some (some (.agg #[.string ⟨#[]⟩, .bool false, .string ⟨#[]⟩]), 3, 40) := by kernel_rfl
/-- append(v, x). -/
theorem appWrite {ops : Array Oper} {rest : List Oper} {o : Oper} {a : Act} {Q : Exit → Act → World → Prop} {w0 W : World} (base : Nat) (hgd : o.guard = none) (s x : Operand) (B : Nat)
    (ho : o.op = .call { callee := .builtin .append, args := #[s, x], argTypes := #[32, 32] }) (v : Value) (xs : List Write) (p : Write) (hs : a.eval s = v) (hx : a.eval x = .slice (some ⟨B, 0, none⟩) 1 1) (hB : B = W.heap.size)
    (HO : Kd.R kWrite 44 W base (fun _ => True) v xs) (HB : Below base w0 W) (hbase : base ≤ W.heap.size) (hl : xs.length ≤ 1000000000)
    (h : ∀ v1 w1, Kd.R kWrite 44 w1 base (fun _ => True) v1 (xs ++ [p]) → Below base w0 w1 → W.grownBy w1 v.ownBlock → (v1.ownBlock = v.ownBlock ∨ ∃ b, v1.ownBlock = some b ∧ W.heap.size ≤ b) → wpList Tryd.prog ops Q rest (a.put o.dst v1) w1) :
    wpList Tryd.prog ops Q (o :: rest) a (W.alloc (.cells #[.string p.f0, .bool p.f1, .string p.f2] 44)) := by
  subst hB
  exact Kd.R_append kWrite base hgd s x 32 44 (.agg #[.string ⟨#[]⟩, .bool false, .string ⟨#[]⟩]) 40 ho Tryd.underlying32 infoOfWrite rfl (by decide) (by omega) v xs p [.string p.f0, .bool p.f1, .string p.f2] (fun _ => True) (fun _ => False) hs hx (kWrite_mkM _ _ _ p) (fun _ hk => hk.elim) (fun _ _ => trivial) HO HB hbase (by omega) h

theorem infoOfAnswer : (Tryd.prog.info? 101).map (fun i => (i.zero, i.size, i.bytes)) = some (some (.agg #[.string ⟨#[]⟩, .bool false, .string ⟨#[]⟩, .int .u32 0]), 4, 48) := by kernel_rfl
/-- append(v, x). -/
theorem appAnswer {ops : Array Oper} {rest : List Oper} {o : Oper} {a : Act} {Q : Exit → Act → World → Prop} {w0 W : World} (base : Nat) (hgd : o.guard = none) (s x : Operand) (B : Nat)
    (ho : o.op = .call { callee := .builtin .append, args := #[s, x], argTypes := #[27, 27] }) (v : Value) (xs : List Answer) (p : Answer) (hs : a.eval s = v) (hx : a.eval x = .slice (some ⟨B, 0, none⟩) 1 1) (hB : B = W.heap.size)
    (HO : Kd.R kAnswer 101 W base (fun _ => True) v xs) (HB : Below base w0 W) (hbase : base ≤ W.heap.size) (hl : xs.length ≤ 1000000000)
    (h : ∀ v1 w1, Kd.R kAnswer 101 w1 base (fun _ => True) v1 (xs ++ [p]) → Below base w0 w1 → W.grownBy w1 v.ownBlock → (v1.ownBlock = v.ownBlock ∨ ∃ b, v1.ownBlock = some b ∧ W.heap.size ≤ b) → wpList Tryd.prog ops Q rest (a.put o.dst v1) w1) :
    wpList Tryd.prog ops Q (o :: rest) a (W.alloc (.cells #[.string p.f0, .bool p.f1, .string p.f2, .int .u32 p.f3] 101)) := by
  subst hB
  exact Kd.R_append kAnswer base hgd s x 27 101 (.agg #[.string ⟨#[]⟩, .bool false, .string ⟨#[]⟩, .int .u32 0]) 48 ho Tryd.underlying27 infoOfAnswer rfl (by decide) (by omega) v xs p [.string p.f0, .bool p.f1, .string p.f2, .int .u32 p.f3] (fun _ => True) (fun _ => False) hs hx (kAnswer_mkM _ _ _ p) (fun _ hk => hk.elim) (fun _ _ => trivial) HO HB hbase (by omega) h

end Go.Proofs.YtmionoghpjpbaaaDoor
