/-
  Functions of the translation as Lean functions, each with the proof that the code comes to it: written by the kit's print (print.py) for this seat, one namespace for all laws; merged by prall.py, parted by prsplit.py.
-/
import Derived.Test.YtmionoghpjpbaaaDoorProg
import Derived.Below
import Derived.Deep.Draws
import Derived.Deep.AppendLies
import Derived.Maps.AppendAt
import Derived.OwnWalk
import Derived.Laws.BytesArg
import Derived.Laws.MakeOwn
import Derived.Laws.OwnMore
import Derived.Deep.OwnRows
import Derived.Tactics
import Derived.Lib.ConvBytes
import Derived.Laws.Slices
import Derived.WalkKit
import Derived.KernelRfl
import Derived.RowKit3
import Derived.Deep.LoopGhost
import Derived.Deep.QuietTactic
import Derived.BigQuiet
import Derived.WideLaws
import Derived.Deep.DeepCutAuto
import Derived.Deep.CutBlock
import Derived.Deep.RegionHeld3
import Derived.Laws.Rows
import Derived.Lib.AppendStr
import Derived.ArgAppend
import Derived.Laws.IdiomCopy
import Derived.OrdersHeld
import Derived.Laws.BitsLemmas
import Derived.RowKit
import Derived.Test.YtmionoghpjpbaaaDoorWWords
import Derived.Test.YtmionoghpjpbaaaDoorWLast
import Derived.Test.YtmionoghpjpbaaaDoorWTab
import Derived.Test.YtmionoghpjpbaaaDoorWFour
import Derived.Test.YtmionoghpjpbaaaDoorWQPut
import Derived.Test.YtmionoghpjpbaaaDoorWApart
import Derived.Test.YtmionoghpjpbaaaDoorWArr
import Derived.Test.YtmionoghpjpbaaaDoorWZeros
import Derived.Test.YtmionoghpjpbaaaDoorWFoot
import Derived.Test.YtmionoghpjpbaaaDoorWKept
import Derived.Test.YtmionoghpjpbaaaDoorWShare
import Derived.Test.YtmionoghpjpbaaaDoorWN
import Derived.Test.YtmionoghpjpbaaaDoorWFootNe
import Derived.Test.YtmionoghpjpbaaaDoorWAt
import Derived.Test.YtmionoghpjpbaaaDoorWEqStruct
import Derived.Test.YtmionoghpjpbaaaDoorWRepsOne
import Derived.Test.YtmionoghpjpbaaaDoorWInv
import Derived.Test.YtmionoghpjpbaaaDoorWInvWords
import Derived.Test.YtmionoghpjpbaaaDoorWGuard
import Derived.Test.YtmionoghpjpbaaaDoorWNEv
import Derived.Test.YtmionoghpjpbaaaDoorWMore
namespace Go.Proofs.YtmionoghpjpbaaaDoor.Pr
open Go.RowKit Go.Proofs.YtmionoghpjpbaaaDoorW.PrintWords Go.Proofs.YtmionoghpjpbaaaDoorW.PrintLast Go.Proofs.YtmionoghpjpbaaaDoorW.PrintMore
attribute [local go_sem] max2_int min2_int max_two min_two max_three min_three max_four min_four   -- for this text's walks alone
set_option linter.unusedVariables false
set_option linter.unusedSimpArgs false


section
def errW : Option Int → Value
  | none => .nilIface
  | some c => .iface 0 (.int .i64 c)
theorem errW_none : errW none = .nilIface := rfl
theorem errW_some (c : Int) : errW (some c) = .iface 0 (.int .i64 c) := rfl

theorem info3 : (Tryd.prog.info? 3).map (fun i => (i.zero, i.size, i.bytes)) = some (some (.int .i64 0), 1, 8) := by kernel_rfl
theorem info5 : (Tryd.prog.info? 5).map (fun i => (i.zero, i.size, i.bytes)) = some (some (.int .u8 0), 1, 1) := by kernel_rfl
theorem info9 : (Tryd.prog.info? 9).map (fun i => (i.zero, i.size, i.bytes)) = some (some (.string ⟨#[]⟩), 1, 16) := by kernel_rfl
theorem info44 : (Tryd.prog.info? 44).map (fun i => (i.zero, i.size, i.bytes)) = some (some (.agg #[(.string ⟨#[]⟩), (.bool false), (.string ⟨#[]⟩)]), 3, 40) := by kernel_rfl
theorem info101 : (Tryd.prog.info? 101).map (fun i => (i.zero, i.size, i.bytes)) = some (some (.agg #[(.string ⟨#[]⟩), (.bool false), (.string ⟨#[]⟩), (.int .u32 0)]), 4, 48) := by kernel_rfl
-- the values' own types
/-! #### struct type 86 -/
structure S86 where
  f0 : Int
  f1 : Bool
  f2 : ByteArray
def z86 : S86 := ⟨(0 : Int), false, (⟨#[]⟩ : ByteArray)⟩
def k86 : Kd S86 := Kd.iso (Kd.pair (Kd.int .i64) (Kd.pair Kd.bool Kd.string)) (fun x : S86 => (x.f0, x.f1, x.f2))
theorem k86_open {w : World} {x : S86} {cs : List Value} (h : k86.K w x cs) : cs = [.int .i64 x.f0, .bool x.f1, .string x.f2] := by
  obtain ⟨_, _, rfl, rfl, ⟨_, _, rfl, rfl, rfl⟩⟩ := h
  exact rfl
theorem k86_openM {w : World} {base : Nat} {ok : Nat → Prop} {x : S86} {cs : List Value} (h : k86.M w base ok x cs) : cs = [.int .i64 x.f0, .bool x.f1, .string x.f2] := by
  obtain ⟨_, _, rfl, rfl, ⟨_, _, rfl, rfl, rfl⟩⟩ := h
  exact rfl
theorem k86_mk (w : World) (x : S86)  : k86.K w x [.int .i64 x.f0, .bool x.f1, .string x.f2] := ⟨[.int .i64 x.f0], [.bool x.f1, .string x.f2], rfl, rfl, ⟨[.bool x.f1], [.string x.f2], rfl, rfl, rfl⟩⟩
theorem k86_mkM (w : World) (base : Nat) (ok : Nat → Prop) (x : S86)  : k86.M w base ok x [.int .i64 x.f0, .bool x.f1, .string x.f2] := ⟨[.int .i64 x.f0], [.bool x.f1, .string x.f2], rfl, rfl, ⟨[.bool x.f1], [.string x.f2], rfl, rfl, rfl⟩⟩
def rd_T86 (xs : List S86) (i : Int) : S86 := xs.getD i.toNat z86
theorem at_T86 {w : World} {A : Option Addr} {n : Nat} {xs : List S86} (h : Kd.C k86 w A n xs) (i : Int) (h0 : 0 ≤ i) (h1 : i < n) : ∃ ad , A = some ad ∧ w.cell? (ad.add (i.toNat * 3)) = some (.int .i64 (rd_T86 xs i).f0) ∧ w.cell? ⟨(ad.add (i.toNat * 3)).block, (ad.add (i.toNat * 3)).off + 1, none⟩ = some (.bool (rd_T86 xs i).f1) ∧ w.cell? ⟨(ad.add (i.toNat * 3)).block, (ad.add (i.toNat * 3)).off + 2, none⟩ = some (.string (rd_T86 xs i).f2) := by
  obtain ⟨ad, c, e, _, hK, hc0⟩ := Kd.C_get h z86 i h0 h1
  have hc : ∀ j u, c[j]? = some u → w.cell? (ad.add (i.toNat * 3 + j)) = some u := hc0
  obtain rfl := k86_open hK
  exact ⟨ad, e, hc 0 _ rfl, by rw [← add_field _ _ 1 (by omega)]; exact hc 1 _ rfl, by rw [← add_field _ _ 2 (by omega)]; exact hc 2 _ rfl⟩

/-! #### struct type 101 -/
structure S101 where
  f0 : ByteArray
  f1 : Bool
  f2 : ByteArray
  f3 : Int
def z101 : S101 := ⟨(⟨#[]⟩ : ByteArray), false, (⟨#[]⟩ : ByteArray), (0 : Int)⟩
def k101 : Kd S101 := Kd.iso (Kd.pair Kd.string (Kd.pair Kd.bool (Kd.pair Kd.string (Kd.int .u32)))) (fun x : S101 => (x.f0, x.f1, x.f2, x.f3))
theorem k101_open {w : World} {x : S101} {cs : List Value} (h : k101.K w x cs) : cs = [.string x.f0, .bool x.f1, .string x.f2, .int .u32 x.f3] := by
  obtain ⟨_, _, rfl, rfl, ⟨_, _, rfl, rfl, ⟨_, _, rfl, rfl, rfl⟩⟩⟩ := h
  exact rfl
theorem k101_openM {w : World} {base : Nat} {ok : Nat → Prop} {x : S101} {cs : List Value} (h : k101.M w base ok x cs) : cs = [.string x.f0, .bool x.f1, .string x.f2, .int .u32 x.f3] := by
  obtain ⟨_, _, rfl, rfl, ⟨_, _, rfl, rfl, ⟨_, _, rfl, rfl, rfl⟩⟩⟩ := h
  exact rfl
theorem k101_mk (w : World) (x : S101)  : k101.K w x [.string x.f0, .bool x.f1, .string x.f2, .int .u32 x.f3] := ⟨[.string x.f0], [.bool x.f1, .string x.f2, .int .u32 x.f3], rfl, rfl, ⟨[.bool x.f1], [.string x.f2, .int .u32 x.f3], rfl, rfl, ⟨[.string x.f2], [.int .u32 x.f3], rfl, rfl, rfl⟩⟩⟩
theorem k101_mkM (w : World) (base : Nat) (ok : Nat → Prop) (x : S101)  : k101.M w base ok x [.string x.f0, .bool x.f1, .string x.f2, .int .u32 x.f3] := ⟨[.string x.f0], [.bool x.f1, .string x.f2, .int .u32 x.f3], rfl, rfl, ⟨[.bool x.f1], [.string x.f2, .int .u32 x.f3], rfl, rfl, ⟨[.string x.f2], [.int .u32 x.f3], rfl, rfl, rfl⟩⟩⟩
def rd_T101 (xs : List S101) (i : Int) : S101 := xs.getD i.toNat z101
theorem at_T101 {w : World} {A : Option Addr} {n : Nat} {xs : List S101} (h : Kd.C k101 w A n xs) (i : Int) (h0 : 0 ≤ i) (h1 : i < n) : ∃ ad , A = some ad ∧ w.cell? (ad.add (i.toNat * 4)) = some (.string (rd_T101 xs i).f0) ∧ w.cell? ⟨(ad.add (i.toNat * 4)).block, (ad.add (i.toNat * 4)).off + 1, none⟩ = some (.bool (rd_T101 xs i).f1) ∧ w.cell? ⟨(ad.add (i.toNat * 4)).block, (ad.add (i.toNat * 4)).off + 2, none⟩ = some (.string (rd_T101 xs i).f2) ∧ w.cell? ⟨(ad.add (i.toNat * 4)).block, (ad.add (i.toNat * 4)).off + 3, none⟩ = some (.int .u32 (rd_T101 xs i).f3) := by
  obtain ⟨ad, c, e, _, hK, hc0⟩ := Kd.C_get h z101 i h0 h1
  have hc : ∀ j u, c[j]? = some u → w.cell? (ad.add (i.toNat * 4 + j)) = some u := hc0
  obtain rfl := k101_open hK
  exact ⟨ad, e, hc 0 _ rfl, by rw [← add_field _ _ 1 (by omega)]; exact hc 1 _ rfl, by rw [← add_field _ _ 2 (by omega)]; exact hc 2 _ rfl, by rw [← add_field _ _ 3 (by omega)]; exact hc 3 _ rfl⟩

/-! #### struct type 44 -/
structure S44 where
  f0 : ByteArray
  f1 : Bool
  f2 : ByteArray
def z44 : S44 := ⟨(⟨#[]⟩ : ByteArray), false, (⟨#[]⟩ : ByteArray)⟩
def k44 : Kd S44 := Kd.iso (Kd.pair Kd.string (Kd.pair Kd.bool Kd.string)) (fun x : S44 => (x.f0, x.f1, x.f2))
theorem k44_open {w : World} {x : S44} {cs : List Value} (h : k44.K w x cs) : cs = [.string x.f0, .bool x.f1, .string x.f2] := by
  obtain ⟨_, _, rfl, rfl, ⟨_, _, rfl, rfl, rfl⟩⟩ := h
  exact rfl
theorem k44_openM {w : World} {base : Nat} {ok : Nat → Prop} {x : S44} {cs : List Value} (h : k44.M w base ok x cs) : cs = [.string x.f0, .bool x.f1, .string x.f2] := by
  obtain ⟨_, _, rfl, rfl, ⟨_, _, rfl, rfl, rfl⟩⟩ := h
  exact rfl
theorem k44_mk (w : World) (x : S44)  : k44.K w x [.string x.f0, .bool x.f1, .string x.f2] := ⟨[.string x.f0], [.bool x.f1, .string x.f2], rfl, rfl, ⟨[.bool x.f1], [.string x.f2], rfl, rfl, rfl⟩⟩
theorem k44_mkM (w : World) (base : Nat) (ok : Nat → Prop) (x : S44)  : k44.M w base ok x [.string x.f0, .bool x.f1, .string x.f2] := ⟨[.string x.f0], [.bool x.f1, .string x.f2], rfl, rfl, ⟨[.bool x.f1], [.string x.f2], rfl, rfl, rfl⟩⟩
def rd_T44 (xs : List S44) (i : Int) : S44 := xs.getD i.toNat z44
theorem at_T44 {w : World} {A : Option Addr} {n : Nat} {xs : List S44} (h : Kd.C k44 w A n xs) (i : Int) (h0 : 0 ≤ i) (h1 : i < n) : ∃ ad , A = some ad ∧ w.cell? (ad.add (i.toNat * 3)) = some (.string (rd_T44 xs i).f0) ∧ w.cell? ⟨(ad.add (i.toNat * 3)).block, (ad.add (i.toNat * 3)).off + 1, none⟩ = some (.bool (rd_T44 xs i).f1) ∧ w.cell? ⟨(ad.add (i.toNat * 3)).block, (ad.add (i.toNat * 3)).off + 2, none⟩ = some (.string (rd_T44 xs i).f2) := by
  obtain ⟨ad, c, e, _, hK, hc0⟩ := Kd.C_get h z44 i h0 h1
  have hc : ∀ j u, c[j]? = some u → w.cell? (ad.add (i.toNat * 3 + j)) = some u := hc0
  obtain rfl := k44_open hK
  exact ⟨ad, e, hc 0 _ rfl, by rw [← add_field _ _ 1 (by omega)]; exact hc 1 _ rfl, by rw [← add_field _ _ 2 (by omega)]; exact hc 2 _ rfl⟩

/-! #### struct type 57 -/
structure S57 where
  f0 : ByteArray
  f1 : Int
  f2 : Int
def z57 : S57 := ⟨(⟨#[]⟩ : ByteArray), (0 : Int), (0 : Int)⟩
def k57 : Kd S57 := Kd.iso (Kd.pair Kd.string (Kd.pair (Kd.int .u32) (Kd.int .u32))) (fun x : S57 => (x.f0, x.f1, x.f2))
theorem k57_open {w : World} {x : S57} {cs : List Value} (h : k57.K w x cs) : cs = [.string x.f0, .int .u32 x.f1, .int .u32 x.f2] := by
  obtain ⟨_, _, rfl, rfl, ⟨_, _, rfl, rfl, rfl⟩⟩ := h
  exact rfl
theorem k57_openM {w : World} {base : Nat} {ok : Nat → Prop} {x : S57} {cs : List Value} (h : k57.M w base ok x cs) : cs = [.string x.f0, .int .u32 x.f1, .int .u32 x.f2] := by
  obtain ⟨_, _, rfl, rfl, ⟨_, _, rfl, rfl, rfl⟩⟩ := h
  exact rfl
theorem k57_mk (w : World) (x : S57)  : k57.K w x [.string x.f0, .int .u32 x.f1, .int .u32 x.f2] := ⟨[.string x.f0], [.int .u32 x.f1, .int .u32 x.f2], rfl, rfl, ⟨[.int .u32 x.f1], [.int .u32 x.f2], rfl, rfl, rfl⟩⟩
theorem k57_mkM (w : World) (base : Nat) (ok : Nat → Prop) (x : S57)  : k57.M w base ok x [.string x.f0, .int .u32 x.f1, .int .u32 x.f2] := ⟨[.string x.f0], [.int .u32 x.f1, .int .u32 x.f2], rfl, rfl, ⟨[.int .u32 x.f1], [.int .u32 x.f2], rfl, rfl, rfl⟩⟩
def rd_T57 (xs : List S57) (i : Int) : S57 := xs.getD i.toNat z57
theorem at_T57 {w : World} {A : Option Addr} {n : Nat} {xs : List S57} (h : Kd.C k57 w A n xs) (i : Int) (h0 : 0 ≤ i) (h1 : i < n) : ∃ ad , A = some ad ∧ w.cell? (ad.add (i.toNat * 3)) = some (.string (rd_T57 xs i).f0) ∧ w.cell? ⟨(ad.add (i.toNat * 3)).block, (ad.add (i.toNat * 3)).off + 1, none⟩ = some (.int .u32 (rd_T57 xs i).f1) ∧ w.cell? ⟨(ad.add (i.toNat * 3)).block, (ad.add (i.toNat * 3)).off + 2, none⟩ = some (.int .u32 (rd_T57 xs i).f2) := by
  obtain ⟨ad, c, e, _, hK, hc0⟩ := Kd.C_get h z57 i h0 h1
  have hc : ∀ j u, c[j]? = some u → w.cell? (ad.add (i.toNat * 3 + j)) = some u := hc0
  obtain rfl := k57_open hK
  exact ⟨ad, e, hc 0 _ rfl, by rw [← add_field _ _ 1 (by omega)]; exact hc 1 _ rfl, by rw [← add_field _ _ 2 (by omega)]; exact hc 2 _ rfl⟩

/-! #### struct type 99 -/
structure S99 where
  f0 : ByteArray
  f1 : Int
  f2 : Int
def z99 : S99 := ⟨(⟨#[]⟩ : ByteArray), (0 : Int), (0 : Int)⟩
def k99 : Kd S99 := Kd.iso (Kd.pair Kd.string (Kd.pair (Kd.int .u32) (Kd.int .u32))) (fun x : S99 => (x.f0, x.f1, x.f2))
theorem k99_open {w : World} {x : S99} {cs : List Value} (h : k99.K w x cs) : cs = [.string x.f0, .int .u32 x.f1, .int .u32 x.f2] := by
  obtain ⟨_, _, rfl, rfl, ⟨_, _, rfl, rfl, rfl⟩⟩ := h
  exact rfl
theorem k99_openM {w : World} {base : Nat} {ok : Nat → Prop} {x : S99} {cs : List Value} (h : k99.M w base ok x cs) : cs = [.string x.f0, .int .u32 x.f1, .int .u32 x.f2] := by
  obtain ⟨_, _, rfl, rfl, ⟨_, _, rfl, rfl, rfl⟩⟩ := h
  exact rfl
theorem k99_mk (w : World) (x : S99)  : k99.K w x [.string x.f0, .int .u32 x.f1, .int .u32 x.f2] := ⟨[.string x.f0], [.int .u32 x.f1, .int .u32 x.f2], rfl, rfl, ⟨[.int .u32 x.f1], [.int .u32 x.f2], rfl, rfl, rfl⟩⟩
theorem k99_mkM (w : World) (base : Nat) (ok : Nat → Prop) (x : S99)  : k99.M w base ok x [.string x.f0, .int .u32 x.f1, .int .u32 x.f2] := ⟨[.string x.f0], [.int .u32 x.f1, .int .u32 x.f2], rfl, rfl, ⟨[.int .u32 x.f1], [.int .u32 x.f2], rfl, rfl, rfl⟩⟩
def rd_T99 (xs : List S99) (i : Int) : S99 := xs.getD i.toNat z99
theorem at_T99 {w : World} {A : Option Addr} {n : Nat} {xs : List S99} (h : Kd.C k99 w A n xs) (i : Int) (h0 : 0 ≤ i) (h1 : i < n) : ∃ ad , A = some ad ∧ w.cell? (ad.add (i.toNat * 3)) = some (.string (rd_T99 xs i).f0) ∧ w.cell? ⟨(ad.add (i.toNat * 3)).block, (ad.add (i.toNat * 3)).off + 1, none⟩ = some (.int .u32 (rd_T99 xs i).f1) ∧ w.cell? ⟨(ad.add (i.toNat * 3)).block, (ad.add (i.toNat * 3)).off + 2, none⟩ = some (.int .u32 (rd_T99 xs i).f2) := by
  obtain ⟨ad, c, e, _, hK, hc0⟩ := Kd.C_get h z99 i h0 h1
  have hc : ∀ j u, c[j]? = some u → w.cell? (ad.add (i.toNat * 3 + j)) = some u := hc0
  obtain rfl := k99_open hK
  exact ⟨ad, e, hc 0 _ rfl, by rw [← add_field _ _ 1 (by omega)]; exact hc 1 _ rfl, by rw [← add_field _ _ 2 (by omega)]; exact hc 2 _ rfl⟩

/-! #### struct type 232 -/
structure S232 where
  f0 : Int
  f1 : ByteArray
def z232 : S232 := ⟨(0 : Int), (⟨#[]⟩ : ByteArray)⟩
def k232 : Kd S232 := Kd.iso (Kd.pair (Kd.int .i32) Kd.string) (fun x : S232 => (x.f0, x.f1))
theorem k232_open {w : World} {x : S232} {cs : List Value} (h : k232.K w x cs) : cs = [.int .i32 x.f0, .string x.f1] := by
  obtain ⟨_, _, rfl, rfl, rfl⟩ := h
  exact rfl
theorem k232_openM {w : World} {base : Nat} {ok : Nat → Prop} {x : S232} {cs : List Value} (h : k232.M w base ok x cs) : cs = [.int .i32 x.f0, .string x.f1] := by
  obtain ⟨_, _, rfl, rfl, rfl⟩ := h
  exact rfl
theorem k232_mk (w : World) (x : S232)  : k232.K w x [.int .i32 x.f0, .string x.f1] := ⟨[.int .i32 x.f0], [.string x.f1], rfl, rfl, rfl⟩
theorem k232_mkM (w : World) (base : Nat) (ok : Nat → Prop) (x : S232)  : k232.M w base ok x [.int .i32 x.f0, .string x.f1] := ⟨[.int .i32 x.f0], [.string x.f1], rfl, rfl, rfl⟩
def rd_T232 (xs : List S232) (i : Int) : S232 := xs.getD i.toNat z232
theorem at_T232 {w : World} {A : Option Addr} {n : Nat} {xs : List S232} (h : Kd.C k232 w A n xs) (i : Int) (h0 : 0 ≤ i) (h1 : i < n) : ∃ ad , A = some ad ∧ w.cell? (ad.add (i.toNat * 2)) = some (.int .i32 (rd_T232 xs i).f0) ∧ w.cell? ⟨(ad.add (i.toNat * 2)).block, (ad.add (i.toNat * 2)).off + 1, none⟩ = some (.string (rd_T232 xs i).f1) := by
  obtain ⟨ad, c, e, _, hK, hc0⟩ := Kd.C_get h z232 i h0 h1
  have hc : ∀ j u, c[j]? = some u → w.cell? (ad.add (i.toNat * 2 + j)) = some u := hc0
  obtain rfl := k232_open hK
  exact ⟨ad, e, hc 0 _ rfl, by rw [← add_field _ _ 1 (by omega)]; exact hc 1 _ rfl⟩
end

section
theorem eqA101 (d : Nat) (w : World) (x0 y0 : ByteArray) (x1 y1 : Bool) (x2 y2 : ByteArray) (x3 y3 : Int) :
    (Op.equalIn (d + 2) 101 (.agg #[.string x0, .bool x1, .string x2, .int .u32 x3]) (.agg #[.string y0, .bool y1, .string y2, .int .u32 y3])).run Tryd.prog w = .ok (x0.toList == y0.toList && (x1 == y1 && (x2.toList == y2.toList && (x3 == y3)))) w := by
  refine eqA_of Tryd.underlying101 (by kernel_rfl) ?_
  refine eqf_cons (by rfl) (by go_simp; rfl) (by go_simp; rfl) (by go_simp) ?_
  refine eqf_cons (by rfl) (by go_simp; rfl) (by go_simp; rfl) (by go_simp) ?_
  refine eqf_cons (by rfl) (by go_simp; rfl) (by go_simp; rfl) (by go_simp) ?_
  exact eqf_last (by rfl) (by go_simp; rfl) (by go_simp; rfl) (by go_simp)
end

section
/-! ### cachepotbook_Pick: function 19 -/
def cachepotbook_Pick.f (a0 : Int) (a1 : Int) : Option (Int) := if a1 = 0 then (none) else (if (Int.tmod a0 a1) < 0 then (some (wrap64 ((Int.tmod a0 a1) + a1))) else (some (Int.tmod a0 a1)))
set_option maxHeartbeats 8000000 in
set_option maxRecDepth 100000 in
theorem cachepotbook_Pick.calls (a0 : Int) (a1 : Int) (r : Int) (w : World) (h : cachepotbook_Pick.f a0 a1 = some r) :
    Calls Tryd.prog 19 #[.int .i64 a0, .int .i64 a1] w fun e w' => e = .returned (.int .i64 r) ∧ Drawn0 w w' := by
  have H : (if a1 = 0 then (none) else (if (Int.tmod a0 a1) < 0 then (some (wrap64 ((Int.tmod a0 a1) + a1))) else (some (Int.tmod a0 a1)))) = some r := h
  clear h
  by_cases c3 : a1 = 0
  · rw [if_pos c3] at H
    exact absurd H (by simp)
  · rw [if_neg c3] at H
    have c3b0 : (a1 == 0) = false := beq_eq_false_iff_ne.mpr c3
    have c3b1 : (a1 != 0) = true := bne_iff_ne.mpr c3
    by_cases c4 : (Int.tmod a0 a1) < 0
    · rw [if_pos c4] at H
      have c4b0 : decide ((Int.tmod a0 a1) < 0) = true := decide_eq_true c4
      clear c4
      obtain rfl := Option.some.inj H
      go_enter Tryd.func19, Tryd.ntmps19
      go_wp2
      go_ret
      exact ⟨by first | rfl | (simp; done) | (simp [*]; done), by repeat (first | exact Drawn0.refl _ | apply Drawn0.step)⟩
    · rw [if_neg c4] at H
      have c4b0 : decide ((Int.tmod a0 a1) < 0) = false := decide_eq_false c4
      clear c4
      obtain rfl := Option.some.inj H
      go_enter Tryd.func19, Tryd.ntmps19
      go_wp2
      go_ret
      exact ⟨by first | rfl | (simp; done) | (simp [*]; done), by repeat (first | exact Drawn0.refl _ | apply Drawn0.step)⟩
end

section
/-! ### cachepotbook_Short: function 73 -/
def cachepotbook_Short.f (a0 : ByteArray) (a1 : Int) : Option (ByteArray) := if 0 ≤ (mn (a0.size : Int) a1) then (if (mn (a0.size : Int) a1) ≤ (a0.size : Int) then (some (a0.extract 0 ((mn (a0.size : Int) a1) : Int).toNat)) else (none)) else (none)
set_option maxHeartbeats 8000000 in
set_option maxRecDepth 100000 in
theorem cachepotbook_Short.calls (a0 : ByteArray) (a1 : Int) (r : ByteArray) (w : World) (h : cachepotbook_Short.f a0 a1 = some r) :
    Calls Tryd.prog 73 #[.string a0, .int .i64 a1] w fun e w' => e = .returned (.string r) ∧ Below w.heap.size w w' := by
  have HB := Aside0.mk (Below.refl w.heap.size w)
  have H : (if 0 ≤ (mn (a0.size : Int) a1) then (if (mn (a0.size : Int) a1) ≤ (a0.size : Int) then (some (a0.extract 0 ((mn (a0.size : Int) a1) : Int).toNat)) else (none)) else (none)) = some r := h
  clear h
  obtain ⟨ji3, hji3⟩ : ∃ j_ : Int, (mn (a0.size : Int) a1) = j_ := ⟨_, rfl⟩
  replace H : (if 0 ≤ (ji3) then (if (ji3) ≤ (a0.size : Int) then (some (a0.extract 0 ((ji3) : Int).toNat)) else (none)) else (none)) = some r := by first | (rw [hji3] at H; exact H) | (simp only [hji3] at H ⊢; exact H)
  have hji3_ : (if a1 < (a0.size : Int) then a1 else (a0.size : Int)) = ji3 := hji3
  by_cases c4 : 0 ≤ (ji3)
  · rw [if_pos c4] at H
    have c4b0 := eq_true c4
    have c4b1 : decide (0 ≤ (ji3)) = true := decide_eq_true c4
    clear c4
    by_cases c5 : (ji3) ≤ (a0.size : Int)
    · rw [if_pos c5] at H
      have c5b0 := eq_true c5
      have c5b1 : decide ((ji3) ≤ (a0.size : Int)) = true := decide_eq_true c5
      clear c5
      obtain rfl := Option.some.inj H
      go_enter Tryd.func73, Tryd.ntmps73
      go_wp2
      go_ret
      exact ⟨by first | rfl | (simp [errW_none, errW_some] <;> rfl) | (simp only [← hji3]; first | rfl | (simp [errW_none, errW_some] <;> rfl)) | (simp [*, errW_none, errW_some] <;> rfl), by repeat (first | (with_reducible first | exact HB.out | apply below_alloc | apply pw_below_drewN | apply below_drew1) | exact HB.out)⟩
    · rw [if_neg c5] at H
      exact absurd H (by simp)
  · rw [if_neg c4] at H
    exact absurd H (by simp)
end

section
/-! ### cachepotbook_Texts: function 78 -/
def cachepotbook_Texts.l0 : Nat → List ByteArray → Int → Int → List ByteArray → Int → Option (List ByteArray)
  | 0, _, _, _, _, _ => none
  | k + 1, x0, x1, x2, x7, x8 => if x8 < (x0.length : Int) then (if x8 < x1 then (if 0 ≤ x8 then ((cachepotbook_Short.f (rdOf ByteArray.empty x0 x8) x2).bind fun t103 => (if x7.length < 8796093022208 then (cachepotbook_Texts.l0 k x0 x1 x2 (x7 ++ [t103]) (wrap64 (x8 + 1))) else (none))) else (none)) else (some x7)) else (some x7)
def cachepotbook_Texts.f (k : Nat) (l0 : List ByteArray) (a1 : Int) (a2 : Int) : Option (List ByteArray) := cachepotbook_Texts.l0 k l0 a1 a2 ([] : List ByteArray) 0
theorem cachepotbook_Texts.mono_l : ∀ k, (∀ y0 y1 y2 y3 y4, LeO (cachepotbook_Texts.l0 k y0 y1 y2 y3 y4) (cachepotbook_Texts.l0 (k + 1) y0 y1 y2 y3 y4))
  | 0 => fun _ _ _ _ _ r h => by simp [cachepotbook_Texts.l0] at h
  | k + 1 => by
    have ih0 := cachepotbook_Texts.mono_l k
    · intro y0 y1 y2 y3 y4
      unfold cachepotbook_Texts.l0
      repeat' first
      | (with_reducible exact ih0 _ _ _ _ _)
      | (with_reducible exact LeO.refl _)
      | (with_reducible exact LeO.none _)
      | (with_reducible refine LeO.ite ?_ ?_)
      | (with_reducible refine LeO.bind ?_ (fun _ => ?_))
      | exact ih0 _ _ _ _ _
      | exact LeO.none _
      | refine LeO.ite ?_ ?_
      | refine LeO.bind ?_ (fun _ => ?_)
theorem cachepotbook_Texts.mono : ∀ a0 a1 a2 k, LeO (cachepotbook_Texts.f k a0 a1 a2) (cachepotbook_Texts.f (k + 1) a0 a1 a2) := by
  intro a0 a1 a2 k
  have ih0 := cachepotbook_Texts.mono_l k
  unfold cachepotbook_Texts.f
  repeat' first
      | (with_reducible exact ih0 _ _ _ _ _)
      | (with_reducible exact LeO.refl _)
      | (with_reducible exact LeO.none _)
      | (with_reducible refine LeO.ite ?_ ?_)
      | (with_reducible refine LeO.bind ?_ (fun _ => ?_))
      | exact ih0 _ _ _ _ _
      | exact LeO.none _
      | refine LeO.ite ?_ ?_
      | refine LeO.bind ?_ (fun _ => ?_)
set_option maxHeartbeats 8000000 in
set_option maxRecDepth 100000 in
theorem cachepotbook_Texts.calls (k : Nat) (A0 : Option Addr) (c0 : Nat) (l0 : List ByteArray) (a1 : Int) (a2 : Int) (r : List ByteArray) (w : World) (hr0 : Kd.C Kd.string w A0 l0.length l0) (hc0 : l0.length ≤ c0) (h : cachepotbook_Texts.f k l0 a1 a2 = some r) :
    Calls Tryd.prog 78 #[.slice A0 l0.length c0, .int .i64 a1, .int .i64 a2] w fun e w' => ∃ v0_ : Value, e = .returned (v0_) ∧ Kd.R Kd.string 9 w' w.heap.size (fun _ => True) v0_ r ∧ Below w.heap.size w w' := by
  have HR0 := Aside0.mk hr0
  have HC0 := Aside0.mk hc0
  clear hr0 hc0
  have HB := Aside0.mk (Below.refl w.heap.size w)
  have H : (cachepotbook_Texts.l0 k l0 a1 a2 ([] : List ByteArray) 0) = some r := h
  clear h
  have H' := Aside0.mk H
  clear H
  go_enter Tryd.func78, Tryd.ntmps78
  go_wp2
  go_loopg [7, 8] k (fun kq v7 v8 w' => ∃ (x7_1 : List ByteArray) (x8_1 : Int), v8 = .int .i64 x8_1 ∧ Aside0 (cachepotbook_Texts.l0 kq l0 a1 a2 x7_1 x8_1 = some r) ∧ Aside0 (kq ≤ k) ∧ Aside0 (Kd.R Kd.string 9 w' w.heap.size (fun _ => True) v7 x7_1) ∧ Aside0 (Below w.heap.size w w'))
  case atStart => exact ⟨(([] : List ByteArray)), (0), (by first | rfl | (simp; done) | (simp [*]; done)), H', ⟨Nat.le_refl _⟩, ⟨by first | exact Kd.R_nil _ _ _ _ _ | exact Kd.N_nil _ _ _ _ _ | exact Kd.V_nil _ _ _ _ _ | exact Kd.Q_nil _ _ _ _ _ | exact Kd.S_nil _ _ _ _ _⟩, ⟨by repeat (first | (with_reducible first | exact HB.out | apply below_alloc | apply pw_below_drewN | apply below_drew1) | exact HB.out)⟩⟩
  case round =>
    clear H'
    try clear p2
    obtain ⟨x7_1, x8_1, rfl, HA, HK1, HO_7, HB⟩ := hrel
    cases gk with
    | zero => exact absurd HA.out (by simp [cachepotbook_Texts.l0])
    | succ k1 =>
      have H := HA.out
      clear HA
      simp only [cachepotbook_Texts.l0] at H
      by_cases c4 : x8_1 < (l0.length : Int)
      · rw [if_pos c4] at H
        have c4b0 : decide (x8_1 < (l0.length : Int)) = true := decide_eq_true c4
        clear c4
        by_cases c5 : x8_1 < a1
        · rw [if_pos c5] at H
          have c5b0 : decide (x8_1 < a1) = true := decide_eq_true c5
          clear c5
          by_cases c6 : 0 ≤ x8_1
          · rw [if_pos c6] at H
            have c6b0 : decide (0 ≤ x8_1) = true := decide_eq_true c6
            clear c6
            replace H := Option.bind_eq_some_iff.mp H
            obtain ⟨t103, A70, H⟩ := H
            replace H : (if x7_1.length < 8796093022208 then (cachepotbook_Texts.l0 k1 l0 a1 a2 (x7_1 ++ [t103]) (wrap64 (x8_1 + 1))) else (none)) = some r := H
            have A7 := Aside0.mk A70
            clear A70
            by_cases c8 : x7_1.length < 8796093022208
            · rw [if_pos c8] at H
              have LMc8 := Aside0.mk c8
              clear c8
              obtain ⟨y104, hy104⟩ : ∃ y_ : List ByteArray, y_ = (x7_1 ++ [t103]) := ⟨_, rfl⟩
              replace H : (cachepotbook_Texts.l0 k1 l0 a1 a2 y104 (wrap64 (x8_1 + 1))) = some r := by first | (rw [hy104]; with_reducible exact H) | (have H2_ := (Option.bind_some _ _).symm.trans H; rw [hy104]; with_reducible exact H2_) | (have H2_ := (Option.bind_some _ _).symm.trans H; with_reducible exact H2_) | with_reducible exact H | (rw [hy104]; exact H) | exact H
              have Ny104 := Aside0.mk hy104
              clear hy104
              have H' := Aside0.mk H
              clear H
              have p102 : 0 ≤ (x8_1 : Int) := of_decide_eq_true (by first | (with_reducible assumption) | assumption)
              have q102 : x8_1 < (l0.length : Int) := of_decide_eq_true (by first | (with_reducible assumption) | assumption)
              obtain ⟨ad102, e102, hx102_0⟩ := Kd.at_string HR0.out x8_1 p102 q102
              cases e102
              replace hx102_0 := (HB.out.cell (World.block_lt_of_cell? w _ hx102_0)).trans hx102_0
              replace p102 := eq_true p102
              replace q102 := eq_true q102
              go_wp2_with (first | ((with_reducible refine gate_callee (f := 73) rfl ?_); refine goesL_ (some 26) rfl rfl Tryd.func73 (by kernel_rfl) rfl #[.string (rdOf ByteArray.empty l0 x8_1), .int .i64 a2] rfl (by (try simp only [List.map_toArray, List.map_cons, List.map_nil]); first | done | rfl | (simp only [List.length_drop, List.length_take]; rfl)) ?_; (with_reducible refine (cachepotbook_Short.calls (rdOf ByteArray.empty l0 x8_1) a2 t103 _ A7.out).mono ?_); rintro e w9 ⟨rfl, hb⟩; refine ⟨_, rfl, ?_⟩; have n0_ := Aside0.mk (Kd.R_below (by (with_reducible repeat (first | apply Kd.R_alloc | apply Kd.R_drewN | apply Kd.R_drew)); exact HO_7.out) hb); have n1_ := Aside0.mk (below_step (by repeat (first | (with_reducible first | exact HB.out | apply below_alloc | apply pw_below_drewN | apply below_drew1) | exact HB.out)) hb); clear HO_7; clear HB; have HO_7 := n0_; have HB := n1_; clear n0_ n1_; (try clear hb); (try clear hb2); (try clear hk); (try clear hi)) | ((with_reducible refine gate_builtin (b := .append) (xs := #[.tmp 20, .tmp 27]) rfl ?_); at_builtin; refine Kd.R_append Kd.string (w0 := w) w.heap.size rfl (.tmp 20) (.tmp 27) 33 9 (.string ⟨#[]⟩) 16 rfl Tryd.underlying33 info9 rfl (by decide) (by omega) u7 x7_1 t103 [.string t103] (fun _ => True) (fun _ => False) rfl rfl ?aP (fun _ hk => hk.elim) ?aF ?aO ?aB ?aS ?aL ?_; (case aP => exact rfl); (case aB => exact (by repeat (first | (with_reducible first | exact HB.out | apply below_alloc | apply pw_below_drewN | apply below_drew1) | exact HB.out))); (case aF => exact (fun _ _ => trivial)); (case aO => exact (by (with_reducible repeat (first | apply Kd.R_alloc | apply Kd.R_drewN | apply Kd.R_drew)); exact HO_7.out)); (case aS => exact (below_size (by repeat (first | (with_reducible first | exact HB.out | apply below_alloc | apply pw_below_drewN | apply below_drew1) | exact HB.out)))); (case aL => have := LMc8.out; omega); intro v105 w10 ho hb hg hat; rw [← Ny104.out] at ho; have n0_ := Aside0.mk (hb); have n1_ := Aside0.mk (ho); clear HB; clear HO_7; have HB := n0_; have HO106 := n1_; clear n0_ n1_; clear ho hb hg hat))
              go_roundg k1
              case measure => have := HK1.out; omega
              case rel => exact ⟨(y104), (wrap64 (x8_1 + 1)), (by first | rfl | (simp; done) | (simp [*]; done)), H', ⟨by have := HK1.out; omega⟩, ⟨by (with_reducible repeat (first | apply Kd.R_alloc | apply Kd.R_drewN | apply Kd.R_drew)); exact HO106.out⟩, ⟨by repeat (first | (with_reducible first | exact HB.out | apply below_alloc | apply pw_below_drewN | apply below_drew1) | exact HB.out)⟩⟩
            · rw [if_neg c8] at H
              exact absurd H (by simp)
          · rw [if_neg c6] at H
            exact absurd H (by simp)
        · rw [if_neg c5] at H
          have c5b0 : decide (x8_1 < a1) = false := decide_eq_false c5
          clear c5
          obtain rfl := Option.some.inj H
          go_wp2
          go_ret
          exact ⟨_, by first | rfl | (simp [errW_none, errW_some] <;> rfl) | (simp [*, errW_none, errW_some] <;> rfl), by (with_reducible repeat (first | apply Kd.R_alloc | apply Kd.R_drewN | apply Kd.R_drew)); exact HO_7.out, by repeat (first | (with_reducible first | exact HB.out | apply below_alloc | apply pw_below_drewN | apply below_drew1) | exact HB.out)⟩
      · rw [if_neg c4] at H
        have c4b0 : decide (x8_1 < (l0.length : Int)) = false := decide_eq_false c4
        clear c4
        obtain rfl := Option.some.inj H
        go_wp2
        go_ret
        exact ⟨_, by first | rfl | (simp [errW_none, errW_some] <;> rfl) | (simp [*, errW_none, errW_some] <;> rfl), by (with_reducible repeat (first | apply Kd.R_alloc | apply Kd.R_drewN | apply Kd.R_drew)); exact HO_7.out, by repeat (first | (with_reducible first | exact HB.out | apply below_alloc | apply pw_below_drewN | apply below_drew1) | exact HB.out)⟩
end

section
attribute [local go_sem high] eqA101
/-! ### cachepotbook_SameAnswers: function 23 -/
def cachepotbook_SameAnswers.l0 : Nat → List (S101) → List (S101) → Int → Option (Bool)
  | 0, _, _, _ => none
  | k + 1, x0, x1, x5 => if x5 < (x0.length : Int) then (if 0 ≤ x5 then (if x5 < (x1.length : Int) then (if (!((((rd_T101 x0 x5).f0).toList) == (((rd_T101 x1 x5).f0).toList)) || (!(((rd_T101 x0 x5).f1) == ((rd_T101 x1 x5).f1)) || (!((((rd_T101 x0 x5).f2).toList) == (((rd_T101 x1 x5).f2).toList)) || (!(((rd_T101 x0 x5).f3) == ((rd_T101 x1 x5).f3)))))) = true then (some false) else (cachepotbook_SameAnswers.l0 k x0 x1 (wrap64 (x5 + 1)))) else (none)) else (none)) else (some true)
def cachepotbook_SameAnswers.f (k : Nat) (l0 : List (S101)) (l1 : List (S101)) : Option (Bool) := if (l0.length : Int) = (l1.length : Int) then (cachepotbook_SameAnswers.l0 k l0 l1 0) else (some false)
theorem cachepotbook_SameAnswers.mono_l : ∀ k, (∀ y0 y1 y2, LeO (cachepotbook_SameAnswers.l0 k y0 y1 y2) (cachepotbook_SameAnswers.l0 (k + 1) y0 y1 y2))
  | 0 => fun _ _ _ r h => by simp [cachepotbook_SameAnswers.l0] at h
  | k + 1 => by
    have ih0 := cachepotbook_SameAnswers.mono_l k
    · intro y0 y1 y2
      unfold cachepotbook_SameAnswers.l0
      repeat' first
      | (with_reducible exact ih0 _ _ _)
      | (with_reducible exact LeO.refl _)
      | (with_reducible exact LeO.none _)
      | (with_reducible refine LeO.ite ?_ ?_)
      | (with_reducible refine LeO.bind ?_ (fun _ => ?_))
      | exact ih0 _ _ _
      | exact LeO.none _
      | refine LeO.ite ?_ ?_
      | refine LeO.bind ?_ (fun _ => ?_)
theorem cachepotbook_SameAnswers.mono : ∀ a0 a1 k, LeO (cachepotbook_SameAnswers.f k a0 a1) (cachepotbook_SameAnswers.f (k + 1) a0 a1) := by
  intro a0 a1 k
  have ih0 := cachepotbook_SameAnswers.mono_l k
  unfold cachepotbook_SameAnswers.f
  repeat' first
      | (with_reducible exact ih0 _ _ _)
      | (with_reducible exact LeO.refl _)
      | (with_reducible exact LeO.none _)
      | (with_reducible refine LeO.ite ?_ ?_)
      | (with_reducible refine LeO.bind ?_ (fun _ => ?_))
      | exact ih0 _ _ _
      | exact LeO.none _
      | refine LeO.ite ?_ ?_
      | refine LeO.bind ?_ (fun _ => ?_)
set_option maxHeartbeats 8000000 in
set_option maxRecDepth 100000 in
theorem cachepotbook_SameAnswers.calls (k : Nat) (A0 : Option Addr) (c0 : Nat) (l0 : List (S101)) (A1 : Option Addr) (c1 : Nat) (l1 : List (S101)) (r : Bool) (w : World) (hr0 : Kd.C k101 w A0 l0.length l0) (hc0 : l0.length ≤ c0) (hr1 : Kd.C k101 w A1 l1.length l1) (hc1 : l1.length ≤ c1) (h : cachepotbook_SameAnswers.f k l0 l1 = some r) :
    Calls Tryd.prog 23 #[.slice A0 l0.length c0, .slice A1 l1.length c1] w fun e w' => e = .returned (.bool r) ∧ Drawn0 w w' := by
  have hu101 := Tryd.underlying101
  have HR0 := Aside0.mk hr0
  have HC0 := Aside0.mk hc0
  clear hr0 hc0
  have HR1 := Aside0.mk hr1
  have HC1 := Aside0.mk hc1
  clear hr1 hc1
  have H : (if (l0.length : Int) = (l1.length : Int) then (cachepotbook_SameAnswers.l0 k l0 l1 0) else (some false)) = some r := h
  clear h
  by_cases c3 : (l0.length : Int) = (l1.length : Int)
  · rw [if_pos c3] at H
    have c3b0 : ((l0.length : Int) == (l1.length : Int)) = true := beq_iff_eq.mpr c3
    have c3b1 : ((l0.length : Int) != (l1.length : Int)) = false := bne_eq_false_iff_eq.mpr c3
    have c3b2 : (l0.length == l1.length) = true := by first | simpa using c3 | (simp at c3 ⊢; omega)
    clear c3
    have H' := Aside0.mk H
    clear H
    go_enter Tryd.func23, Tryd.ntmps23
    go_wp2
    repeat (go_quiet (fail); try go_wp2)
    go_loopg [5] k (fun kq v5 w' => ∃ (x5_1 : Int), v5 = .int .i64 x5_1 ∧ Aside0 (cachepotbook_SameAnswers.l0 kq l0 l1 x5_1 = some r) ∧ Aside0 (kq ≤ k) ∧ Drawn0 w w')
    case atStart => exact ⟨(0), (by first | rfl | (simp; done) | (simp [*]; done)), H', ⟨Nat.le_refl _⟩, by repeat (first | exact Drawn0.refl _ | apply Drawn0.step)⟩
    case round =>
      clear H'
      try clear c1
      try clear c2
      try clear p2
      try clear c3
      try clear c3b0
      try clear c3b1
      try clear c3b2
      obtain ⟨x5_1, rfl, HA, HK1, ⟨m1, rfl⟩⟩ := hrel
      cases gk with
      | zero => exact absurd HA.out (by simp [cachepotbook_SameAnswers.l0])
      | succ k1 =>
        have H := HA.out
        clear HA
        simp only [cachepotbook_SameAnswers.l0] at H
        by_cases c4 : x5_1 < (l0.length : Int)
        · rw [if_pos c4] at H
          have c4b0 : decide (x5_1 < (l0.length : Int)) = true := decide_eq_true c4
          clear c4
          by_cases c5 : 0 ≤ x5_1
          · rw [if_pos c5] at H
            have c5b0 : decide (0 ≤ x5_1) = true := decide_eq_true c5
            clear c5
            by_cases c6 : x5_1 < (l1.length : Int)
            · rw [if_pos c6] at H
              have c6b0 : decide (x5_1 < (l1.length : Int)) = true := decide_eq_true c6
              clear c6
              by_cases c7 : (!((((rd_T101 l0 x5_1).f0).toList) == (((rd_T101 l1 x5_1).f0).toList)) || (!(((rd_T101 l0 x5_1).f1) == ((rd_T101 l1 x5_1).f1)) || (!((((rd_T101 l0 x5_1).f2).toList) == (((rd_T101 l1 x5_1).f2).toList)) || (!(((rd_T101 l0 x5_1).f3) == ((rd_T101 l1 x5_1).f3)))))) = true
              · rw [if_pos c7] at H
                have c7b0 : (!((((rd_T101 l0 x5_1).f0).toList) == (((rd_T101 l1 x5_1).f0).toList)) || (!(((rd_T101 l0 x5_1).f1) == ((rd_T101 l1 x5_1).f1)) || (!((((rd_T101 l0 x5_1).f2).toList) == (((rd_T101 l1 x5_1).f2).toList)) || (!(((rd_T101 l0 x5_1).f3) == ((rd_T101 l1 x5_1).f3)))))) = true := c7
                clear c7
                obtain rfl := Option.some.inj H
                have p115 : 0 ≤ (x5_1 : Int) := of_decide_eq_true (by first | (with_reducible assumption) | assumption)
                have q115 : x5_1 < (l0.length : Int) := of_decide_eq_true (by first | (with_reducible assumption) | assumption)
                obtain ⟨ad115, e115, hx115_0, hx115_1, hx115_2, hx115_3⟩ := at_T101 HR0.out x5_1 p115 q115
                cases e115
                replace p115 := eq_true p115
                replace q115 := eq_true q115
                have p116 : 0 ≤ (x5_1 : Int) := of_decide_eq_true (by first | (with_reducible assumption) | assumption)
                have q116 : x5_1 < (l1.length : Int) := of_decide_eq_true (by first | (with_reducible assumption) | assumption)
                obtain ⟨ad116, e116, hx116_0, hx116_1, hx116_2, hx116_3⟩ := at_T101 HR1.out x5_1 p116 q116
                cases e116
                replace p116 := eq_true p116
                replace q116 := eq_true q116
                go_wp2
                repeat (go_quiet (fail); try go_wp2)
                go_ret
                exact ⟨by first | rfl | (simp; done) | (simp [*]; done), by repeat (first | exact Drawn0.refl _ | apply Drawn0.step)⟩
              · rw [if_neg c7] at H
                have c7b0 : (!((((rd_T101 l0 x5_1).f0).toList) == (((rd_T101 l1 x5_1).f0).toList)) || (!(((rd_T101 l0 x5_1).f1) == ((rd_T101 l1 x5_1).f1)) || (!((((rd_T101 l0 x5_1).f2).toList) == (((rd_T101 l1 x5_1).f2).toList)) || (!(((rd_T101 l0 x5_1).f3) == ((rd_T101 l1 x5_1).f3)))))) = false := by simpa using c7
                clear c7
                have H' := Aside0.mk H
                clear H
                have p115 : 0 ≤ (x5_1 : Int) := of_decide_eq_true (by first | (with_reducible assumption) | assumption)
                have q115 : x5_1 < (l0.length : Int) := of_decide_eq_true (by first | (with_reducible assumption) | assumption)
                obtain ⟨ad115, e115, hx115_0, hx115_1, hx115_2, hx115_3⟩ := at_T101 HR0.out x5_1 p115 q115
                cases e115
                replace p115 := eq_true p115
                replace q115 := eq_true q115
                have p116 : 0 ≤ (x5_1 : Int) := of_decide_eq_true (by first | (with_reducible assumption) | assumption)
                have q116 : x5_1 < (l1.length : Int) := of_decide_eq_true (by first | (with_reducible assumption) | assumption)
                obtain ⟨ad116, e116, hx116_0, hx116_1, hx116_2, hx116_3⟩ := at_T101 HR1.out x5_1 p116 q116
                cases e116
                replace p116 := eq_true p116
                replace q116 := eq_true q116
                go_wp2
                repeat (go_quiet (fail); try go_wp2)
                go_roundg k1
                case measure => have := HK1.out; omega
                case rel => exact ⟨(wrap64 (x5_1 + 1)), (by first | rfl | (simp; done) | (simp [*]; done)), H', ⟨by have := HK1.out; omega⟩, by repeat (first | exact Drawn0.refl _ | apply Drawn0.step)⟩
            · rw [if_neg c6] at H
              exact absurd H (by simp)
          · rw [if_neg c5] at H
            exact absurd H (by simp)
        · rw [if_neg c4] at H
          have c4b0 : decide (x5_1 < (l0.length : Int)) = false := decide_eq_false c4
          clear c4
          obtain rfl := Option.some.inj H
          go_wp2
          repeat (go_quiet (fail); try go_wp2)
          go_ret
          exact ⟨by first | rfl | (simp; done) | (simp [*]; done), by repeat (first | exact Drawn0.refl _ | apply Drawn0.step)⟩
  · rw [if_neg c3] at H
    have c3b0 : ((l0.length : Int) == (l1.length : Int)) = false := beq_eq_false_iff_ne.mpr c3
    have c3b1 : ((l0.length : Int) != (l1.length : Int)) = true := bne_iff_ne.mpr c3
    have c3b2 : (l0.length == l1.length) = false := by first | simpa using c3 | (simp at c3 ⊢; omega)
    obtain rfl := Option.some.inj H
    go_enter Tryd.func23, Tryd.ntmps23
    go_wp2
    repeat (go_quiet (fail); try go_wp2)
    go_ret
    exact ⟨by first | rfl | (simp; done) | (simp [*]; done), by repeat (first | exact Drawn0.refl _ | apply Drawn0.step)⟩
end

section
/-! ### cachepotref1_Fill: function 93 -/
def cachepotref1_Fill.l0 : Nat → Int → List Int → Int → Option (ByteArray)
  | 0, _, _, _ => none
  | k + 1, x0, x5, x6 => if x6 < (x5.length : Int) then (if 0 ≤ x6 then (cachepotref1_Fill.l0 k x0 (x5.set (x6 : Int).toNat x0) (wrap64 (x6 + 1))) else (none)) else (some (strOfNums x5))
def cachepotref1_Fill.f (k : Nat) (a0 : Int) (a1 : Int) : Option (ByteArray) := if 0 ≤ (mx a1 0) then (if (mx a1 0 : Int).toNat ≤ 281474976710656 then (cachepotref1_Fill.l0 k a0 (List.replicate (mx a1 0 : Int).toNat 0) 0) else (none)) else (none)
theorem cachepotref1_Fill.mono_l : ∀ k, (∀ y0 y1 y2, LeO (cachepotref1_Fill.l0 k y0 y1 y2) (cachepotref1_Fill.l0 (k + 1) y0 y1 y2))
  | 0 => fun _ _ _ r h => by simp [cachepotref1_Fill.l0] at h
  | k + 1 => by
    have ih0 := cachepotref1_Fill.mono_l k
    · intro y0 y1 y2
      unfold cachepotref1_Fill.l0
      repeat' first
      | (with_reducible exact ih0 _ _ _)
      | (with_reducible exact LeO.refl _)
      | (with_reducible exact LeO.none _)
      | (with_reducible refine LeO.ite ?_ ?_)
      | (with_reducible refine LeO.bind ?_ (fun _ => ?_))
      | exact ih0 _ _ _
      | exact LeO.none _
      | refine LeO.ite ?_ ?_
      | refine LeO.bind ?_ (fun _ => ?_)
theorem cachepotref1_Fill.mono : ∀ a0 a1 k, LeO (cachepotref1_Fill.f k a0 a1) (cachepotref1_Fill.f (k + 1) a0 a1) := by
  intro a0 a1 k
  have ih0 := cachepotref1_Fill.mono_l k
  unfold cachepotref1_Fill.f
  repeat' first
      | (with_reducible exact ih0 _ _ _)
      | (with_reducible exact LeO.refl _)
      | (with_reducible exact LeO.none _)
      | (with_reducible refine LeO.ite ?_ ?_)
      | (with_reducible refine LeO.bind ?_ (fun _ => ?_))
      | exact ih0 _ _ _
      | exact LeO.none _
      | refine LeO.ite ?_ ?_
      | refine LeO.bind ?_ (fun _ => ?_)
set_option maxHeartbeats 8000000 in
set_option maxRecDepth 100000 in
theorem cachepotref1_Fill.calls (k : Nat) (a0 : Int) (a1 : Int) (r : ByteArray) (w : World) (h : cachepotref1_Fill.f k a0 a1 = some r) :
    Calls Tryd.prog 93 #[.int .u8 a0, .int .i64 a1] w fun e w' => e = .returned (.string r) ∧ Below w.heap.size w w' := by
  have HB := Aside0.mk (Below.refl w.heap.size w)
  have H : (if 0 ≤ (mx a1 0) then (if (mx a1 0 : Int).toNat ≤ 281474976710656 then (cachepotref1_Fill.l0 k a0 (List.replicate (mx a1 0 : Int).toNat 0) 0) else (none)) else (none)) = some r := h
  clear h
  obtain ⟨ji3, hji3⟩ : ∃ j_ : Int, (mx a1 0) = j_ := ⟨_, rfl⟩
  replace H : (if 0 ≤ (ji3) then (if (ji3 : Int).toNat ≤ 281474976710656 then (cachepotref1_Fill.l0 k a0 (List.replicate (ji3 : Int).toNat 0) 0) else (none)) else (none)) = some r := by first | (rw [hji3] at H; exact H) | (simp only [hji3] at H ⊢; exact H)
  (try (have hji3l : 0 ≤ ji3 := by (rw [← hji3]; unfold mx; (repeat' split) <;> omega)))
  (try (have hji3m : 0 ≤ ji3 := by omega))
  have hji3_ : (if a1 < 0 then 0 else a1) = ji3 := hji3
  by_cases c4 : 0 ≤ (ji3)
  · rw [if_pos c4] at H
    have c4b0 := eq_true c4
    have c4b1 : decide (0 ≤ (ji3)) = true := decide_eq_true c4
    clear c4
    by_cases c5 : (ji3 : Int).toNat ≤ 281474976710656
    · rw [if_pos c5] at H
      have c5b0 := eq_true c5
      have c5b1 : decide ((ji3 : Int).toNat ≤ 281474976710656) = true := decide_eq_true c5
      clear c5
      obtain ⟨y125, hy125⟩ : ∃ y_ : List Int, y_ = (List.replicate (ji3 : Int).toNat 0) := ⟨_, rfl⟩
      replace H : (cachepotref1_Fill.l0 k a0 y125 0) = some r := by first | (rw [hy125]; with_reducible exact H) | (have H2_ := (Option.bind_some _ _).symm.trans H; rw [hy125]; with_reducible exact H2_) | (have H2_ := (Option.bind_some _ _).symm.trans H; with_reducible exact H2_) | with_reducible exact H | (rw [hy125]; exact H) | exact H
      have Ny125 := Aside0.mk hy125
      clear hy125
      have H' := Aside0.mk H
      clear H
      go_enter Tryd.func93, Tryd.ntmps93
      go_wp2_with (first | ((with_reducible refine gate_dst (N := 9) rfl ?_); refine Kd.R_make (Kd.int .u8) _ 5 rfl (N := 9) rfl 106 _ _ rfl ji3 rfl rfl Tryd.underlying106 (.int .u8 0) 1 info5 rfl (by decide) (by omega) 0 (ok := fun _ => True) (okp := fun _ => True) rfl (fun _ hk => hk) trivial (of_decide_eq_true (by first | (with_reducible assumption) | assumption)) (Nat.le_trans (Nat.mul_le_mul_right _ (of_decide_eq_true (by first | (with_reducible assumption) | assumption) : ji3.toNat ≤ 281474976710656)) (by omega)) (Below.refl _ _) (Nat.le_refl _) ?_; intro v126 w6 ho7 hb hg_ hnew_; clear hg_ hnew_; (first | rw [← Ny125.out] at ho7 | (simp only [Int.reduceToNat] at ho7; rw [← Ny125.out] at ho7)); have n0_ := Aside0.mk (Kd.R_lower ho7 (below_size (by repeat (first | (with_reducible first | exact HB.out | apply below_alloc | apply pw_below_drewN | apply below_drew1) | exact HB.out)))); have n1_ := Aside0.mk (below_step (by repeat (first | (with_reducible first | exact HB.out | apply below_alloc | apply pw_below_drewN | apply below_drew1) | exact HB.out)) hb); clear HB; have HO127 := n0_; have HB := n1_; clear n0_ n1_; clear hb ho7))
      go_loopg [6] k (fun kq v6 w' => ∃ (x5_1 : List Int) (x6_1 : Int), v6 = .int .i64 x6_1 ∧ Aside0 (cachepotref1_Fill.l0 kq a0 x5_1 x6_1 = some r) ∧ Aside0 (kq ≤ k) ∧ Aside0 (Kd.R (Kd.int .u8) 5 w' w.heap.size (fun _ => True) v126 x5_1) ∧ Aside0 (Below w.heap.size w w'))
      case atStart => exact ⟨(y125), (0), (by first | rfl | (simp; done) | (simp [*]; done)), H', ⟨Nat.le_refl _⟩, ⟨by (with_reducible repeat (first | apply Kd.R_alloc | apply Kd.R_drewN | apply Kd.R_drew)); exact HO127.out⟩, ⟨by repeat (first | (with_reducible first | exact HB.out | apply below_alloc | apply pw_below_drewN | apply below_drew1) | exact HB.out)⟩⟩
      case round =>
        clear H'
        try clear p2
        try clear c4
        try clear c4b0
        try clear c4b1
        try clear c5
        try clear c5b0
        try clear c5b1
        obtain ⟨x5_1, x6_1, rfl, HA, HK1, HO_5, HB⟩ := hrel
        cases gk with
        | zero => exact absurd HA.out (by simp [cachepotref1_Fill.l0])
        | succ k1 =>
          have H := HA.out
          clear HA
          simp only [cachepotref1_Fill.l0] at H
          by_cases c8 : x6_1 < (x5_1.length : Int)
          · rw [if_pos c8] at H
            have c8b0 : decide (x6_1 < (x5_1.length : Int)) = true := decide_eq_true c8
            clear c8
            by_cases c9 : 0 ≤ x6_1
            · rw [if_pos c9] at H
              have c9b0 : decide (0 ≤ x6_1) = true := decide_eq_true c9
              clear c9
              obtain ⟨y128, hy128⟩ : ∃ y_ : List Int, y_ = (x5_1.set (x6_1 : Int).toNat a0) := ⟨_, rfl⟩
              replace H : (cachepotref1_Fill.l0 k1 a0 y128 (wrap64 (x6_1 + 1))) = some r := by first | (rw [hy128]; with_reducible exact H) | (have H2_ := (Option.bind_some _ _).symm.trans H; rw [hy128]; with_reducible exact H2_) | (have H2_ := (Option.bind_some _ _).symm.trans H; with_reducible exact H2_) | with_reducible exact H | (rw [hy128]; exact H) | exact H
              have Ny128 := Aside0.mk hy128
              clear hy128
              have H' := Aside0.mk H
              clear H
              obtain ⟨Ao11, co11, eo11⟩ := Kd.R_slice HO_5.out
              subst eo11
              have p10 : 0 ≤ (x6_1 : Int) := of_decide_eq_true (by first | (with_reducible assumption) | assumption)
              have q10 : (x6_1 : Int) < ((x5_1.length : Int) : Int) := of_decide_eq_true (by first | (with_reducible assumption) | assumption)
              obtain ⟨go10, co10, eo10, gb10, gl10, cl10, HG10⟩ := Kd.R_form HO_5.out (by omega)
              (first | cases eo10 | (injection eo10 with ea_ en_ ec_; (first | subst ea_ | (injection ea_ with ea_; subst ea_)); subst ec_; clear en_))
              have GB10 := Aside0.mk gb10
              have GG10 := Aside0.mk HG10
              clear gb10 gl10 HG10
              obtain ⟨hx10_0, hf10_0⟩ := Kd.R_celln 0 HO_5.out (x6_1 : Int) p10 q10
              replace p10 := eq_true p10
              replace q10 := eq_true q10
              have HP12 := Kd.R_putg HO_5.out (x6_1 : Int) a0
              go_wp2_with (first | ((with_reducible refine gate_store (t := 5) (p := 19) rfl ?_); refine store_event (t := 5) (p := 19) (v := ?vo_w13) (w1 := (wr.setCell ⟨go10, (x6_1 : Int).toNat, none⟩ (.int .u8 a0))) ?hg ?ho ?hn ?hr ?_; (case ho => rfl); (case hg => rfl); (case hn => rfl); (case hr => first | (go_simp; done) | (go_simp; rfl)); intro w13 hw; have hg : wr.grownBy w13 (some go10) := (by rw [hw]; exact HP12.2); have hp_ : Kd.R (Kd.int .u8) 5 w13 w.heap.size (fun _ => True) (.slice (some ⟨go10, 0, none⟩) x5_1.length co11) y128 := (by rw [hw, Ny128.out]; exact HP12.1); clear HP12; have n0_ := Aside0.mk (hp_); have n1_ := Aside0.mk ((by rw [hw]; exact below_set (HB.out) GB10.out : Below w.heap.size w w13)); clear HO_5; clear HB; have HO_5 := n0_; have HB := n1_; clear n0_ n1_; clear hg hw hp_))
              go_roundg k1
              case measure => have := HK1.out; omega
              case rel => exact ⟨(y128), (wrap64 (x6_1 + 1)), (by first | rfl | (simp; done) | (simp [*]; done)), H', ⟨by have := HK1.out; omega⟩, ⟨by (with_reducible repeat (first | apply Kd.R_alloc | apply Kd.R_drewN | apply Kd.R_drew)); exact HO_5.out⟩, ⟨by repeat (first | (with_reducible first | exact HB.out | apply below_alloc | apply pw_below_drewN | apply below_drew1) | exact HB.out)⟩⟩
            · rw [if_neg c9] at H
              exact absurd H (by simp)
          · rw [if_neg c8] at H
            have c8b0 : decide (x6_1 < (x5_1.length : Int)) = false := decide_eq_false c8
            clear c8
            obtain rfl := Option.some.inj H
            obtain ⟨Ao14, co14, eo14⟩ := Kd.R_slice HO_5.out
            subst eo14
            have hcv15 := own_string (P := Tryd.prog) Tryd.underlying106 Tryd.underlying5 Tryd.underlying9 (Kd.own_of_R HO_5.out)
            go_wp2
            go_ret
            exact ⟨by first | rfl | (simp [errW_none, errW_some] <;> rfl) | (simp only [← hji3]; first | rfl | (simp [errW_none, errW_some] <;> rfl)) | (simp [*, errW_none, errW_some] <;> rfl), by repeat (first | (with_reducible first | exact HB.out | apply below_alloc | apply pw_below_drewN | apply below_drew1) | exact HB.out)⟩
    · rw [if_neg c5] at H
      exact absurd H (by simp)
  · rw [if_neg c4] at H
    exact absurd H (by simp)
end

section
/-! ### cachepothand_Val: function 52 -/
def cachepothand_Val.f (k : Nat) (a0 : ByteArray) (a1 : Int) : Option (ByteArray) := (cachepotbook_Pick.f a1 9).bind fun t129 => (if t129 = 8 then ((cachepotref1_Fill.f k 120 40).bind fun t130 => (if a0.size + t130.size ≤ 9223372036854775807 then ((cachepotbook_Short.f (a0 ++ t130) 48).bind fun t131 => (some t131)) else (none))) else ((cachepotbook_Short.f a0 48).bind fun t132 => (some t132)))
theorem cachepothand_Val.mono : ∀ a0 a1 k, LeO (cachepothand_Val.f k a0 a1) (cachepothand_Val.f (k + 1) a0 a1) := by
  intro a0 a1 k
  unfold cachepothand_Val.f
  repeat' first
      | (with_reducible exact cachepotref1_Fill.mono _ _ _)
      | (with_reducible exact LeO.refl _)
      | (with_reducible exact LeO.none _)
      | (with_reducible refine LeO.ite ?_ ?_)
      | (with_reducible refine LeO.bind ?_ (fun _ => ?_))
      | exact cachepotref1_Fill.mono _ _ _
      | exact LeO.none _
      | refine LeO.ite ?_ ?_
      | refine LeO.bind ?_ (fun _ => ?_)
set_option maxHeartbeats 8000000 in
set_option maxRecDepth 100000 in
theorem cachepothand_Val.calls (k : Nat) (a0 : ByteArray) (a1 : Int) (r : ByteArray) (w : World) (h : cachepothand_Val.f k a0 a1 = some r) :
    Calls Tryd.prog 52 #[.string a0, .int .i64 a1] w fun e w' => e = .returned (.string r) ∧ Below w.heap.size w w' := by
  have HB := Aside0.mk (Below.refl w.heap.size w)
  have H : ((cachepotbook_Pick.f a1 9).bind fun t129 => (if t129 = 8 then ((cachepotref1_Fill.f k 120 40).bind fun t130 => (if a0.size + t130.size ≤ 9223372036854775807 then ((cachepotbook_Short.f (a0 ++ t130) 48).bind fun t131 => (some t131)) else (none))) else ((cachepotbook_Short.f a0 48).bind fun t132 => (some t132)))) = some r := h
  clear h
  replace H := Option.bind_eq_some_iff.mp H
  obtain ⟨t129, A30, H⟩ := H
  replace H : (if t129 = 8 then ((cachepotref1_Fill.f k 120 40).bind fun t130 => (if a0.size + t130.size ≤ 9223372036854775807 then ((cachepotbook_Short.f (a0 ++ t130) 48).bind fun t131 => (some t131)) else (none))) else ((cachepotbook_Short.f a0 48).bind fun t132 => (some t132))) = some r := H
  have A3 := Aside0.mk A30
  clear A30
  by_cases c4 : t129 = 8
  · rw [if_pos c4] at H
    have c4b0 : (t129 == 8) = true := beq_iff_eq.mpr c4
    have c4b1 : (t129 != 8) = false := bne_eq_false_iff_eq.mpr c4
    clear c4
    replace H := Option.bind_eq_some_iff.mp H
    obtain ⟨t130, A50, H⟩ := H
    replace H : (if a0.size + t130.size ≤ 9223372036854775807 then ((cachepotbook_Short.f (a0 ++ t130) 48).bind fun t131 => (some t131)) else (none)) = some r := H
    have A5 := Aside0.mk A50
    clear A50
    by_cases c6 : a0.size + t130.size ≤ 9223372036854775807
    · rw [if_pos c6] at H
      have c6b0 := eq_true c6
      have c6b1 : decide (a0.size + t130.size ≤ 9223372036854775807) = true := decide_eq_true c6
      try have c6b2 : (9223372036854775807 < a0.size + t130.size) = False := eq_false (Nat.not_lt.2 c6)
      replace H := Option.bind_eq_some_iff.mp H
      obtain ⟨t131, A70, H⟩ := H
      replace H : (some t131) = some r := H
      have A7 := Aside0.mk A70
      clear A70
      obtain rfl := Option.some.inj H
      go_enter Tryd.func52, Tryd.ntmps52
      go_wp2_with (first | ((with_reducible refine gate_callee (f := 19) rfl ?_); refine goesL_ (some 6) rfl rfl Tryd.func19 (by kernel_rfl) rfl #[.int .i64 a1, .int .i64 9] rfl (by (try simp only [List.map_toArray, List.map_cons, List.map_nil]); first | done | rfl | (simp only [List.length_drop, List.length_take]; rfl)) ?_; (with_reducible refine (cachepotbook_Pick.calls a1 9 t129 _ A3.out).mono ?_); rintro e w' ⟨rfl, ⟨nd, rfl⟩⟩; refine ⟨_, rfl, ?_⟩) | ((with_reducible refine gate_callee (f := 93) rfl ?_); refine goesL_ (some 9) rfl rfl Tryd.func93 (by kernel_rfl) rfl #[.int .u8 120, .int .i64 40] rfl (by (try simp only [List.map_toArray, List.map_cons, List.map_nil]); first | done | rfl | (simp only [List.length_drop, List.length_take]; rfl)) ?_; (with_reducible refine (cachepotref1_Fill.calls k 120 40 t130 _ A5.out).mono ?_); rintro e w8 ⟨rfl, hb⟩; refine ⟨_, rfl, ?_⟩; have n0_ := Aside0.mk (below_step (by repeat (first | (with_reducible first | exact HB.out | apply below_alloc | apply pw_below_drewN | apply below_drew1) | exact HB.out)) hb); clear HB; have HB := n0_; clear n0_; (try clear hb); (try clear hb2); (try clear hk); (try clear hi)) | ((with_reducible refine gate_callee (f := 73) rfl ?_); refine goesL_ (some 12) rfl rfl Tryd.func73 (by kernel_rfl) rfl #[.string (a0 ++ t130), .int .i64 48] rfl (by (try simp only [List.map_toArray, List.map_cons, List.map_nil]); first | done | rfl | (simp only [List.length_drop, List.length_take]; rfl)) ?_; (with_reducible refine (cachepotbook_Short.calls (a0 ++ t130) 48 t131 _ A7.out).mono ?_); rintro e w9 ⟨rfl, hb⟩; refine ⟨_, rfl, ?_⟩; have n0_ := Aside0.mk (below_step (by repeat (first | (with_reducible first | exact HB.out | apply below_alloc | apply pw_below_drewN | apply below_drew1) | exact HB.out)) hb); clear HB; have HB := n0_; clear n0_; (try clear hb); (try clear hb2); (try clear hk); (try clear hi)))
      go_ret
      exact ⟨by first | rfl | (simp [errW_none, errW_some] <;> rfl) | (simp [*, errW_none, errW_some] <;> rfl), by repeat (first | (with_reducible first | exact HB.out | apply below_alloc | apply pw_below_drewN | apply below_drew1) | exact HB.out)⟩
    · rw [if_neg c6] at H
      exact absurd H (by simp)
  · rw [if_neg c4] at H
    have c4b0 : (t129 == 8) = false := beq_eq_false_iff_ne.mpr c4
    have c4b1 : (t129 != 8) = true := bne_iff_ne.mpr c4
    replace H := Option.bind_eq_some_iff.mp H
    obtain ⟨t132, A100, H⟩ := H
    replace H : (some t132) = some r := H
    have A10 := Aside0.mk A100
    clear A100
    obtain rfl := Option.some.inj H
    go_enter Tryd.func52, Tryd.ntmps52
    go_wp2_with (first | ((with_reducible refine gate_callee (f := 19) rfl ?_); refine goesL_ (some 6) rfl rfl Tryd.func19 (by kernel_rfl) rfl #[.int .i64 a1, .int .i64 9] rfl (by (try simp only [List.map_toArray, List.map_cons, List.map_nil]); first | done | rfl | (simp only [List.length_drop, List.length_take]; rfl)) ?_; (with_reducible refine (cachepotbook_Pick.calls a1 9 t129 _ A3.out).mono ?_); rintro e w' ⟨rfl, ⟨nd, rfl⟩⟩; refine ⟨_, rfl, ?_⟩) | ((with_reducible refine gate_callee (f := 73) rfl ?_); refine goesL_ (some 12) rfl rfl Tryd.func73 (by kernel_rfl) rfl #[.string a0, .int .i64 48] rfl (by (try simp only [List.map_toArray, List.map_cons, List.map_nil]); first | done | rfl | (simp only [List.length_drop, List.length_take]; rfl)) ?_; (with_reducible refine (cachepotbook_Short.calls a0 48 t132 _ A10.out).mono ?_); rintro e w11 ⟨rfl, hb⟩; refine ⟨_, rfl, ?_⟩; have n0_ := Aside0.mk (below_step (by repeat (first | (with_reducible first | exact HB.out | apply below_alloc | apply pw_below_drewN | apply below_drew1) | exact HB.out)) hb); clear HB; have HB := n0_; clear n0_; (try clear hb); (try clear hb2); (try clear hk); (try clear hi)))
    go_ret
    exact ⟨by first | rfl | (simp [errW_none, errW_some] <;> rfl) | (simp [*, errW_none, errW_some] <;> rfl), by repeat (first | (with_reducible first | exact HB.out | apply below_alloc | apply pw_below_drewN | apply below_drew1) | exact HB.out)⟩
end

section
/-! ### cachepotref1_BatchFind: function 38 -/
def cachepotref1_BatchFind.l0 : Nat → List (S44) → ByteArray → Int → Option (ByteArray × Bool × ByteArray × Bool)
  | 0, _, _, _ => none
  | k + 1, x0, x1, x6 => if x6 ≥ 0 then (if 0 ≤ x6 then (if x6 < (x0.length : Int) then (if ((rd_T44 x0 x6).f0).toList = x1.toList then (some ((rd_T44 x0 x6).f0, (rd_T44 x0 x6).f1, (rd_T44 x0 x6).f2, true)) else (cachepotref1_BatchFind.l0 k x0 x1 (wrap64 (x6 - 1)))) else (none)) else (none)) else (some ((⟨#[]⟩ : ByteArray), false, (⟨#[]⟩ : ByteArray), false))
def cachepotref1_BatchFind.f (k : Nat) (l0 : List (S44)) (a1 : ByteArray) : Option (ByteArray × Bool × ByteArray × Bool) := cachepotref1_BatchFind.l0 k l0 a1 (wrap64 ((l0.length : Int) - 1))
theorem cachepotref1_BatchFind.mono_l : ∀ k, (∀ y0 y1 y2, LeO (cachepotref1_BatchFind.l0 k y0 y1 y2) (cachepotref1_BatchFind.l0 (k + 1) y0 y1 y2))
  | 0 => fun _ _ _ r h => by simp [cachepotref1_BatchFind.l0] at h
  | k + 1 => by
    have ih0 := cachepotref1_BatchFind.mono_l k
    · intro y0 y1 y2
      unfold cachepotref1_BatchFind.l0
      repeat' first
      | (with_reducible exact ih0 _ _ _)
      | (with_reducible exact LeO.refl _)
      | (with_reducible exact LeO.none _)
      | (with_reducible refine LeO.ite ?_ ?_)
      | (with_reducible refine LeO.bind ?_ (fun _ => ?_))
      | exact ih0 _ _ _
      | exact LeO.none _
      | refine LeO.ite ?_ ?_
      | refine LeO.bind ?_ (fun _ => ?_)
theorem cachepotref1_BatchFind.mono : ∀ a0 a1 k, LeO (cachepotref1_BatchFind.f k a0 a1) (cachepotref1_BatchFind.f (k + 1) a0 a1) := by
  intro a0 a1 k
  have ih0 := cachepotref1_BatchFind.mono_l k
  unfold cachepotref1_BatchFind.f
  repeat' first
      | (with_reducible exact ih0 _ _ _)
      | (with_reducible exact LeO.refl _)
      | (with_reducible exact LeO.none _)
      | (with_reducible refine LeO.ite ?_ ?_)
      | (with_reducible refine LeO.bind ?_ (fun _ => ?_))
      | exact ih0 _ _ _
      | exact LeO.none _
      | refine LeO.ite ?_ ?_
      | refine LeO.bind ?_ (fun _ => ?_)
set_option maxHeartbeats 8000000 in
set_option maxRecDepth 100000 in
theorem cachepotref1_BatchFind.calls (k : Nat) (A0 : Option Addr) (c0 : Nat) (l0 : List (S44)) (a1 : ByteArray) (r1 : ByteArray) (r2 : Bool) (r3 : ByteArray) (r4 : Bool) (w : World) (hr0 : Kd.C k44 w A0 l0.length l0) (hc0 : l0.length ≤ c0) (h : cachepotref1_BatchFind.f k l0 a1 = some (r1, r2, r3, r4)) :
    Calls Tryd.prog 38 #[.slice A0 l0.length c0, .string a1] w fun e w' => e = .returned (.tuple #[.agg #[.string r1, .bool r2, .string r3], .bool r4]) ∧ Below w.heap.size w w' := by
  have hu44 := Tryd.underlying44
  have HR0 := Aside0.mk hr0
  have HC0 := Aside0.mk hc0
  clear hr0 hc0
  have HB := Aside0.mk (Below.refl w.heap.size w)
  have H : (cachepotref1_BatchFind.l0 k l0 a1 (wrap64 ((l0.length : Int) - 1))) = some (r1, r2, r3, r4) := h
  clear h
  have H' := Aside0.mk H
  clear H
  go_enter Tryd.func38, Tryd.ntmps38
  go_wp2_with (first | ((with_reducible refine gate_dst (N := 4) rfl ?_); refine box_event ?hg (N := 4) ?hd (cs := #[.string (⟨#[]⟩ : ByteArray), .bool false, .string (⟨#[]⟩ : ByteArray)]) (t := 44) ?hr ?_; (case hd => rfl); (case hg => rfl); (case hr => first | (go_simp; done) | (go_simp; rfl)); intro gb133 hg w3 hbox hb; have n0_ := Aside0.mk (below_step (by repeat (first | (with_reducible first | exact HB.out | apply below_alloc | apply pw_below_drewN | apply below_drew1) | exact HB.out)) hb); have n1_ := Aside0.mk (hbox); have n2_ := Aside0.mk ((by rw [hg]; exact (below_size (by repeat (first | (with_reducible first | exact HB.out | apply below_alloc | apply pw_below_drewN | apply below_drew1) | exact HB.out))) : w.heap.size ≤ gb133)); have n3_ := Aside0.mk ((by rw [hg]; exact (below_size (by repeat (first | (with_reducible first | exact HB.out | apply below_alloc | apply pw_below_drewN | apply below_drew1) | exact HB.out))) : w.heap.size ≤ gb133)); clear HB; have HB := n0_; have BK133 := n1_; have GW133 := n2_; have GE133 := n3_; clear n0_ n1_ n2_ n3_; clear hb hbox hg))
  go_loopg [6] k (fun kq v6 w' => ∃ (x6_1 : Int) (x134000_1 : ByteArray) (x134001_1 : Bool) (x134002_1 : ByteArray), v6 = .int .i64 x6_1 ∧ Aside0 (cachepotref1_BatchFind.l0 kq l0 a1 x6_1 = some (r1, r2, r3, r4)) ∧ Aside0 (kq ≤ k) ∧ Aside0 (w'.heap[gb133]? = some (.cells #[.string x134000_1, .bool x134001_1, .string x134002_1] 44 (0, 0))) ∧ Aside0 (Below w.heap.size w w'))
  case atStart => exact ⟨(wrap64 ((l0.length : Int) - 1)), ((⟨#[]⟩ : ByteArray)), (false), ((⟨#[]⟩ : ByteArray)), (by first | rfl | (simp; done) | (simp [*]; done)), H', ⟨Nat.le_refl _⟩, ⟨by (with_reducible repeat (first | refine blk_drewN ?_ _ | refine blk_drew ?_ | refine blk_alloc ?_ _)); exact BK133.out⟩, ⟨by repeat (first | (with_reducible first | exact HB.out | apply below_alloc | apply pw_below_drewN | apply below_drew1 | refine below_set ?_ GE133.out) | exact HB.out)⟩⟩
  case round =>
    clear H'
    try clear p2
    try clear c3
    obtain ⟨x6_1, x134000_1, x134001_1, x134002_1, rfl, HA, HK1, BK133, HB⟩ := hrel
    cases gk with
    | zero => exact absurd HA.out (by simp [cachepotref1_BatchFind.l0])
    | succ k1 =>
      have H := HA.out
      clear HA
      simp only [cachepotref1_BatchFind.l0] at H
      by_cases c4 : x6_1 ≥ 0
      · rw [if_pos c4] at H
        have c4b0 : decide (0 ≤ x6_1) = true := decide_eq_true c4
        clear c4
        by_cases c5 : 0 ≤ x6_1
        · rw [if_pos c5] at H
          have c5b0 : decide (0 ≤ x6_1) = true := decide_eq_true c5
          clear c5
          by_cases c6 : x6_1 < (l0.length : Int)
          · rw [if_pos c6] at H
            have c6b0 : decide (x6_1 < (l0.length : Int)) = true := decide_eq_true c6
            clear c6
            by_cases c7 : ((rd_T44 l0 x6_1).f0).toList = a1.toList
            · rw [if_pos c7] at H
              have c7b0 : (((rd_T44 l0 x6_1).f0).toList == a1.toList) = true := beq_iff_eq.mpr c7
              have c7b1 : (((rd_T44 l0 x6_1).f0).toList != a1.toList) = false := bne_eq_false_iff_eq.mpr c7
              clear c7
              simp only [Option.some.injEq, Prod.mk.injEq] at H
              obtain ⟨rfl, rfl, rfl, rfl⟩ := H
              have p134 : 0 ≤ (x6_1 : Int) := of_decide_eq_true (by first | (with_reducible assumption) | assumption)
              have q134 : x6_1 < (l0.length : Int) := of_decide_eq_true (by first | (with_reducible assumption) | assumption)
              obtain ⟨ad134, e134, hx134_0, hx134_1, hx134_2⟩ := at_T44 HR0.out x6_1 p134 q134
              cases e134
              replace hx134_0 := (HB.out.cell (World.block_lt_of_cell? w _ hx134_0)).trans hx134_0
              replace hx134_1 := (HB.out.cell (World.block_lt_of_cell? w _ hx134_1)).trans hx134_1
              replace hx134_2 := (HB.out.cell (World.block_lt_of_cell? w _ hx134_2)).trans hx134_2
              replace p134 := eq_true p134
              replace q134 := eq_true q134
              have p135 : 0 ≤ (x6_1 : Int) := of_decide_eq_true (by first | (with_reducible assumption) | assumption)
              have q135 : x6_1 < (l0.length : Int) := of_decide_eq_true (by first | (with_reducible assumption) | assumption)
              obtain ⟨ad135, e135, hx135_0, hx135_1, hx135_2⟩ := at_T44 HR0.out x6_1 p135 q135
              obtain rfl : ad134 = ad135 := (by injection e135)
              replace hx135_0 := (HB.out.cell (World.block_lt_of_cell? w _ hx135_0)).trans hx135_0
              replace hx135_1 := (HB.out.cell (World.block_lt_of_cell? w _ hx135_1)).trans hx135_1
              replace hx135_2 := (HB.out.cell (World.block_lt_of_cell? w _ hx135_2)).trans hx135_2
              replace p135 := eq_true p135
              replace q135 := eq_true q135
              have hcz8_0 : wr.cell? ⟨gb133, 0, none⟩ = some (.string x134000_1) := (blk_cell BK133.out 0).trans rfl
              have hcz8_1 : wr.cell? ⟨gb133, 1, none⟩ = some (.bool x134001_1) := (blk_cell BK133.out 1).trans rfl
              have hcz8_2 : wr.cell? ⟨gb133, 2, none⟩ = some (.string x134002_1) := (blk_cell BK133.out 2).trans rfl
              have hfz8_0 := blk_frozen BK133.out 0
              have hfz8_1 := blk_frozen BK133.out 1
              have hfz8_2 := blk_frozen BK133.out 2
              go_wp2
              refine bodyPost_ret (results_ct rfl _ _ gb133 44 #[.string ((rd_T44 l0 x6_1).f0), .bool ((rd_T44 l0 x6_1).f1), .string ((rd_T44 l0 x6_1).f2)] (0, 0) _ rfl (by (with_reducible repeat (first | refine blk_drewN ?_ _ | refine blk_drew ?_ | refine blk_alloc ?_ _)); refine blk_put (cs := #[.string ((rd_T44 l0 x6_1).f0), .bool ((rd_T44 l0 x6_1).f1), .string x134002_1]) ?_ 2 _ rfl; (with_reducible repeat (first | refine blk_drewN ?_ _ | refine blk_drew ?_ | refine blk_alloc ?_ _)); refine blk_put (cs := #[.string ((rd_T44 l0 x6_1).f0), .bool x134001_1, .string x134002_1]) ?_ 1 _ rfl; (with_reducible repeat (first | refine blk_drewN ?_ _ | refine blk_drew ?_ | refine blk_alloc ?_ _)); refine blk_put (cs := #[.string x134000_1, .bool x134001_1, .string x134002_1]) ?_ 0 _ rfl; (with_reducible repeat (first | refine blk_drewN ?_ _ | refine blk_drew ?_ | refine blk_alloc ?_ _)); exact BK133.out) Tryd.underlying44 rfl (by kernel_rfl)) rfl ?_
              exact ⟨by first | rfl | (simp [errW_none, errW_some] <;> rfl) | (simp [*, errW_none, errW_some] <;> rfl), by repeat (first | (with_reducible first | exact HB.out | apply below_alloc | apply pw_below_drewN | apply below_drew1 | refine below_set ?_ GE133.out) | exact HB.out)⟩
            · rw [if_neg c7] at H
              have c7b0 : (((rd_T44 l0 x6_1).f0).toList == a1.toList) = false := beq_eq_false_iff_ne.mpr c7
              have c7b1 : (((rd_T44 l0 x6_1).f0).toList != a1.toList) = true := bne_iff_ne.mpr c7
              have H' := Aside0.mk H
              clear H
              have p134 : 0 ≤ (x6_1 : Int) := of_decide_eq_true (by first | (with_reducible assumption) | assumption)
              have q134 : x6_1 < (l0.length : Int) := of_decide_eq_true (by first | (with_reducible assumption) | assumption)
              obtain ⟨ad134, e134, hx134_0, hx134_1, hx134_2⟩ := at_T44 HR0.out x6_1 p134 q134
              cases e134
              replace hx134_0 := (HB.out.cell (World.block_lt_of_cell? w _ hx134_0)).trans hx134_0
              replace hx134_1 := (HB.out.cell (World.block_lt_of_cell? w _ hx134_1)).trans hx134_1
              replace hx134_2 := (HB.out.cell (World.block_lt_of_cell? w _ hx134_2)).trans hx134_2
              replace p134 := eq_true p134
              replace q134 := eq_true q134
              go_wp2
              go_roundg k1
              case measure => have := HK1.out; omega
              case rel => exact ⟨(wrap64 (x6_1 - 1)), (x134000_1), (x134001_1), (x134002_1), (by first | rfl | (simp; done) | (simp [*]; done)), H', ⟨by have := HK1.out; omega⟩, ⟨by (with_reducible repeat (first | refine blk_drewN ?_ _ | refine blk_drew ?_ | refine blk_alloc ?_ _)); exact BK133.out⟩, ⟨by repeat (first | (with_reducible first | exact HB.out | apply below_alloc | apply pw_below_drewN | apply below_drew1 | refine below_set ?_ GE133.out) | exact HB.out)⟩⟩
          · rw [if_neg c6] at H
            exact absurd H (by simp)
        · rw [if_neg c5] at H
          exact absurd H (by simp)
      · rw [if_neg c4] at H
        have c4b0 : decide (0 ≤ x6_1) = false := decide_eq_false c4
        clear c4
        simp only [Option.some.injEq, Prod.mk.injEq] at H
        obtain ⟨rfl, rfl, rfl, rfl⟩ := H
        have hcz9_0 : wr.cell? ⟨gb133, 0, none⟩ = some (.string x134000_1) := (blk_cell BK133.out 0).trans rfl
        have hcz9_1 : wr.cell? ⟨gb133, 1, none⟩ = some (.bool x134001_1) := (blk_cell BK133.out 1).trans rfl
        have hcz9_2 : wr.cell? ⟨gb133, 2, none⟩ = some (.string x134002_1) := (blk_cell BK133.out 2).trans rfl
        have hfz9_0 := blk_frozen BK133.out 0
        have hfz9_1 := blk_frozen BK133.out 1
        have hfz9_2 := blk_frozen BK133.out 2
        go_wp2
        refine bodyPost_ret (results_ct rfl _ _ gb133 44 #[.string (⟨#[]⟩ : ByteArray), .bool false, .string (⟨#[]⟩ : ByteArray)] (0, 0) _ rfl (by (with_reducible repeat (first | refine blk_drewN ?_ _ | refine blk_drew ?_ | refine blk_alloc ?_ _)); refine blk_put (cs := #[.string (⟨#[]⟩ : ByteArray), .bool false, .string x134002_1]) ?_ 2 _ rfl; (with_reducible repeat (first | refine blk_drewN ?_ _ | refine blk_drew ?_ | refine blk_alloc ?_ _)); refine blk_put (cs := #[.string (⟨#[]⟩ : ByteArray), .bool x134001_1, .string x134002_1]) ?_ 1 _ rfl; (with_reducible repeat (first | refine blk_drewN ?_ _ | refine blk_drew ?_ | refine blk_alloc ?_ _)); refine blk_put (cs := #[.string x134000_1, .bool x134001_1, .string x134002_1]) ?_ 0 _ rfl; (with_reducible repeat (first | refine blk_drewN ?_ _ | refine blk_drew ?_ | refine blk_alloc ?_ _)); exact BK133.out) Tryd.underlying44 rfl (by kernel_rfl)) rfl ?_
        exact ⟨by first | rfl | (simp [errW_none, errW_some] <;> rfl) | (simp [*, errW_none, errW_some] <;> rfl), by repeat (first | (with_reducible first | exact HB.out | apply below_alloc | apply pw_below_drewN | apply below_drew1 | refine below_set ?_ GE133.out) | exact HB.out)⟩
end

section
/-! ### cachepotref1_follows: function 132 -/
def cachepotref1_follows.f (a0 : ByteArray) (a1 : Int) (a2 : Int) (a3 : Int) : Option (Bool) := if a1 < (a0.size : Int) then (if 0 ≤ a1 then (if (bt a0 a1) ≥ a2 then (some (decide ((bt a0 a1) ≤ a3))) else (some false)) else (none)) else (some false)
set_option maxHeartbeats 8000000 in
set_option maxRecDepth 100000 in
theorem cachepotref1_follows.calls (a0 : ByteArray) (a1 : Int) (a2 : Int) (a3 : Int) (r : Bool) (w : World) (h : cachepotref1_follows.f a0 a1 a2 a3 = some r) :
    Calls Tryd.prog 132 #[.string a0, .int .i64 a1, .int .u8 a2, .int .u8 a3] w fun e w' => e = .returned (.bool r) ∧ Drawn0 w w' := by
  have H : (if a1 < (a0.size : Int) then (if 0 ≤ a1 then (if (bt a0 a1) ≥ a2 then (some (decide ((bt a0 a1) ≤ a3))) else (some false)) else (none)) else (some false)) = some r := h
  clear h
  by_cases c5 : a1 < (a0.size : Int)
  · rw [if_pos c5] at H
    have c5b0 : decide (a1 < (a0.size : Int)) = true := decide_eq_true c5
    clear c5
    by_cases c6 : 0 ≤ a1
    · rw [if_pos c6] at H
      have c6b0 : decide (0 ≤ a1) = true := decide_eq_true c6
      clear c6
      by_cases c8 : (bt a0 a1) ≥ a2
      · rw [if_pos c8] at H
        have c8b0 : decide (a2 ≤ (bt a0 a1)) = true := decide_eq_true c8
        clear c8
        obtain rfl := Option.some.inj H
        have p7 : 0 ≤ (a1 : Int) := of_decide_eq_true (by first | (with_reducible assumption) | assumption)
        have q7 : a1 < (a0.size : Int) := of_decide_eq_true (by first | (with_reducible assumption) | assumption)
        have hx7 := bt_at a0 a1
        replace p7 := eq_true p7
        replace q7 := eq_true q7
        have p9 : 0 ≤ (a1 : Int) := of_decide_eq_true (by first | (with_reducible assumption) | assumption)
        have q9 : a1 < (a0.size : Int) := of_decide_eq_true (by first | (with_reducible assumption) | assumption)
        have hx9 := bt_at a0 a1
        replace p9 := eq_true p9
        replace q9 := eq_true q9
        go_enter Tryd.func132, Tryd.ntmps132
        go_wp2
        go_ret
        exact ⟨by first | rfl | (simp; done) | (simp [*]; done), by repeat (first | exact Drawn0.refl _ | apply Drawn0.step)⟩
      · rw [if_neg c8] at H
        have c8b0 : decide (a2 ≤ (bt a0 a1)) = false := decide_eq_false c8
        clear c8
        obtain rfl := Option.some.inj H
        have p7 : 0 ≤ (a1 : Int) := of_decide_eq_true (by first | (with_reducible assumption) | assumption)
        have q7 : a1 < (a0.size : Int) := of_decide_eq_true (by first | (with_reducible assumption) | assumption)
        have hx7 := bt_at a0 a1
        replace p7 := eq_true p7
        replace q7 := eq_true q7
        go_enter Tryd.func132, Tryd.ntmps132
        go_wp2
        go_ret
        exact ⟨by first | rfl | (simp; done) | (simp [*]; done), by repeat (first | exact Drawn0.refl _ | apply Drawn0.step)⟩
    · rw [if_neg c6] at H
      exact absurd H (by simp)
  · rw [if_neg c5] at H
    have c5b0 : decide (a1 < (a0.size : Int)) = false := decide_eq_false c5
    clear c5
    obtain rfl := Option.some.inj H
    go_enter Tryd.func132, Tryd.ntmps132
    go_wp2
    go_ret
    exact ⟨by first | rfl | (simp; done) | (simp [*]; done), by repeat (first | exact Drawn0.refl _ | apply Drawn0.step)⟩
end

section
/-! ### cachepotref1_Rune: function 118 -/
mutual
def cachepotref1_Rune.j0 : Nat → ByteArray → Int → Int → Option (Int × Int)
  | 0, _, _, _ => none
  | k + 1, x0, x1, x6 => if x6 = 224 then (cachepotref1_Rune.j1 k x0 x1 x6 160 191) else (if x6 = 237 then (cachepotref1_Rune.j1 k x0 x1 x6 128 159) else (if x6 = 240 then (cachepotref1_Rune.j1 k x0 x1 x6 144 191) else (if x6 = 244 then (cachepotref1_Rune.j1 k x0 x1 x6 128 143) else (cachepotref1_Rune.j1 k x0 x1 x6 128 191))))
def cachepotref1_Rune.j1 : Nat → ByteArray → Int → Int → Int → Int → Option (Int × Int)
  | 0, _, _, _, _, _ => none
  | k + 1, x0, x1, x6, x7, x8 => if x6 ≥ 224 then (if x6 ≤ 239 then ((cachepotref1_follows.f x0 (wrap64 (x1 + 1)) x7 x8).bind fun t137 => (if t137 = true then ((cachepotref1_follows.f x0 (wrap64 (x1 + 2)) 128 191).bind fun t138 => (cachepotref1_Rune.j2 k x0 x1 x6 x7 x8 t138)) else (cachepotref1_Rune.j2 k x0 x1 x6 x7 x8 false))) else (cachepotref1_Rune.j2 k x0 x1 x6 x7 x8 false)) else (cachepotref1_Rune.j2 k x0 x1 x6 x7 x8 false)
def cachepotref1_Rune.j2 : Nat → ByteArray → Int → Int → Int → Int → Bool → Option (Int × Int)
  | 0, _, _, _, _, _, _ => none
  | k + 1, x0, x1, x6, x7, x8, x69 => if x69 = true then (if 0 ≤ (wrap64 (x1 + 1)) then (if (wrap64 (x1 + 1)) < (x0.size : Int) then (if 0 ≤ (wrap64 (x1 + 2)) then (if (wrap64 (x1 + 2)) < (x0.size : Int) then (some (wrap64 ((wrap64 ((wrap64 ((wrap64 (Go.bits .and .u8 x6 15)) * 4096)) + (wrap64 ((wrap64 (Go.bits .and .u8 (bt x0 (wrap64 (x1 + 1))) 63)) * 64)))) + (wrap64 (Go.bits .and .u8 (bt x0 (wrap64 (x1 + 2))) 63))), 3)) else (none)) else (none)) else (none)) else (none)) else (if x6 ≥ 240 then (if x6 ≤ 244 then ((cachepotref1_follows.f x0 (wrap64 (x1 + 1)) x7 x8).bind fun t139 => (if t139 = true then ((cachepotref1_follows.f x0 (wrap64 (x1 + 2)) 128 191).bind fun t140 => (if t140 = true then ((cachepotref1_follows.f x0 (wrap64 (x1 + 3)) 128 191).bind fun t141 => (if t141 = true then (if 0 ≤ (wrap64 (x1 + 1)) then (if (wrap64 (x1 + 1)) < (x0.size : Int) then (if 0 ≤ (wrap64 (x1 + 2)) then (if (wrap64 (x1 + 2)) < (x0.size : Int) then (if 0 ≤ (wrap64 (x1 + 3)) then (if (wrap64 (x1 + 3)) < (x0.size : Int) then (some (wrap64 ((wrap64 ((wrap64 ((wrap64 ((wrap64 (Go.bits .and .u8 x6 7)) * 262144)) + (wrap64 ((wrap64 (Go.bits .and .u8 (bt x0 (wrap64 (x1 + 1))) 63)) * 4096)))) + (wrap64 ((wrap64 (Go.bits .and .u8 (bt x0 (wrap64 (x1 + 2))) 63)) * 64)))) + (wrap64 (Go.bits .and .u8 (bt x0 (wrap64 (x1 + 3))) 63))), 4)) else (none)) else (none)) else (none)) else (none)) else (none)) else (none)) else (some (65533, 1)))) else (some (65533, 1)))) else (some (65533, 1)))) else (some (65533, 1))) else (some (65533, 1)))
end
def cachepotref1_Rune.f (k : Nat) (a0 : ByteArray) (a1 : Int) : Option (Int × Int) := if 0 ≤ a1 then (if a1 < (a0.size : Int) then (if (bt a0 a1) < 128 then (some (wrap64 (bt a0 a1), 1)) else (if (bt a0 a1) ≥ 194 then (if (bt a0 a1) ≤ 223 then ((cachepotref1_follows.f a0 (wrap64 (a1 + 1)) 128 191).bind fun t136 => (if t136 = true then (if 0 ≤ (wrap64 (a1 + 1)) then (if (wrap64 (a1 + 1)) < (a0.size : Int) then (some (wrap64 ((wrap64 ((wrap64 (Go.bits .and .u8 (bt a0 a1) 31)) * 64)) + (wrap64 (Go.bits .and .u8 (bt a0 (wrap64 (a1 + 1))) 63))), 2)) else (none)) else (none)) else (cachepotref1_Rune.j0 k a0 a1 (bt a0 a1)))) else (cachepotref1_Rune.j0 k a0 a1 (bt a0 a1))) else (cachepotref1_Rune.j0 k a0 a1 (bt a0 a1)))) else (none)) else (none)
theorem cachepotref1_Rune.mono_l : ∀ k, (∀ y0 y1 y2, LeO (cachepotref1_Rune.j0 k y0 y1 y2) (cachepotref1_Rune.j0 (k + 1) y0 y1 y2)) ∧ (∀ y0 y1 y2 y3 y4, LeO (cachepotref1_Rune.j1 k y0 y1 y2 y3 y4) (cachepotref1_Rune.j1 (k + 1) y0 y1 y2 y3 y4)) ∧ (∀ y0 y1 y2 y3 y4 y5, LeO (cachepotref1_Rune.j2 k y0 y1 y2 y3 y4 y5) (cachepotref1_Rune.j2 (k + 1) y0 y1 y2 y3 y4 y5))
  | 0 => ⟨fun _ _ _ r h => by simp [cachepotref1_Rune.j0] at h, fun _ _ _ _ _ r h => by simp [cachepotref1_Rune.j1] at h, fun _ _ _ _ _ _ r h => by simp [cachepotref1_Rune.j2] at h⟩
  | k + 1 => by
    obtain ⟨ih0, ih1, ih2⟩ := cachepotref1_Rune.mono_l k
    refine ⟨?_, ?_, ?_⟩
    · intro y0 y1 y2
      unfold cachepotref1_Rune.j0
      repeat' first
      | (with_reducible exact ih0 _ _ _)
      | (with_reducible exact ih1 _ _ _ _ _)
      | (with_reducible exact ih2 _ _ _ _ _ _)
      | (with_reducible exact LeO.refl _)
      | (with_reducible exact LeO.none _)
      | (with_reducible refine LeO.ite ?_ ?_)
      | (with_reducible refine LeO.bind ?_ (fun _ => ?_))
      | exact ih0 _ _ _
      | exact ih1 _ _ _ _ _
      | exact ih2 _ _ _ _ _ _
      | exact LeO.none _
      | refine LeO.ite ?_ ?_
      | refine LeO.bind ?_ (fun _ => ?_)
    · intro y0 y1 y2 y3 y4
      unfold cachepotref1_Rune.j1
      repeat' first
      | (with_reducible exact ih0 _ _ _)
      | (with_reducible exact ih1 _ _ _ _ _)
      | (with_reducible exact ih2 _ _ _ _ _ _)
      | (with_reducible exact LeO.refl _)
      | (with_reducible exact LeO.none _)
      | (with_reducible refine LeO.ite ?_ ?_)
      | (with_reducible refine LeO.bind ?_ (fun _ => ?_))
      | exact ih0 _ _ _
      | exact ih1 _ _ _ _ _
      | exact ih2 _ _ _ _ _ _
      | exact LeO.none _
      | refine LeO.ite ?_ ?_
      | refine LeO.bind ?_ (fun _ => ?_)
    · intro y0 y1 y2 y3 y4 y5
      unfold cachepotref1_Rune.j2
      repeat' first
      | (with_reducible exact ih0 _ _ _)
      | (with_reducible exact ih1 _ _ _ _ _)
      | (with_reducible exact ih2 _ _ _ _ _ _)
      | (with_reducible exact LeO.refl _)
      | (with_reducible exact LeO.none _)
      | (with_reducible refine LeO.ite ?_ ?_)
      | (with_reducible refine LeO.bind ?_ (fun _ => ?_))
      | exact ih0 _ _ _
      | exact ih1 _ _ _ _ _
      | exact ih2 _ _ _ _ _ _
      | exact LeO.none _
      | refine LeO.ite ?_ ?_
      | refine LeO.bind ?_ (fun _ => ?_)
theorem cachepotref1_Rune.mono : ∀ a0 a1 k, LeO (cachepotref1_Rune.f k a0 a1) (cachepotref1_Rune.f (k + 1) a0 a1) := by
  intro a0 a1 k
  obtain ⟨ih0, ih1, ih2⟩ := cachepotref1_Rune.mono_l k
  unfold cachepotref1_Rune.f
  repeat' first
      | (with_reducible exact ih0 _ _ _)
      | (with_reducible exact ih1 _ _ _ _ _)
      | (with_reducible exact ih2 _ _ _ _ _ _)
      | (with_reducible exact LeO.refl _)
      | (with_reducible exact LeO.none _)
      | (with_reducible refine LeO.ite ?_ ?_)
      | (with_reducible refine LeO.bind ?_ (fun _ => ?_))
      | exact ih0 _ _ _
      | exact ih1 _ _ _ _ _
      | exact ih2 _ _ _ _ _ _
      | exact LeO.none _
      | refine LeO.ite ?_ ?_
      | refine LeO.bind ?_ (fun _ => ?_)
set_option maxHeartbeats 8000000 in
set_option maxRecDepth 100000 in
theorem cachepotref1_Rune.calls (k : Nat) (a0 : ByteArray) (a1 : Int) (r1 : Int) (r2 : Int) (w : World) (h : cachepotref1_Rune.f k a0 a1 = some (r1, r2)) :
    Calls Tryd.prog 118 #[.string a0, .int .i64 a1] w fun e w' => e = .returned (.tuple #[.int .i64 r1, .int .i64 r2]) ∧ Drawn0 w w' := by
  have H : (if 0 ≤ a1 then (if a1 < (a0.size : Int) then (if (bt a0 a1) < 128 then (some (wrap64 (bt a0 a1), 1)) else (if (bt a0 a1) ≥ 194 then (if (bt a0 a1) ≤ 223 then ((cachepotref1_follows.f a0 (wrap64 (a1 + 1)) 128 191).bind fun t136 => (if t136 = true then (if 0 ≤ (wrap64 (a1 + 1)) then (if (wrap64 (a1 + 1)) < (a0.size : Int) then (some (wrap64 ((wrap64 ((wrap64 (Go.bits .and .u8 (bt a0 a1) 31)) * 64)) + (wrap64 (Go.bits .and .u8 (bt a0 (wrap64 (a1 + 1))) 63))), 2)) else (none)) else (none)) else (cachepotref1_Rune.j0 k a0 a1 (bt a0 a1)))) else (cachepotref1_Rune.j0 k a0 a1 (bt a0 a1))) else (cachepotref1_Rune.j0 k a0 a1 (bt a0 a1)))) else (none)) else (none)) = some (r1, r2) := h
  clear h
  by_cases c3 : 0 ≤ a1
  · rw [if_pos c3] at H
    have c3b0 : decide (0 ≤ a1) = true := decide_eq_true c3
    clear c3
    by_cases c4 : a1 < (a0.size : Int)
    · rw [if_pos c4] at H
      have c4b0 : decide (a1 < (a0.size : Int)) = true := decide_eq_true c4
      clear c4
      have HC6 := Aside0.mk H
      clear H
      have p5 : 0 ≤ (a1 : Int) := of_decide_eq_true (by first | (with_reducible assumption) | assumption)
      have q5 : a1 < (a0.size : Int) := of_decide_eq_true (by first | (with_reducible assumption) | assumption)
      have hx5 := bt_at a0 a1
      replace p5 := eq_true p5
      replace q5 := eq_true q5
      go_enter Tryd.func118, Tryd.ntmps118
      go_upto_block 0 with (fail)
      repeat (go_quiet (fail); go_upto_block 0 with (fail))
      go_cut [] (fun wc => ∃ (kq : Nat), Aside0 (cachepotref1_Rune.j0 kq a0 a1 (bt a0 a1) = some (r1, r2)) ∧ Aside0 (kq ≤ k) ∧ Drawn0 w wc)
      case first =>
        have H := HC6.out
        clear HC6
        by_cases c7 : (bt a0 a1) < 128
        · rw [if_pos c7] at H
          have c7b0 : decide ((bt a0 a1) < 128) = true := decide_eq_true c7
          clear c7
          (first | rw [c7b0] | (simp only [i64_w, i32_w]; rw [c7b0]) | skip)
          simp only [Option.some.injEq, Prod.mk.injEq] at H
          obtain ⟨rfl, rfl⟩ := H
          go_wp2
          repeat (go_quiet (fail); try go_wp2)
          go_ret2
          exact ⟨by first | rfl | (simp; done) | (simp [*]; done), by repeat (first | exact Drawn0.refl _ | apply Drawn0.step)⟩
        · rw [if_neg c7] at H
          have c7b0 : decide ((bt a0 a1) < 128) = false := decide_eq_false c7
          clear c7
          (first | rw [c7b0] | (simp only [i64_w, i32_w]; rw [c7b0]) | skip)
          by_cases c8 : (bt a0 a1) ≥ 194
          · rw [if_pos c8] at H
            have c8b0 : decide (194 ≤ (bt a0 a1)) = true := decide_eq_true c8
            clear c8
            by_cases c9 : (bt a0 a1) ≤ 223
            · rw [if_pos c9] at H
              have c9b0 : decide ((bt a0 a1) ≤ 223) = true := decide_eq_true c9
              clear c9
              replace H := Option.bind_eq_some_iff.mp H
              obtain ⟨t136, A100, H⟩ := H
              replace H : (if t136 = true then (if 0 ≤ (wrap64 (a1 + 1)) then (if (wrap64 (a1 + 1)) < (a0.size : Int) then (some (wrap64 ((wrap64 ((wrap64 (Go.bits .and .u8 (bt a0 a1) 31)) * 64)) + (wrap64 (Go.bits .and .u8 (bt a0 (wrap64 (a1 + 1))) 63))), 2)) else (none)) else (none)) else (cachepotref1_Rune.j0 k a0 a1 (bt a0 a1))) = some (r1, r2) := H
              have A10 := Aside0.mk A100
              clear A100
              by_cases c11 : t136 = true
              · subst c11
                have H1 : (if 0 ≤ (wrap64 (a1 + 1)) then (if (wrap64 (a1 + 1)) < (a0.size : Int) then (some (wrap64 ((wrap64 ((wrap64 (Go.bits .and .u8 (bt a0 a1) 31)) * 64)) + (wrap64 (Go.bits .and .u8 (bt a0 (wrap64 (a1 + 1))) 63))), 2)) else (none)) else (none)) = some (r1, r2) := by rw [if_pos rfl] at H; exact H
                clear H
                have H := H1
                clear H1
                obtain ⟨ji12, hji12⟩ : ∃ j_ : Int, (wrap64 (a1 + 1)) = j_ := ⟨_, rfl⟩
                replace H : (if 0 ≤ (ji12) then (if (ji12) < (a0.size : Int) then (some (wrap64 ((wrap64 ((wrap64 (Go.bits .and .u8 (bt a0 a1) 31)) * 64)) + (wrap64 (Go.bits .and .u8 (bt a0 (ji12)) 63))), 2)) else (none)) else (none)) = some (r1, r2) := by first | (rw [hji12] at H; exact H) | (simp only [hji12] at H ⊢; exact H)
                (try rw [hji12] at A10)
                have hji12w : (IntKind.i64.wrap (a1 + 1)) = ji12 := (i64_w _).trans hji12
                by_cases c13 : 0 ≤ (ji12)
                · rw [if_pos c13] at H
                  have c13b0 : decide (0 ≤ (ji12)) = true := decide_eq_true c13
                  clear c13
                  by_cases c14 : (ji12) < (a0.size : Int)
                  · rw [if_pos c14] at H
                    have c14b0 : decide ((ji12) < (a0.size : Int)) = true := decide_eq_true c14
                    clear c14
                    simp only [Option.some.injEq, Prod.mk.injEq] at H
                    obtain ⟨rfl, rfl⟩ := H
                    go_wp2_with (first | (go_at_call 132; (with_reducible refine (cachepotref1_follows.calls a0 ji12 128 191 true _ A10.out).mono ?_); rintro e w' ⟨rfl, ⟨nd, rfl⟩⟩; (try first | exact ⟨rfl, _, World.drewN_drewN _ _ _⟩ | exact ⟨rfl, _, Eq.trans (World.drewN_drewN _ _ _) (congrArg (World.drewN _) (Nat.add_assoc _ _ _))⟩); have p15 : 0 ≤ ((ji12) : Int) := of_decide_eq_true (by first | (with_reducible assumption) | assumption); have q15 : (ji12) < (a0.size : Int) := of_decide_eq_true (by first | (with_reducible assumption) | assumption); have hx15 := bt_at a0 (ji12); replace p15 := eq_true p15; replace q15 := eq_true q15))
                    repeat (go_quiet (first | (go_at_call 132; (with_reducible refine (cachepotref1_follows.calls a0 ji12 128 191 true _ A10.out).mono ?_); rintro e w' ⟨rfl, ⟨nd, rfl⟩⟩; (try first | exact ⟨rfl, _, World.drewN_drewN _ _ _⟩ | exact ⟨rfl, _, Eq.trans (World.drewN_drewN _ _ _) (congrArg (World.drewN _) (Nat.add_assoc _ _ _))⟩); have p15 : 0 ≤ ((ji12) : Int) := of_decide_eq_true (by first | (with_reducible assumption) | assumption); have q15 : (ji12) < (a0.size : Int) := of_decide_eq_true (by first | (with_reducible assumption) | assumption); have hx15 := bt_at a0 (ji12); replace p15 := eq_true p15; replace q15 := eq_true q15)); try go_wp2_with (first | (go_at_call 132; (with_reducible refine (cachepotref1_follows.calls a0 ji12 128 191 true _ A10.out).mono ?_); rintro e w' ⟨rfl, ⟨nd, rfl⟩⟩; (try first | exact ⟨rfl, _, World.drewN_drewN _ _ _⟩ | exact ⟨rfl, _, Eq.trans (World.drewN_drewN _ _ _) (congrArg (World.drewN _) (Nat.add_assoc _ _ _))⟩); have p15 : 0 ≤ ((ji12) : Int) := of_decide_eq_true (by first | (with_reducible assumption) | assumption); have q15 : (ji12) < (a0.size : Int) := of_decide_eq_true (by first | (with_reducible assumption) | assumption); have hx15 := bt_at a0 (ji12); replace p15 := eq_true p15; replace q15 := eq_true q15)))
                    go_ret2
                    exact ⟨by first | rfl | (simp; done) | (simp only [← hji12] <;> (first | rfl | simp)) | (simp [*]; done), by repeat (first | exact Drawn0.refl _ | apply Drawn0.step)⟩
                  · rw [if_neg c14] at H
                    exact absurd H (by simp)
                · rw [if_neg c13] at H
                  exact absurd H (by simp)
              · replace c11 := Bool.eq_false_iff.mpr c11
                subst c11
                have H1 : (cachepotref1_Rune.j0 k a0 a1 (bt a0 a1)) = some (r1, r2) := by rw [if_neg (show ¬ (false = true) by decide)] at H; exact H
                clear H
                have H := H1
                clear H1
                have H' := Aside0.mk H
                clear H
                go_wp2_with (first | (go_at_call 132; (with_reducible refine (cachepotref1_follows.calls a0 (wrap64 (a1 + 1)) 128 191 false _ A10.out).mono ?_); rintro e w' ⟨rfl, ⟨nd, rfl⟩⟩; (try first | exact ⟨rfl, _, World.drewN_drewN _ _ _⟩ | exact ⟨rfl, _, Eq.trans (World.drewN_drewN _ _ _) (congrArg (World.drewN _) (Nat.add_assoc _ _ _))⟩)))
                repeat (go_quiet (first | (go_at_call 132; (with_reducible refine (cachepotref1_follows.calls a0 (wrap64 (a1 + 1)) 128 191 false _ A10.out).mono ?_); rintro e w' ⟨rfl, ⟨nd, rfl⟩⟩; (try first | exact ⟨rfl, _, World.drewN_drewN _ _ _⟩ | exact ⟨rfl, _, Eq.trans (World.drewN_drewN _ _ _) (congrArg (World.drewN _) (Nat.add_assoc _ _ _))⟩))); try go_wp2_with (first | (go_at_call 132; (with_reducible refine (cachepotref1_follows.calls a0 (wrap64 (a1 + 1)) 128 191 false _ A10.out).mono ?_); rintro e w' ⟨rfl, ⟨nd, rfl⟩⟩; (try first | exact ⟨rfl, _, World.drewN_drewN _ _ _⟩ | exact ⟨rfl, _, Eq.trans (World.drewN_drewN _ _ _) (congrArg (World.drewN _) (Nat.add_assoc _ _ _))⟩))))
                go_meet
                case rel => exact ⟨_, H', ⟨by first | omega | exact Nat.le_refl _⟩, by repeat (first | exact Drawn0.refl _ | apply Drawn0.step)⟩
            · rw [if_neg c9] at H
              have c9b0 : decide ((bt a0 a1) ≤ 223) = false := decide_eq_false c9
              clear c9
              have H' := Aside0.mk H
              clear H
              go_wp2
              repeat (go_quiet (fail); try go_wp2)
              go_meet
              case rel => exact ⟨_, H', ⟨by first | omega | exact Nat.le_refl _⟩, by repeat (first | exact Drawn0.refl _ | apply Drawn0.step)⟩
          · rw [if_neg c8] at H
            have c8b0 : decide (194 ≤ (bt a0 a1)) = false := decide_eq_false c8
            clear c8
            have H' := Aside0.mk H
            clear H
            go_wp2
            repeat (go_quiet (fail); try go_wp2)
            go_meet
            case rel => exact ⟨_, H', ⟨by first | omega | exact Nat.le_refl _⟩, by repeat (first | exact Drawn0.refl _ | apply Drawn0.step)⟩
      case rest =>
        clear HC6
        try clear c1
        try clear p1
        try clear q1
        try clear hx1
        try clear p2
        try clear c3
        try clear c3b0
        try clear c4
        try clear c4b0
        try clear p5
        try clear q5
        try clear hx5
        try clear p6
        try clear c7
        try clear c7b0
        try clear c8
        try clear c8b0
        try clear c9
        try clear c9b0
        try clear c11
        try clear c13
        try clear c13b0
        try clear c14
        try clear c14b0
        try clear p15
        try clear q15
        try clear hx15
        try clear p15
        try clear p5
        try clear q15
        try clear q5
        obtain ⟨kq, HA, HJ5, ⟨mc5, rfl⟩⟩ := hcut
        cases kq with
        | zero => exact absurd HA.out (by simp [cachepotref1_Rune.j0])
        | succ kj5 =>
          have H := HA.out
          clear HA
          simp only [cachepotref1_Rune.j0] at H
          have HC16 := Aside0.mk H
          clear H
          go_upto_block 1 with (fail)
          repeat (go_quiet (fail); go_upto_block 1 with (fail))
          go_cut [7, 8] (fun v7 v8 wc => ∃ (kq : Nat) (x7_15 : Int) (x8_15 : Int), v7 = .int .u8 x7_15 ∧ v8 = .int .u8 x8_15 ∧ Aside0 (cachepotref1_Rune.j1 kq a0 a1 (bt a0 a1) x7_15 x8_15 = some (r1, r2)) ∧ Aside0 (kq ≤ kj5) ∧ Drawn0 w wc)
          case first =>
            have H := HC16.out
            clear HC16
            by_cases c17 : (bt a0 a1) = 224
            · rw [if_pos c17] at H
              have c17b0 : ((bt a0 a1) == 224) = true := beq_iff_eq.mpr c17
              have c17b1 : ((bt a0 a1) != 224) = false := bne_eq_false_iff_eq.mpr c17
              clear c17
              (first | rw [c17b0] | (simp only [i64_w, i32_w]; rw [c17b0]) | skip)
              have H' := Aside0.mk H
              clear H
              go_wp2
              repeat (go_quiet (fail); try go_wp2)
              go_meet
              case rel => exact ⟨_, (160), (191), (by first | rfl | (simp; done) | (simp [*]; done)), (by first | rfl | (simp; done) | (simp [*]; done)), H', ⟨by have := HJ5.out; first | omega | exact Nat.le_refl _⟩, by repeat (first | exact Drawn0.refl _ | apply Drawn0.step)⟩
            · rw [if_neg c17] at H
              have c17b0 : ((bt a0 a1) == 224) = false := beq_eq_false_iff_ne.mpr c17
              have c17b1 : ((bt a0 a1) != 224) = true := bne_iff_ne.mpr c17
              (first | rw [c17b0] | (simp only [i64_w, i32_w]; rw [c17b0]) | skip)
              by_cases c18 : (bt a0 a1) = 237
              · rw [if_pos c18] at H
                have c18b0 : ((bt a0 a1) == 237) = true := beq_iff_eq.mpr c18
                have c18b1 : ((bt a0 a1) != 237) = false := bne_eq_false_iff_eq.mpr c18
                clear c18
                have H' := Aside0.mk H
                clear H
                go_wp2
                repeat (go_quiet (fail); try go_wp2)
                go_meet
                case rel => exact ⟨_, (128), (159), (by first | rfl | (simp; done) | (simp [*]; done)), (by first | rfl | (simp; done) | (simp [*]; done)), H', ⟨by have := HJ5.out; first | omega | exact Nat.le_refl _⟩, by repeat (first | exact Drawn0.refl _ | apply Drawn0.step)⟩
              · rw [if_neg c18] at H
                have c18b0 : ((bt a0 a1) == 237) = false := beq_eq_false_iff_ne.mpr c18
                have c18b1 : ((bt a0 a1) != 237) = true := bne_iff_ne.mpr c18
                by_cases c19 : (bt a0 a1) = 240
                · rw [if_pos c19] at H
                  have c19b0 : ((bt a0 a1) == 240) = true := beq_iff_eq.mpr c19
                  have c19b1 : ((bt a0 a1) != 240) = false := bne_eq_false_iff_eq.mpr c19
                  clear c19
                  have H' := Aside0.mk H
                  clear H
                  go_wp2
                  repeat (go_quiet (fail); try go_wp2)
                  go_meet
                  case rel => exact ⟨_, (144), (191), (by first | rfl | (simp; done) | (simp [*]; done)), (by first | rfl | (simp; done) | (simp [*]; done)), H', ⟨by have := HJ5.out; first | omega | exact Nat.le_refl _⟩, by repeat (first | exact Drawn0.refl _ | apply Drawn0.step)⟩
                · rw [if_neg c19] at H
                  have c19b0 : ((bt a0 a1) == 240) = false := beq_eq_false_iff_ne.mpr c19
                  have c19b1 : ((bt a0 a1) != 240) = true := bne_iff_ne.mpr c19
                  by_cases c20 : (bt a0 a1) = 244
                  · rw [if_pos c20] at H
                    have c20b0 : ((bt a0 a1) == 244) = true := beq_iff_eq.mpr c20
                    have c20b1 : ((bt a0 a1) != 244) = false := bne_eq_false_iff_eq.mpr c20
                    clear c20
                    have H' := Aside0.mk H
                    clear H
                    go_wp2
                    repeat (go_quiet (fail); try go_wp2)
                    go_meet
                    case rel => exact ⟨_, (128), (143), (by first | rfl | (simp; done) | (simp [*]; done)), (by first | rfl | (simp; done) | (simp [*]; done)), H', ⟨by have := HJ5.out; first | omega | exact Nat.le_refl _⟩, by repeat (first | exact Drawn0.refl _ | apply Drawn0.step)⟩
                  · rw [if_neg c20] at H
                    have c20b0 : ((bt a0 a1) == 244) = false := beq_eq_false_iff_ne.mpr c20
                    have c20b1 : ((bt a0 a1) != 244) = true := bne_iff_ne.mpr c20
                    have H' := Aside0.mk H
                    clear H
                    go_wp2
                    repeat (go_quiet (fail); try go_wp2)
                    go_meet
                    case rel => exact ⟨_, (128), (191), (by first | rfl | (simp; done) | (simp [*]; done)), (by first | rfl | (simp; done) | (simp [*]; done)), H', ⟨by have := HJ5.out; first | omega | exact Nat.le_refl _⟩, by repeat (first | exact Drawn0.refl _ | apply Drawn0.step)⟩
          case rest =>
            clear HC16
            try clear c1
            try clear p1
            try clear q1
            try clear hx1
            try clear c2
            try clear p2
            try clear c3
            try clear c3b0
            try clear c4
            try clear c4b0
            try clear c5
            try clear p5
            try clear q5
            try clear hx5
            try clear p6
            try clear c7
            try clear c7b0
            try clear c8
            try clear c8b0
            try clear c9
            try clear c9b0
            try clear c11
            try clear c13
            try clear c13b0
            try clear c14
            try clear c14b0
            try clear p15
            try clear q15
            try clear hx15
            try clear c17
            try clear c17b0
            try clear c17b1
            try clear c18
            try clear c18b0
            try clear c18b1
            try clear c19
            try clear c19b0
            try clear c19b1
            try clear c20
            try clear c20b0
            try clear c20b1
            try clear p1
            try clear p15
            try clear p2
            try clear p5
            try clear p6
            try clear q1
            try clear q15
            try clear q5
            obtain ⟨kq, x7_15, x8_15, rfl, rfl, HA, HJ15, ⟨mc15, rfl⟩⟩ := hcut
            cases kq with
            | zero => exact absurd HA.out (by simp [cachepotref1_Rune.j1])
            | succ kj15 =>
              have H := HA.out
              clear HA
              simp only [cachepotref1_Rune.j1] at H
              have HC21 := Aside0.mk H
              clear H
              go_upto_region 16 with (fail)
              repeat (go_quiet (fail); go_upto_region 16 with (fail))
              go_cut [69] (fun v69 wc => ∃ (kq : Nat) (x69_20 : Bool), v69 = .bool x69_20 ∧ Aside0 (cachepotref1_Rune.j2 kq a0 a1 (bt a0 a1) x7_15 x8_15 x69_20 = some (r1, r2)) ∧ Aside0 (kq ≤ kj15) ∧ Drawn0 w wc)
              case first =>
                have H := HC21.out
                clear HC21
                by_cases c22 : (bt a0 a1) ≥ 224
                · rw [if_pos c22] at H
                  have c22b0 : decide (224 ≤ (bt a0 a1)) = true := decide_eq_true c22
                  clear c22
                  (first | rw [c22b0] | (simp only [i64_w, i32_w]; rw [c22b0]) | skip)
                  by_cases c23 : (bt a0 a1) ≤ 239
                  · rw [if_pos c23] at H
                    have c23b0 : decide ((bt a0 a1) ≤ 239) = true := decide_eq_true c23
                    clear c23
                    replace H := Option.bind_eq_some_iff.mp H
                    obtain ⟨t137, A240, H⟩ := H
                    replace H : (if t137 = true then ((cachepotref1_follows.f a0 (wrap64 (a1 + 2)) 128 191).bind fun t138 => (cachepotref1_Rune.j2 kj15 a0 a1 (bt a0 a1) x7_15 x8_15 t138)) else (cachepotref1_Rune.j2 kj15 a0 a1 (bt a0 a1) x7_15 x8_15 false)) = some (r1, r2) := H
                    have A24 := Aside0.mk A240
                    clear A240
                    by_cases c25 : t137 = true
                    · subst c25
                      have H1 : ((cachepotref1_follows.f a0 (wrap64 (a1 + 2)) 128 191).bind fun t138 => (cachepotref1_Rune.j2 kj15 a0 a1 (bt a0 a1) x7_15 x8_15 t138)) = some (r1, r2) := by rw [if_pos rfl] at H; exact H
                      clear H
                      have H := H1
                      clear H1
                      replace H := Option.bind_eq_some_iff.mp H
                      obtain ⟨t138, A260, H⟩ := H
                      replace H : (cachepotref1_Rune.j2 kj15 a0 a1 (bt a0 a1) x7_15 x8_15 t138) = some (r1, r2) := H
                      have A26 := Aside0.mk A260
                      clear A260
                      have H' := Aside0.mk H
                      clear H
                      go_wp2_with (first | (go_at_call 132; (with_reducible refine (cachepotref1_follows.calls a0 (wrap64 (a1 + 1)) x7_15 x8_15 true _ A24.out).mono ?_); rintro e w' ⟨rfl, ⟨nd, rfl⟩⟩; (try first | exact ⟨rfl, _, World.drewN_drewN _ _ _⟩ | exact ⟨rfl, _, Eq.trans (World.drewN_drewN _ _ _) (congrArg (World.drewN _) (Nat.add_assoc _ _ _))⟩)) | (go_at_call 132; (with_reducible refine (cachepotref1_follows.calls a0 (wrap64 (a1 + 2)) 128 191 t138 _ A26.out).mono ?_); rintro e w' ⟨rfl, ⟨nd, rfl⟩⟩; (try first | exact ⟨rfl, _, World.drewN_drewN _ _ _⟩ | exact ⟨rfl, _, Eq.trans (World.drewN_drewN _ _ _) (congrArg (World.drewN _) (Nat.add_assoc _ _ _))⟩)))
                      repeat (go_quiet (first | (go_at_call 132; (with_reducible refine (cachepotref1_follows.calls a0 (wrap64 (a1 + 1)) x7_15 x8_15 true _ A24.out).mono ?_); rintro e w' ⟨rfl, ⟨nd, rfl⟩⟩; (try first | exact ⟨rfl, _, World.drewN_drewN _ _ _⟩ | exact ⟨rfl, _, Eq.trans (World.drewN_drewN _ _ _) (congrArg (World.drewN _) (Nat.add_assoc _ _ _))⟩)) | (go_at_call 132; (with_reducible refine (cachepotref1_follows.calls a0 (wrap64 (a1 + 2)) 128 191 t138 _ A26.out).mono ?_); rintro e w' ⟨rfl, ⟨nd, rfl⟩⟩; (try first | exact ⟨rfl, _, World.drewN_drewN _ _ _⟩ | exact ⟨rfl, _, Eq.trans (World.drewN_drewN _ _ _) (congrArg (World.drewN _) (Nat.add_assoc _ _ _))⟩))); try go_wp2_with (first | (go_at_call 132; (with_reducible refine (cachepotref1_follows.calls a0 (wrap64 (a1 + 1)) x7_15 x8_15 true _ A24.out).mono ?_); rintro e w' ⟨rfl, ⟨nd, rfl⟩⟩; (try first | exact ⟨rfl, _, World.drewN_drewN _ _ _⟩ | exact ⟨rfl, _, Eq.trans (World.drewN_drewN _ _ _) (congrArg (World.drewN _) (Nat.add_assoc _ _ _))⟩)) | (go_at_call 132; (with_reducible refine (cachepotref1_follows.calls a0 (wrap64 (a1 + 2)) 128 191 t138 _ A26.out).mono ?_); rintro e w' ⟨rfl, ⟨nd, rfl⟩⟩; (try first | exact ⟨rfl, _, World.drewN_drewN _ _ _⟩ | exact ⟨rfl, _, Eq.trans (World.drewN_drewN _ _ _) (congrArg (World.drewN _) (Nat.add_assoc _ _ _))⟩))))
                      go_meet
                      case rel => exact ⟨_, (t138), (by first | rfl | (simp; done) | (simp [*]; done)), H', ⟨by have := HJ5.out; have := HJ15.out; first | omega | exact Nat.le_refl _⟩, by repeat (first | exact Drawn0.refl _ | apply Drawn0.step)⟩
                    · replace c25 := Bool.eq_false_iff.mpr c25
                      subst c25
                      have H1 : (cachepotref1_Rune.j2 kj15 a0 a1 (bt a0 a1) x7_15 x8_15 false) = some (r1, r2) := by rw [if_neg (show ¬ (false = true) by decide)] at H; exact H
                      clear H
                      have H := H1
                      clear H1
                      have H' := Aside0.mk H
                      clear H
                      go_wp2_with (first | (go_at_call 132; (with_reducible refine (cachepotref1_follows.calls a0 (wrap64 (a1 + 1)) x7_15 x8_15 false _ A24.out).mono ?_); rintro e w' ⟨rfl, ⟨nd, rfl⟩⟩; (try first | exact ⟨rfl, _, World.drewN_drewN _ _ _⟩ | exact ⟨rfl, _, Eq.trans (World.drewN_drewN _ _ _) (congrArg (World.drewN _) (Nat.add_assoc _ _ _))⟩)))
                      repeat (go_quiet (first | (go_at_call 132; (with_reducible refine (cachepotref1_follows.calls a0 (wrap64 (a1 + 1)) x7_15 x8_15 false _ A24.out).mono ?_); rintro e w' ⟨rfl, ⟨nd, rfl⟩⟩; (try first | exact ⟨rfl, _, World.drewN_drewN _ _ _⟩ | exact ⟨rfl, _, Eq.trans (World.drewN_drewN _ _ _) (congrArg (World.drewN _) (Nat.add_assoc _ _ _))⟩))); try go_wp2_with (first | (go_at_call 132; (with_reducible refine (cachepotref1_follows.calls a0 (wrap64 (a1 + 1)) x7_15 x8_15 false _ A24.out).mono ?_); rintro e w' ⟨rfl, ⟨nd, rfl⟩⟩; (try first | exact ⟨rfl, _, World.drewN_drewN _ _ _⟩ | exact ⟨rfl, _, Eq.trans (World.drewN_drewN _ _ _) (congrArg (World.drewN _) (Nat.add_assoc _ _ _))⟩))))
                      go_meet
                      case rel => exact ⟨_, (false), (by first | rfl | (simp; done) | (simp [*]; done)), H', ⟨by have := HJ5.out; have := HJ15.out; first | omega | exact Nat.le_refl _⟩, by repeat (first | exact Drawn0.refl _ | apply Drawn0.step)⟩
                  · rw [if_neg c23] at H
                    have c23b0 : decide ((bt a0 a1) ≤ 239) = false := decide_eq_false c23
                    clear c23
                    have H' := Aside0.mk H
                    clear H
                    go_wp2
                    repeat (go_quiet (fail); try go_wp2)
                    go_meet
                    case rel => exact ⟨_, (false), (by first | rfl | (simp; done) | (simp [*]; done)), H', ⟨by have := HJ5.out; have := HJ15.out; first | omega | exact Nat.le_refl _⟩, by repeat (first | exact Drawn0.refl _ | apply Drawn0.step)⟩
                · rw [if_neg c22] at H
                  have c22b0 : decide (224 ≤ (bt a0 a1)) = false := decide_eq_false c22
                  clear c22
                  (first | rw [c22b0] | (simp only [i64_w, i32_w]; rw [c22b0]) | skip)
                  have H' := Aside0.mk H
                  clear H
                  go_wp2
                  repeat (go_quiet (fail); try go_wp2)
                  go_meet
                  case rel => exact ⟨_, (false), (by first | rfl | (simp; done) | (simp [*]; done)), H', ⟨by have := HJ5.out; have := HJ15.out; first | omega | exact Nat.le_refl _⟩, by repeat (first | exact Drawn0.refl _ | apply Drawn0.step)⟩
              case rest =>
                clear HC21
                try clear c1
                try clear p1
                try clear q1
                try clear hx1
                try clear c2
                try clear p2
                try clear c3
                try clear c3b0
                try clear c4
                try clear c4b0
                try clear c5
                try clear p5
                try clear q5
                try clear hx5
                try clear p6
                try clear c7
                try clear c7b0
                try clear c8
                try clear c8b0
                try clear c9
                try clear c9b0
                try clear c11
                try clear c13
                try clear c13b0
                try clear c14
                try clear c14b0
                try clear c15
                try clear p15
                try clear q15
                try clear hx15
                try clear c17
                try clear c17b0
                try clear c17b1
                try clear c18
                try clear c18b0
                try clear c18b1
                try clear c19
                try clear c19b0
                try clear c19b1
                try clear c20
                try clear c20b0
                try clear c20b1
                try clear c22
                try clear c22b0
                try clear c23
                try clear c23b0
                try clear c25
                try clear p1
                try clear p15
                try clear p2
                try clear p5
                try clear p6
                try clear q1
                try clear q15
                try clear q5
                obtain ⟨kq, x69_20, rfl, HA, HJ20, ⟨mc20, rfl⟩⟩ := hcut
                cases kq with
                | zero => exact absurd HA.out (by simp [cachepotref1_Rune.j2])
                | succ kj20 =>
                  have H := HA.out
                  clear HA
                  simp only [cachepotref1_Rune.j2] at H
                  by_cases c27 : x69_20 = true
                  · subst c27
                    have H1 : (if 0 ≤ (wrap64 (a1 + 1)) then (if (wrap64 (a1 + 1)) < (a0.size : Int) then (if 0 ≤ (wrap64 (a1 + 2)) then (if (wrap64 (a1 + 2)) < (a0.size : Int) then (some (wrap64 ((wrap64 ((wrap64 ((wrap64 (Go.bits .and .u8 (bt a0 a1) 15)) * 4096)) + (wrap64 ((wrap64 (Go.bits .and .u8 (bt a0 (wrap64 (a1 + 1))) 63)) * 64)))) + (wrap64 (Go.bits .and .u8 (bt a0 (wrap64 (a1 + 2))) 63))), 3)) else (none)) else (none)) else (none)) else (none)) = some (r1, r2) := by rw [if_pos rfl] at H; exact H
                    clear H
                    have H := H1
                    clear H1
                    obtain ⟨ji28, hji28⟩ : ∃ j_ : Int, (wrap64 (a1 + 1)) = j_ := ⟨_, rfl⟩
                    replace H : (if 0 ≤ (ji28) then (if (ji28) < (a0.size : Int) then (if 0 ≤ (wrap64 (a1 + 2)) then (if (wrap64 (a1 + 2)) < (a0.size : Int) then (some (wrap64 ((wrap64 ((wrap64 ((wrap64 (Go.bits .and .u8 (bt a0 a1) 15)) * 4096)) + (wrap64 ((wrap64 (Go.bits .and .u8 (bt a0 (ji28)) 63)) * 64)))) + (wrap64 (Go.bits .and .u8 (bt a0 (wrap64 (a1 + 2))) 63))), 3)) else (none)) else (none)) else (none)) else (none)) = some (r1, r2) := by first | (rw [hji28] at H; exact H) | (simp only [hji28] at H ⊢; exact H)
                    have hji28w : (IntKind.i64.wrap (a1 + 1)) = ji28 := (i64_w _).trans hji28
                    by_cases c29 : 0 ≤ (ji28)
                    · rw [if_pos c29] at H
                      have c29b0 : decide (0 ≤ (ji28)) = true := decide_eq_true c29
                      clear c29
                      by_cases c30 : (ji28) < (a0.size : Int)
                      · rw [if_pos c30] at H
                        have c30b0 : decide ((ji28) < (a0.size : Int)) = true := decide_eq_true c30
                        clear c30
                        obtain ⟨ji32, hji32⟩ : ∃ j_ : Int, (wrap64 (a1 + 2)) = j_ := ⟨_, rfl⟩
                        replace H : (if 0 ≤ (ji32) then (if (ji32) < (a0.size : Int) then (some (wrap64 ((wrap64 ((wrap64 ((wrap64 (Go.bits .and .u8 (bt a0 a1) 15)) * 4096)) + (wrap64 ((wrap64 (Go.bits .and .u8 (bt a0 (ji28)) 63)) * 64)))) + (wrap64 (Go.bits .and .u8 (bt a0 (ji32)) 63))), 3)) else (none)) else (none)) = some (r1, r2) := by first | (rw [hji32] at H; exact H) | (simp only [hji32] at H ⊢; exact H)
                        have hji32w : (IntKind.i64.wrap (a1 + 2)) = ji32 := (i64_w _).trans hji32
                        by_cases c33 : 0 ≤ (ji32)
                        · rw [if_pos c33] at H
                          have c33b0 : decide (0 ≤ (ji32)) = true := decide_eq_true c33
                          clear c33
                          by_cases c34 : (ji32) < (a0.size : Int)
                          · rw [if_pos c34] at H
                            have c34b0 : decide ((ji32) < (a0.size : Int)) = true := decide_eq_true c34
                            clear c34
                            simp only [Option.some.injEq, Prod.mk.injEq] at H
                            obtain ⟨rfl, rfl⟩ := H
                            have p31 : 0 ≤ ((ji28) : Int) := of_decide_eq_true (by first | (with_reducible assumption) | assumption)
                            have q31 : (ji28) < (a0.size : Int) := of_decide_eq_true (by first | (with_reducible assumption) | assumption)
                            have hx31 := bt_at a0 (ji28)
                            replace p31 := eq_true p31
                            replace q31 := eq_true q31
                            have p35 : 0 ≤ ((ji32) : Int) := of_decide_eq_true (by first | (with_reducible assumption) | assumption)
                            have q35 : (ji32) < (a0.size : Int) := of_decide_eq_true (by first | (with_reducible assumption) | assumption)
                            have hx35 := bt_at a0 (ji32)
                            replace p35 := eq_true p35
                            replace q35 := eq_true q35
                            go_wp2
                            repeat (go_quiet (fail); try go_wp2)
                            go_ret2
                            exact ⟨by first | rfl | (simp; done) | (simp only [← hji28, ← hji32] <;> (first | rfl | simp)) | (simp [*]; done), by repeat (first | exact Drawn0.refl _ | apply Drawn0.step)⟩
                          · rw [if_neg c34] at H
                            exact absurd H (by simp)
                        · rw [if_neg c33] at H
                          exact absurd H (by simp)
                      · rw [if_neg c30] at H
                        exact absurd H (by simp)
                    · rw [if_neg c29] at H
                      exact absurd H (by simp)
                  · replace c27 := Bool.eq_false_iff.mpr c27
                    subst c27
                    have H1 : (if (bt a0 a1) ≥ 240 then (if (bt a0 a1) ≤ 244 then ((cachepotref1_follows.f a0 (wrap64 (a1 + 1)) x7_15 x8_15).bind fun t139 => (if t139 = true then ((cachepotref1_follows.f a0 (wrap64 (a1 + 2)) 128 191).bind fun t140 => (if t140 = true then ((cachepotref1_follows.f a0 (wrap64 (a1 + 3)) 128 191).bind fun t141 => (if t141 = true then (if 0 ≤ (wrap64 (a1 + 1)) then (if (wrap64 (a1 + 1)) < (a0.size : Int) then (if 0 ≤ (wrap64 (a1 + 2)) then (if (wrap64 (a1 + 2)) < (a0.size : Int) then (if 0 ≤ (wrap64 (a1 + 3)) then (if (wrap64 (a1 + 3)) < (a0.size : Int) then (some (wrap64 ((wrap64 ((wrap64 ((wrap64 ((wrap64 (Go.bits .and .u8 (bt a0 a1) 7)) * 262144)) + (wrap64 ((wrap64 (Go.bits .and .u8 (bt a0 (wrap64 (a1 + 1))) 63)) * 4096)))) + (wrap64 ((wrap64 (Go.bits .and .u8 (bt a0 (wrap64 (a1 + 2))) 63)) * 64)))) + (wrap64 (Go.bits .and .u8 (bt a0 (wrap64 (a1 + 3))) 63))), 4)) else (none)) else (none)) else (none)) else (none)) else (none)) else (none)) else (some (65533, 1)))) else (some (65533, 1)))) else (some (65533, 1)))) else (some (65533, 1))) else (some (65533, 1))) = some (r1, r2) := by rw [if_neg (show ¬ (false = true) by decide)] at H; exact H
                    clear H
                    have H := H1
                    clear H1
                    by_cases c36 : (bt a0 a1) ≥ 240
                    · rw [if_pos c36] at H
                      have c36b0 : decide (240 ≤ (bt a0 a1)) = true := decide_eq_true c36
                      clear c36
                      by_cases c37 : (bt a0 a1) ≤ 244
                      · rw [if_pos c37] at H
                        have c37b0 : decide ((bt a0 a1) ≤ 244) = true := decide_eq_true c37
                        clear c37
                        replace H := Option.bind_eq_some_iff.mp H
                        obtain ⟨t139, A380, H⟩ := H
                        replace H : (if t139 = true then ((cachepotref1_follows.f a0 (wrap64 (a1 + 2)) 128 191).bind fun t140 => (if t140 = true then ((cachepotref1_follows.f a0 (wrap64 (a1 + 3)) 128 191).bind fun t141 => (if t141 = true then (if 0 ≤ (wrap64 (a1 + 1)) then (if (wrap64 (a1 + 1)) < (a0.size : Int) then (if 0 ≤ (wrap64 (a1 + 2)) then (if (wrap64 (a1 + 2)) < (a0.size : Int) then (if 0 ≤ (wrap64 (a1 + 3)) then (if (wrap64 (a1 + 3)) < (a0.size : Int) then (some (wrap64 ((wrap64 ((wrap64 ((wrap64 ((wrap64 (Go.bits .and .u8 (bt a0 a1) 7)) * 262144)) + (wrap64 ((wrap64 (Go.bits .and .u8 (bt a0 (wrap64 (a1 + 1))) 63)) * 4096)))) + (wrap64 ((wrap64 (Go.bits .and .u8 (bt a0 (wrap64 (a1 + 2))) 63)) * 64)))) + (wrap64 (Go.bits .and .u8 (bt a0 (wrap64 (a1 + 3))) 63))), 4)) else (none)) else (none)) else (none)) else (none)) else (none)) else (none)) else (some (65533, 1)))) else (some (65533, 1)))) else (some (65533, 1))) = some (r1, r2) := H
                        have A38 := Aside0.mk A380
                        clear A380
                        by_cases c39 : t139 = true
                        · subst c39
                          have H1 : ((cachepotref1_follows.f a0 (wrap64 (a1 + 2)) 128 191).bind fun t140 => (if t140 = true then ((cachepotref1_follows.f a0 (wrap64 (a1 + 3)) 128 191).bind fun t141 => (if t141 = true then (if 0 ≤ (wrap64 (a1 + 1)) then (if (wrap64 (a1 + 1)) < (a0.size : Int) then (if 0 ≤ (wrap64 (a1 + 2)) then (if (wrap64 (a1 + 2)) < (a0.size : Int) then (if 0 ≤ (wrap64 (a1 + 3)) then (if (wrap64 (a1 + 3)) < (a0.size : Int) then (some (wrap64 ((wrap64 ((wrap64 ((wrap64 ((wrap64 (Go.bits .and .u8 (bt a0 a1) 7)) * 262144)) + (wrap64 ((wrap64 (Go.bits .and .u8 (bt a0 (wrap64 (a1 + 1))) 63)) * 4096)))) + (wrap64 ((wrap64 (Go.bits .and .u8 (bt a0 (wrap64 (a1 + 2))) 63)) * 64)))) + (wrap64 (Go.bits .and .u8 (bt a0 (wrap64 (a1 + 3))) 63))), 4)) else (none)) else (none)) else (none)) else (none)) else (none)) else (none)) else (some (65533, 1)))) else (some (65533, 1)))) = some (r1, r2) := by rw [if_pos rfl] at H; exact H
                          clear H
                          have H := H1
                          clear H1
                          replace H := Option.bind_eq_some_iff.mp H
                          obtain ⟨t140, A400, H⟩ := H
                          replace H : (if t140 = true then ((cachepotref1_follows.f a0 (wrap64 (a1 + 3)) 128 191).bind fun t141 => (if t141 = true then (if 0 ≤ (wrap64 (a1 + 1)) then (if (wrap64 (a1 + 1)) < (a0.size : Int) then (if 0 ≤ (wrap64 (a1 + 2)) then (if (wrap64 (a1 + 2)) < (a0.size : Int) then (if 0 ≤ (wrap64 (a1 + 3)) then (if (wrap64 (a1 + 3)) < (a0.size : Int) then (some (wrap64 ((wrap64 ((wrap64 ((wrap64 ((wrap64 (Go.bits .and .u8 (bt a0 a1) 7)) * 262144)) + (wrap64 ((wrap64 (Go.bits .and .u8 (bt a0 (wrap64 (a1 + 1))) 63)) * 4096)))) + (wrap64 ((wrap64 (Go.bits .and .u8 (bt a0 (wrap64 (a1 + 2))) 63)) * 64)))) + (wrap64 (Go.bits .and .u8 (bt a0 (wrap64 (a1 + 3))) 63))), 4)) else (none)) else (none)) else (none)) else (none)) else (none)) else (none)) else (some (65533, 1)))) else (some (65533, 1))) = some (r1, r2) := H
                          have A40 := Aside0.mk A400
                          clear A400
                          by_cases c41 : t140 = true
                          · subst c41
                            have H1 : ((cachepotref1_follows.f a0 (wrap64 (a1 + 3)) 128 191).bind fun t141 => (if t141 = true then (if 0 ≤ (wrap64 (a1 + 1)) then (if (wrap64 (a1 + 1)) < (a0.size : Int) then (if 0 ≤ (wrap64 (a1 + 2)) then (if (wrap64 (a1 + 2)) < (a0.size : Int) then (if 0 ≤ (wrap64 (a1 + 3)) then (if (wrap64 (a1 + 3)) < (a0.size : Int) then (some (wrap64 ((wrap64 ((wrap64 ((wrap64 ((wrap64 (Go.bits .and .u8 (bt a0 a1) 7)) * 262144)) + (wrap64 ((wrap64 (Go.bits .and .u8 (bt a0 (wrap64 (a1 + 1))) 63)) * 4096)))) + (wrap64 ((wrap64 (Go.bits .and .u8 (bt a0 (wrap64 (a1 + 2))) 63)) * 64)))) + (wrap64 (Go.bits .and .u8 (bt a0 (wrap64 (a1 + 3))) 63))), 4)) else (none)) else (none)) else (none)) else (none)) else (none)) else (none)) else (some (65533, 1)))) = some (r1, r2) := by rw [if_pos rfl] at H; exact H
                            clear H
                            have H := H1
                            clear H1
                            replace H := Option.bind_eq_some_iff.mp H
                            obtain ⟨t141, A420, H⟩ := H
                            replace H : (if t141 = true then (if 0 ≤ (wrap64 (a1 + 1)) then (if (wrap64 (a1 + 1)) < (a0.size : Int) then (if 0 ≤ (wrap64 (a1 + 2)) then (if (wrap64 (a1 + 2)) < (a0.size : Int) then (if 0 ≤ (wrap64 (a1 + 3)) then (if (wrap64 (a1 + 3)) < (a0.size : Int) then (some (wrap64 ((wrap64 ((wrap64 ((wrap64 ((wrap64 (Go.bits .and .u8 (bt a0 a1) 7)) * 262144)) + (wrap64 ((wrap64 (Go.bits .and .u8 (bt a0 (wrap64 (a1 + 1))) 63)) * 4096)))) + (wrap64 ((wrap64 (Go.bits .and .u8 (bt a0 (wrap64 (a1 + 2))) 63)) * 64)))) + (wrap64 (Go.bits .and .u8 (bt a0 (wrap64 (a1 + 3))) 63))), 4)) else (none)) else (none)) else (none)) else (none)) else (none)) else (none)) else (some (65533, 1))) = some (r1, r2) := H
                            have A42 := Aside0.mk A420
                            clear A420
                            by_cases c43 : t141 = true
                            · subst c43
                              have H1 : (if 0 ≤ (wrap64 (a1 + 1)) then (if (wrap64 (a1 + 1)) < (a0.size : Int) then (if 0 ≤ (wrap64 (a1 + 2)) then (if (wrap64 (a1 + 2)) < (a0.size : Int) then (if 0 ≤ (wrap64 (a1 + 3)) then (if (wrap64 (a1 + 3)) < (a0.size : Int) then (some (wrap64 ((wrap64 ((wrap64 ((wrap64 ((wrap64 (Go.bits .and .u8 (bt a0 a1) 7)) * 262144)) + (wrap64 ((wrap64 (Go.bits .and .u8 (bt a0 (wrap64 (a1 + 1))) 63)) * 4096)))) + (wrap64 ((wrap64 (Go.bits .and .u8 (bt a0 (wrap64 (a1 + 2))) 63)) * 64)))) + (wrap64 (Go.bits .and .u8 (bt a0 (wrap64 (a1 + 3))) 63))), 4)) else (none)) else (none)) else (none)) else (none)) else (none)) else (none)) = some (r1, r2) := by rw [if_pos rfl] at H; exact H
                              clear H
                              have H := H1
                              clear H1
                              obtain ⟨ji44, hji44⟩ : ∃ j_ : Int, (wrap64 (a1 + 1)) = j_ := ⟨_, rfl⟩
                              replace H : (if 0 ≤ (ji44) then (if (ji44) < (a0.size : Int) then (if 0 ≤ (wrap64 (a1 + 2)) then (if (wrap64 (a1 + 2)) < (a0.size : Int) then (if 0 ≤ (wrap64 (a1 + 3)) then (if (wrap64 (a1 + 3)) < (a0.size : Int) then (some (wrap64 ((wrap64 ((wrap64 ((wrap64 ((wrap64 (Go.bits .and .u8 (bt a0 a1) 7)) * 262144)) + (wrap64 ((wrap64 (Go.bits .and .u8 (bt a0 (ji44)) 63)) * 4096)))) + (wrap64 ((wrap64 (Go.bits .and .u8 (bt a0 (wrap64 (a1 + 2))) 63)) * 64)))) + (wrap64 (Go.bits .and .u8 (bt a0 (wrap64 (a1 + 3))) 63))), 4)) else (none)) else (none)) else (none)) else (none)) else (none)) else (none)) = some (r1, r2) := by first | (rw [hji44] at H; exact H) | (simp only [hji44] at H ⊢; exact H)
                              (try rw [hji44] at A38)
                              (try rw [hji44] at A40)
                              (try rw [hji44] at A42)
                              have hji44w : (IntKind.i64.wrap (a1 + 1)) = ji44 := (i64_w _).trans hji44
                              by_cases c45 : 0 ≤ (ji44)
                              · rw [if_pos c45] at H
                                have c45b0 : decide (0 ≤ (ji44)) = true := decide_eq_true c45
                                clear c45
                                by_cases c46 : (ji44) < (a0.size : Int)
                                · rw [if_pos c46] at H
                                  have c46b0 : decide ((ji44) < (a0.size : Int)) = true := decide_eq_true c46
                                  clear c46
                                  obtain ⟨ji48, hji48⟩ : ∃ j_ : Int, (wrap64 (a1 + 2)) = j_ := ⟨_, rfl⟩
                                  replace H : (if 0 ≤ (ji48) then (if (ji48) < (a0.size : Int) then (if 0 ≤ (wrap64 (a1 + 3)) then (if (wrap64 (a1 + 3)) < (a0.size : Int) then (some (wrap64 ((wrap64 ((wrap64 ((wrap64 ((wrap64 (Go.bits .and .u8 (bt a0 a1) 7)) * 262144)) + (wrap64 ((wrap64 (Go.bits .and .u8 (bt a0 (ji44)) 63)) * 4096)))) + (wrap64 ((wrap64 (Go.bits .and .u8 (bt a0 (ji48)) 63)) * 64)))) + (wrap64 (Go.bits .and .u8 (bt a0 (wrap64 (a1 + 3))) 63))), 4)) else (none)) else (none)) else (none)) else (none)) = some (r1, r2) := by first | (rw [hji48] at H; exact H) | (simp only [hji48] at H ⊢; exact H)
                                  (try rw [hji48] at A38)
                                  (try rw [hji48] at A40)
                                  (try rw [hji48] at A42)
                                  have hji48w : (IntKind.i64.wrap (a1 + 2)) = ji48 := (i64_w _).trans hji48
                                  by_cases c49 : 0 ≤ (ji48)
                                  · rw [if_pos c49] at H
                                    have c49b0 : decide (0 ≤ (ji48)) = true := decide_eq_true c49
                                    clear c49
                                    by_cases c50 : (ji48) < (a0.size : Int)
                                    · rw [if_pos c50] at H
                                      have c50b0 : decide ((ji48) < (a0.size : Int)) = true := decide_eq_true c50
                                      clear c50
                                      obtain ⟨ji52, hji52⟩ : ∃ j_ : Int, (wrap64 (a1 + 3)) = j_ := ⟨_, rfl⟩
                                      replace H : (if 0 ≤ (ji52) then (if (ji52) < (a0.size : Int) then (some (wrap64 ((wrap64 ((wrap64 ((wrap64 ((wrap64 (Go.bits .and .u8 (bt a0 a1) 7)) * 262144)) + (wrap64 ((wrap64 (Go.bits .and .u8 (bt a0 (ji44)) 63)) * 4096)))) + (wrap64 ((wrap64 (Go.bits .and .u8 (bt a0 (ji48)) 63)) * 64)))) + (wrap64 (Go.bits .and .u8 (bt a0 (ji52)) 63))), 4)) else (none)) else (none)) = some (r1, r2) := by first | (rw [hji52] at H; exact H) | (simp only [hji52] at H ⊢; exact H)
                                      (try rw [hji52] at A38)
                                      (try rw [hji52] at A40)
                                      (try rw [hji52] at A42)
                                      have hji52w : (IntKind.i64.wrap (a1 + 3)) = ji52 := (i64_w _).trans hji52
                                      by_cases c53 : 0 ≤ (ji52)
                                      · rw [if_pos c53] at H
                                        have c53b0 : decide (0 ≤ (ji52)) = true := decide_eq_true c53
                                        clear c53
                                        by_cases c54 : (ji52) < (a0.size : Int)
                                        · rw [if_pos c54] at H
                                          have c54b0 : decide ((ji52) < (a0.size : Int)) = true := decide_eq_true c54
                                          clear c54
                                          simp only [Option.some.injEq, Prod.mk.injEq] at H
                                          obtain ⟨rfl, rfl⟩ := H
                                          go_wp2_with (first | (go_at_call 132; (with_reducible refine (cachepotref1_follows.calls a0 ji44 x7_15 x8_15 true _ A38.out).mono ?_); rintro e w' ⟨rfl, ⟨nd, rfl⟩⟩; (try first | exact ⟨rfl, _, World.drewN_drewN _ _ _⟩ | exact ⟨rfl, _, Eq.trans (World.drewN_drewN _ _ _) (congrArg (World.drewN _) (Nat.add_assoc _ _ _))⟩)) | (go_at_call 132; (with_reducible refine (cachepotref1_follows.calls a0 ji48 128 191 true _ A40.out).mono ?_); rintro e w' ⟨rfl, ⟨nd, rfl⟩⟩; (try first | exact ⟨rfl, _, World.drewN_drewN _ _ _⟩ | exact ⟨rfl, _, Eq.trans (World.drewN_drewN _ _ _) (congrArg (World.drewN _) (Nat.add_assoc _ _ _))⟩)) | (go_at_call 132; (with_reducible refine (cachepotref1_follows.calls a0 ji52 128 191 true _ A42.out).mono ?_); rintro e w' ⟨rfl, ⟨nd, rfl⟩⟩; (try first | exact ⟨rfl, _, World.drewN_drewN _ _ _⟩ | exact ⟨rfl, _, Eq.trans (World.drewN_drewN _ _ _) (congrArg (World.drewN _) (Nat.add_assoc _ _ _))⟩); have p47 : 0 ≤ ((ji44) : Int) := of_decide_eq_true (by first | (with_reducible assumption) | assumption); have q47 : (ji44) < (a0.size : Int) := of_decide_eq_true (by first | (with_reducible assumption) | assumption); have hx47 := bt_at a0 (ji44); replace p47 := eq_true p47; replace q47 := eq_true q47; have p51 : 0 ≤ ((ji48) : Int) := of_decide_eq_true (by first | (with_reducible assumption) | assumption); have q51 : (ji48) < (a0.size : Int) := of_decide_eq_true (by first | (with_reducible assumption) | assumption); have hx51 := bt_at a0 (ji48); replace p51 := eq_true p51; replace q51 := eq_true q51; have p55 : 0 ≤ ((ji52) : Int) := of_decide_eq_true (by first | (with_reducible assumption) | assumption); have q55 : (ji52) < (a0.size : Int) := of_decide_eq_true (by first | (with_reducible assumption) | assumption); have hx55 := bt_at a0 (ji52); replace p55 := eq_true p55; replace q55 := eq_true q55))
                                          repeat (go_quiet (first | (go_at_call 132; (with_reducible refine (cachepotref1_follows.calls a0 ji44 x7_15 x8_15 true _ A38.out).mono ?_); rintro e w' ⟨rfl, ⟨nd, rfl⟩⟩; (try first | exact ⟨rfl, _, World.drewN_drewN _ _ _⟩ | exact ⟨rfl, _, Eq.trans (World.drewN_drewN _ _ _) (congrArg (World.drewN _) (Nat.add_assoc _ _ _))⟩)) | (go_at_call 132; (with_reducible refine (cachepotref1_follows.calls a0 ji48 128 191 true _ A40.out).mono ?_); rintro e w' ⟨rfl, ⟨nd, rfl⟩⟩; (try first | exact ⟨rfl, _, World.drewN_drewN _ _ _⟩ | exact ⟨rfl, _, Eq.trans (World.drewN_drewN _ _ _) (congrArg (World.drewN _) (Nat.add_assoc _ _ _))⟩)) | (go_at_call 132; (with_reducible refine (cachepotref1_follows.calls a0 ji52 128 191 true _ A42.out).mono ?_); rintro e w' ⟨rfl, ⟨nd, rfl⟩⟩; (try first | exact ⟨rfl, _, World.drewN_drewN _ _ _⟩ | exact ⟨rfl, _, Eq.trans (World.drewN_drewN _ _ _) (congrArg (World.drewN _) (Nat.add_assoc _ _ _))⟩); have p47 : 0 ≤ ((ji44) : Int) := of_decide_eq_true (by first | (with_reducible assumption) | assumption); have q47 : (ji44) < (a0.size : Int) := of_decide_eq_true (by first | (with_reducible assumption) | assumption); have hx47 := bt_at a0 (ji44); replace p47 := eq_true p47; replace q47 := eq_true q47; have p51 : 0 ≤ ((ji48) : Int) := of_decide_eq_true (by first | (with_reducible assumption) | assumption); have q51 : (ji48) < (a0.size : Int) := of_decide_eq_true (by first | (with_reducible assumption) | assumption); have hx51 := bt_at a0 (ji48); replace p51 := eq_true p51; replace q51 := eq_true q51; have p55 : 0 ≤ ((ji52) : Int) := of_decide_eq_true (by first | (with_reducible assumption) | assumption); have q55 : (ji52) < (a0.size : Int) := of_decide_eq_true (by first | (with_reducible assumption) | assumption); have hx55 := bt_at a0 (ji52); replace p55 := eq_true p55; replace q55 := eq_true q55)); try go_wp2_with (first | (go_at_call 132; (with_reducible refine (cachepotref1_follows.calls a0 ji44 x7_15 x8_15 true _ A38.out).mono ?_); rintro e w' ⟨rfl, ⟨nd, rfl⟩⟩; (try first | exact ⟨rfl, _, World.drewN_drewN _ _ _⟩ | exact ⟨rfl, _, Eq.trans (World.drewN_drewN _ _ _) (congrArg (World.drewN _) (Nat.add_assoc _ _ _))⟩)) | (go_at_call 132; (with_reducible refine (cachepotref1_follows.calls a0 ji48 128 191 true _ A40.out).mono ?_); rintro e w' ⟨rfl, ⟨nd, rfl⟩⟩; (try first | exact ⟨rfl, _, World.drewN_drewN _ _ _⟩ | exact ⟨rfl, _, Eq.trans (World.drewN_drewN _ _ _) (congrArg (World.drewN _) (Nat.add_assoc _ _ _))⟩)) | (go_at_call 132; (with_reducible refine (cachepotref1_follows.calls a0 ji52 128 191 true _ A42.out).mono ?_); rintro e w' ⟨rfl, ⟨nd, rfl⟩⟩; (try first | exact ⟨rfl, _, World.drewN_drewN _ _ _⟩ | exact ⟨rfl, _, Eq.trans (World.drewN_drewN _ _ _) (congrArg (World.drewN _) (Nat.add_assoc _ _ _))⟩); have p47 : 0 ≤ ((ji44) : Int) := of_decide_eq_true (by first | (with_reducible assumption) | assumption); have q47 : (ji44) < (a0.size : Int) := of_decide_eq_true (by first | (with_reducible assumption) | assumption); have hx47 := bt_at a0 (ji44); replace p47 := eq_true p47; replace q47 := eq_true q47; have p51 : 0 ≤ ((ji48) : Int) := of_decide_eq_true (by first | (with_reducible assumption) | assumption); have q51 : (ji48) < (a0.size : Int) := of_decide_eq_true (by first | (with_reducible assumption) | assumption); have hx51 := bt_at a0 (ji48); replace p51 := eq_true p51; replace q51 := eq_true q51; have p55 : 0 ≤ ((ji52) : Int) := of_decide_eq_true (by first | (with_reducible assumption) | assumption); have q55 : (ji52) < (a0.size : Int) := of_decide_eq_true (by first | (with_reducible assumption) | assumption); have hx55 := bt_at a0 (ji52); replace p55 := eq_true p55; replace q55 := eq_true q55)))
                                          go_ret2
                                          exact ⟨by first | rfl | (simp; done) | (simp only [← hji44, ← hji48, ← hji52] <;> (first | rfl | simp)) | (simp [*]; done), by repeat (first | exact Drawn0.refl _ | apply Drawn0.step)⟩
                                        · rw [if_neg c54] at H
                                          exact absurd H (by simp)
                                      · rw [if_neg c53] at H
                                        exact absurd H (by simp)
                                    · rw [if_neg c50] at H
                                      exact absurd H (by simp)
                                  · rw [if_neg c49] at H
                                    exact absurd H (by simp)
                                · rw [if_neg c46] at H
                                  exact absurd H (by simp)
                              · rw [if_neg c45] at H
                                exact absurd H (by simp)
                            · replace c43 := Bool.eq_false_iff.mpr c43
                              subst c43
                              have H1 : (some (65533, 1)) = some (r1, r2) := by rw [if_neg (show ¬ (false = true) by decide)] at H; exact H
                              clear H
                              have H := H1
                              clear H1
                              simp only [Option.some.injEq, Prod.mk.injEq] at H
                              obtain ⟨rfl, rfl⟩ := H
                              go_wp2_with (first | (go_at_call 132; (with_reducible refine (cachepotref1_follows.calls a0 (wrap64 (a1 + 1)) x7_15 x8_15 true _ A38.out).mono ?_); rintro e w' ⟨rfl, ⟨nd, rfl⟩⟩; (try first | exact ⟨rfl, _, World.drewN_drewN _ _ _⟩ | exact ⟨rfl, _, Eq.trans (World.drewN_drewN _ _ _) (congrArg (World.drewN _) (Nat.add_assoc _ _ _))⟩)) | (go_at_call 132; (with_reducible refine (cachepotref1_follows.calls a0 (wrap64 (a1 + 2)) 128 191 true _ A40.out).mono ?_); rintro e w' ⟨rfl, ⟨nd, rfl⟩⟩; (try first | exact ⟨rfl, _, World.drewN_drewN _ _ _⟩ | exact ⟨rfl, _, Eq.trans (World.drewN_drewN _ _ _) (congrArg (World.drewN _) (Nat.add_assoc _ _ _))⟩)) | (go_at_call 132; (with_reducible refine (cachepotref1_follows.calls a0 (wrap64 (a1 + 3)) 128 191 false _ A42.out).mono ?_); rintro e w' ⟨rfl, ⟨nd, rfl⟩⟩; (try first | exact ⟨rfl, _, World.drewN_drewN _ _ _⟩ | exact ⟨rfl, _, Eq.trans (World.drewN_drewN _ _ _) (congrArg (World.drewN _) (Nat.add_assoc _ _ _))⟩)))
                              repeat (go_quiet (first | (go_at_call 132; (with_reducible refine (cachepotref1_follows.calls a0 (wrap64 (a1 + 1)) x7_15 x8_15 true _ A38.out).mono ?_); rintro e w' ⟨rfl, ⟨nd, rfl⟩⟩; (try first | exact ⟨rfl, _, World.drewN_drewN _ _ _⟩ | exact ⟨rfl, _, Eq.trans (World.drewN_drewN _ _ _) (congrArg (World.drewN _) (Nat.add_assoc _ _ _))⟩)) | (go_at_call 132; (with_reducible refine (cachepotref1_follows.calls a0 (wrap64 (a1 + 2)) 128 191 true _ A40.out).mono ?_); rintro e w' ⟨rfl, ⟨nd, rfl⟩⟩; (try first | exact ⟨rfl, _, World.drewN_drewN _ _ _⟩ | exact ⟨rfl, _, Eq.trans (World.drewN_drewN _ _ _) (congrArg (World.drewN _) (Nat.add_assoc _ _ _))⟩)) | (go_at_call 132; (with_reducible refine (cachepotref1_follows.calls a0 (wrap64 (a1 + 3)) 128 191 false _ A42.out).mono ?_); rintro e w' ⟨rfl, ⟨nd, rfl⟩⟩; (try first | exact ⟨rfl, _, World.drewN_drewN _ _ _⟩ | exact ⟨rfl, _, Eq.trans (World.drewN_drewN _ _ _) (congrArg (World.drewN _) (Nat.add_assoc _ _ _))⟩))); try go_wp2_with (first | (go_at_call 132; (with_reducible refine (cachepotref1_follows.calls a0 (wrap64 (a1 + 1)) x7_15 x8_15 true _ A38.out).mono ?_); rintro e w' ⟨rfl, ⟨nd, rfl⟩⟩; (try first | exact ⟨rfl, _, World.drewN_drewN _ _ _⟩ | exact ⟨rfl, _, Eq.trans (World.drewN_drewN _ _ _) (congrArg (World.drewN _) (Nat.add_assoc _ _ _))⟩)) | (go_at_call 132; (with_reducible refine (cachepotref1_follows.calls a0 (wrap64 (a1 + 2)) 128 191 true _ A40.out).mono ?_); rintro e w' ⟨rfl, ⟨nd, rfl⟩⟩; (try first | exact ⟨rfl, _, World.drewN_drewN _ _ _⟩ | exact ⟨rfl, _, Eq.trans (World.drewN_drewN _ _ _) (congrArg (World.drewN _) (Nat.add_assoc _ _ _))⟩)) | (go_at_call 132; (with_reducible refine (cachepotref1_follows.calls a0 (wrap64 (a1 + 3)) 128 191 false _ A42.out).mono ?_); rintro e w' ⟨rfl, ⟨nd, rfl⟩⟩; (try first | exact ⟨rfl, _, World.drewN_drewN _ _ _⟩ | exact ⟨rfl, _, Eq.trans (World.drewN_drewN _ _ _) (congrArg (World.drewN _) (Nat.add_assoc _ _ _))⟩))))
                              go_ret2
                              exact ⟨by first | rfl | (simp; done) | (simp [*]; done), by repeat (first | exact Drawn0.refl _ | apply Drawn0.step)⟩
                          · replace c41 := Bool.eq_false_iff.mpr c41
                            subst c41
                            have H1 : (some (65533, 1)) = some (r1, r2) := by rw [if_neg (show ¬ (false = true) by decide)] at H; exact H
                            clear H
                            have H := H1
                            clear H1
                            simp only [Option.some.injEq, Prod.mk.injEq] at H
                            obtain ⟨rfl, rfl⟩ := H
                            go_wp2_with (first | (go_at_call 132; (with_reducible refine (cachepotref1_follows.calls a0 (wrap64 (a1 + 1)) x7_15 x8_15 true _ A38.out).mono ?_); rintro e w' ⟨rfl, ⟨nd, rfl⟩⟩; (try first | exact ⟨rfl, _, World.drewN_drewN _ _ _⟩ | exact ⟨rfl, _, Eq.trans (World.drewN_drewN _ _ _) (congrArg (World.drewN _) (Nat.add_assoc _ _ _))⟩)) | (go_at_call 132; (with_reducible refine (cachepotref1_follows.calls a0 (wrap64 (a1 + 2)) 128 191 false _ A40.out).mono ?_); rintro e w' ⟨rfl, ⟨nd, rfl⟩⟩; (try first | exact ⟨rfl, _, World.drewN_drewN _ _ _⟩ | exact ⟨rfl, _, Eq.trans (World.drewN_drewN _ _ _) (congrArg (World.drewN _) (Nat.add_assoc _ _ _))⟩)))
                            repeat (go_quiet (first | (go_at_call 132; (with_reducible refine (cachepotref1_follows.calls a0 (wrap64 (a1 + 1)) x7_15 x8_15 true _ A38.out).mono ?_); rintro e w' ⟨rfl, ⟨nd, rfl⟩⟩; (try first | exact ⟨rfl, _, World.drewN_drewN _ _ _⟩ | exact ⟨rfl, _, Eq.trans (World.drewN_drewN _ _ _) (congrArg (World.drewN _) (Nat.add_assoc _ _ _))⟩)) | (go_at_call 132; (with_reducible refine (cachepotref1_follows.calls a0 (wrap64 (a1 + 2)) 128 191 false _ A40.out).mono ?_); rintro e w' ⟨rfl, ⟨nd, rfl⟩⟩; (try first | exact ⟨rfl, _, World.drewN_drewN _ _ _⟩ | exact ⟨rfl, _, Eq.trans (World.drewN_drewN _ _ _) (congrArg (World.drewN _) (Nat.add_assoc _ _ _))⟩))); try go_wp2_with (first | (go_at_call 132; (with_reducible refine (cachepotref1_follows.calls a0 (wrap64 (a1 + 1)) x7_15 x8_15 true _ A38.out).mono ?_); rintro e w' ⟨rfl, ⟨nd, rfl⟩⟩; (try first | exact ⟨rfl, _, World.drewN_drewN _ _ _⟩ | exact ⟨rfl, _, Eq.trans (World.drewN_drewN _ _ _) (congrArg (World.drewN _) (Nat.add_assoc _ _ _))⟩)) | (go_at_call 132; (with_reducible refine (cachepotref1_follows.calls a0 (wrap64 (a1 + 2)) 128 191 false _ A40.out).mono ?_); rintro e w' ⟨rfl, ⟨nd, rfl⟩⟩; (try first | exact ⟨rfl, _, World.drewN_drewN _ _ _⟩ | exact ⟨rfl, _, Eq.trans (World.drewN_drewN _ _ _) (congrArg (World.drewN _) (Nat.add_assoc _ _ _))⟩))))
                            go_ret2
                            exact ⟨by first | rfl | (simp; done) | (simp [*]; done), by repeat (first | exact Drawn0.refl _ | apply Drawn0.step)⟩
                        · replace c39 := Bool.eq_false_iff.mpr c39
                          subst c39
                          have H1 : (some (65533, 1)) = some (r1, r2) := by rw [if_neg (show ¬ (false = true) by decide)] at H; exact H
                          clear H
                          have H := H1
                          clear H1
                          simp only [Option.some.injEq, Prod.mk.injEq] at H
                          obtain ⟨rfl, rfl⟩ := H
                          go_wp2_with (first | (go_at_call 132; (with_reducible refine (cachepotref1_follows.calls a0 (wrap64 (a1 + 1)) x7_15 x8_15 false _ A38.out).mono ?_); rintro e w' ⟨rfl, ⟨nd, rfl⟩⟩; (try first | exact ⟨rfl, _, World.drewN_drewN _ _ _⟩ | exact ⟨rfl, _, Eq.trans (World.drewN_drewN _ _ _) (congrArg (World.drewN _) (Nat.add_assoc _ _ _))⟩)))
                          repeat (go_quiet (first | (go_at_call 132; (with_reducible refine (cachepotref1_follows.calls a0 (wrap64 (a1 + 1)) x7_15 x8_15 false _ A38.out).mono ?_); rintro e w' ⟨rfl, ⟨nd, rfl⟩⟩; (try first | exact ⟨rfl, _, World.drewN_drewN _ _ _⟩ | exact ⟨rfl, _, Eq.trans (World.drewN_drewN _ _ _) (congrArg (World.drewN _) (Nat.add_assoc _ _ _))⟩))); try go_wp2_with (first | (go_at_call 132; (with_reducible refine (cachepotref1_follows.calls a0 (wrap64 (a1 + 1)) x7_15 x8_15 false _ A38.out).mono ?_); rintro e w' ⟨rfl, ⟨nd, rfl⟩⟩; (try first | exact ⟨rfl, _, World.drewN_drewN _ _ _⟩ | exact ⟨rfl, _, Eq.trans (World.drewN_drewN _ _ _) (congrArg (World.drewN _) (Nat.add_assoc _ _ _))⟩))))
                          go_ret2
                          exact ⟨by first | rfl | (simp; done) | (simp [*]; done), by repeat (first | exact Drawn0.refl _ | apply Drawn0.step)⟩
                      · rw [if_neg c37] at H
                        have c37b0 : decide ((bt a0 a1) ≤ 244) = false := decide_eq_false c37
                        clear c37
                        simp only [Option.some.injEq, Prod.mk.injEq] at H
                        obtain ⟨rfl, rfl⟩ := H
                        go_wp2
                        repeat (go_quiet (fail); try go_wp2)
                        go_ret2
                        exact ⟨by first | rfl | (simp; done) | (simp [*]; done), by repeat (first | exact Drawn0.refl _ | apply Drawn0.step)⟩
                    · rw [if_neg c36] at H
                      have c36b0 : decide (240 ≤ (bt a0 a1)) = false := decide_eq_false c36
                      clear c36
                      simp only [Option.some.injEq, Prod.mk.injEq] at H
                      obtain ⟨rfl, rfl⟩ := H
                      go_wp2
                      repeat (go_quiet (fail); try go_wp2)
                      go_ret2
                      exact ⟨by first | rfl | (simp; done) | (simp [*]; done), by repeat (first | exact Drawn0.refl _ | apply Drawn0.step)⟩
    · rw [if_neg c4] at H
      exact absurd H (by simp)
  · rw [if_neg c3] at H
    exact absurd H (by simp)
end

section
/-! ### cachepotref1_Runes: function 96 -/
def cachepotref1_Runes.l0 : Nat → ByteArray → List Int → List Int → Int → Option (List Int × List Int)
  | 0, _, _, _, _ => none
  | k + 1, x0, x4, x5, x6 => if x6 < (x0.size : Int) then ((cachepotref1_Rune.f k x0 x6).bind fun bt142 => (if x4.length < 17592186044416 then (if x5.length < 17592186044416 then (cachepotref1_Runes.l0 k x0 (x4 ++ [bt142.1]) (x5 ++ [bt142.2]) (wrap64 (x6 + bt142.2))) else (none)) else (none))) else (some (x4, x5))
def cachepotref1_Runes.f (k : Nat) (a0 : ByteArray) : Option (List Int × List Int) := cachepotref1_Runes.l0 k a0 ([] : List Int) ([] : List Int) 0
theorem cachepotref1_Runes.mono_l : ∀ k, (∀ y0 y1 y2 y3, LeO (cachepotref1_Runes.l0 k y0 y1 y2 y3) (cachepotref1_Runes.l0 (k + 1) y0 y1 y2 y3))
  | 0 => fun _ _ _ _ r h => by simp [cachepotref1_Runes.l0] at h
  | k + 1 => by
    have ih0 := cachepotref1_Runes.mono_l k
    · intro y0 y1 y2 y3
      unfold cachepotref1_Runes.l0
      repeat' first
      | (with_reducible exact ih0 _ _ _ _)
      | (with_reducible exact cachepotref1_Rune.mono _ _ _)
      | (with_reducible exact LeO.refl _)
      | (with_reducible exact LeO.none _)
      | (with_reducible refine LeO.ite ?_ ?_)
      | (with_reducible refine LeO.bind ?_ (fun _ => ?_))
      | exact ih0 _ _ _ _
      | exact cachepotref1_Rune.mono _ _ _
      | exact LeO.none _
      | refine LeO.ite ?_ ?_
      | refine LeO.bind ?_ (fun _ => ?_)
theorem cachepotref1_Runes.mono : ∀ a0 k, LeO (cachepotref1_Runes.f k a0) (cachepotref1_Runes.f (k + 1) a0) := by
  intro a0 k
  have ih0 := cachepotref1_Runes.mono_l k
  unfold cachepotref1_Runes.f
  repeat' first
      | (with_reducible exact ih0 _ _ _ _)
      | (with_reducible exact cachepotref1_Rune.mono _ _ _)
      | (with_reducible exact LeO.refl _)
      | (with_reducible exact LeO.none _)
      | (with_reducible refine LeO.ite ?_ ?_)
      | (with_reducible refine LeO.bind ?_ (fun _ => ?_))
      | exact ih0 _ _ _ _
      | exact cachepotref1_Rune.mono _ _ _
      | exact LeO.none _
      | refine LeO.ite ?_ ?_
      | refine LeO.bind ?_ (fun _ => ?_)
set_option maxHeartbeats 8000000 in
set_option maxRecDepth 100000 in
theorem cachepotref1_Runes.calls (k : Nat) (a0 : ByteArray) (r1 : List Int) (r2 : List Int) (w : World) (h : cachepotref1_Runes.f k a0 = some (r1, r2)) :
    Calls Tryd.prog 96 #[.string a0] w fun e w' => ∃ v0_ v1_ : Value, e = .returned (.tuple #[v0_, v1_]) ∧ Kd.R (Kd.int .i64) 3 w' w.heap.size (fun k_ => some k_ ≠ (v1_ : Value).ownBlock) v0_ r1 ∧ Kd.R (Kd.int .i64) 3 w' w.heap.size (fun k_ => some k_ ≠ (v0_ : Value).ownBlock) v1_ r2 ∧ Below w.heap.size w w' := by
  have HB := Aside0.mk (Below.refl w.heap.size w)
  have H : (cachepotref1_Runes.l0 k a0 ([] : List Int) ([] : List Int) 0) = some (r1, r2) := h
  clear h
  have H' := Aside0.mk H
  clear H
  go_enter Tryd.func96, Tryd.ntmps96
  go_wp2
  go_loopg [4, 5, 6] k (fun kq v4 v5 v6 w' => ∃ (x4_1 : List Int) (x5_1 : List Int) (x6_1 : Int), v6 = .int .i64 x6_1 ∧ Aside0 (cachepotref1_Runes.l0 kq a0 x4_1 x5_1 x6_1 = some (r1, r2)) ∧ Aside0 (kq ≤ k) ∧ Aside0 (Kd.R (Kd.int .i64) 3 w' w.heap.size (fun k_ => some k_ ≠ (v5 : Value).ownBlock) v4 x4_1) ∧ Aside0 (Kd.R (Kd.int .i64) 3 w' w.heap.size (fun k_ => some k_ ≠ (v4 : Value).ownBlock) v5 x5_1) ∧ Aside0 (Below w.heap.size w w'))
  case atStart => exact ⟨(([] : List Int)), (([] : List Int)), (0), (by first | rfl | (simp; done) | (simp [*]; done)), H', ⟨Nat.le_refl _⟩, ⟨by first | exact Kd.R_nil _ _ _ _ _ | exact Kd.N_nil _ _ _ _ _ | exact Kd.V_nil _ _ _ _ _ | exact Kd.Q_nil _ _ _ _ _ | exact Kd.S_nil _ _ _ _ _⟩, ⟨by first | exact Kd.R_nil _ _ _ _ _ | exact Kd.N_nil _ _ _ _ _ | exact Kd.V_nil _ _ _ _ _ | exact Kd.Q_nil _ _ _ _ _ | exact Kd.S_nil _ _ _ _ _⟩, ⟨by repeat (first | (with_reducible first | exact HB.out | apply below_alloc | apply pw_below_drewN | apply below_drew1) | exact HB.out)⟩⟩
  case round =>
    clear H'
    obtain ⟨x4_1, x5_1, x6_1, rfl, HA, HK1, HO_4, HO_5, HB⟩ := hrel
    cases gk with
    | zero => exact absurd HA.out (by simp [cachepotref1_Runes.l0])
    | succ k1 =>
      have H := HA.out
      clear HA
      simp only [cachepotref1_Runes.l0] at H
      by_cases c2 : x6_1 < (a0.size : Int)
      · rw [if_pos c2] at H
        have c2b0 : decide (x6_1 < (a0.size : Int)) = true := decide_eq_true c2
        clear c2
        replace H := Option.bind_eq_some_iff.mp H
        obtain ⟨⟨t142, t143⟩, A30, H⟩ := H
        replace H : (if x4_1.length < 17592186044416 then (if x5_1.length < 17592186044416 then (cachepotref1_Runes.l0 k1 a0 (x4_1 ++ [t142]) (x5_1 ++ [t143]) (wrap64 (x6_1 + t143))) else (none)) else (none)) = some (r1, r2) := H
        have A3 := Aside0.mk A30
        clear A30
        by_cases c4 : x4_1.length < 17592186044416
        · rw [if_pos c4] at H
          have LMc4 := Aside0.mk c4
          clear c4
          obtain ⟨y144, hy144⟩ : ∃ y_ : List Int, y_ = (x4_1 ++ [t142]) := ⟨_, rfl⟩
          replace H : (if x5_1.length < 17592186044416 then (cachepotref1_Runes.l0 k1 a0 y144 (x5_1 ++ [t143]) (wrap64 (x6_1 + t143))) else (none)) = some (r1, r2) := by first | (rw [hy144]; with_reducible exact H) | (have H2_ := (Option.bind_some _ _).symm.trans H; rw [hy144]; with_reducible exact H2_) | (have H2_ := (Option.bind_some _ _).symm.trans H; with_reducible exact H2_) | with_reducible exact H | (rw [hy144]; exact H) | exact H
          have Ny144 := Aside0.mk hy144
          clear hy144
          by_cases c5 : x5_1.length < 17592186044416
          · rw [if_pos c5] at H
            have LMc5 := Aside0.mk c5
            clear c5
            obtain ⟨y147, hy147⟩ : ∃ y_ : List Int, y_ = (x5_1 ++ [t143]) := ⟨_, rfl⟩
            replace H : (cachepotref1_Runes.l0 k1 a0 y144 y147 (wrap64 (x6_1 + t143))) = some (r1, r2) := by first | (rw [hy147]; with_reducible exact H) | (have H2_ := (Option.bind_some _ _).symm.trans H; rw [hy147]; with_reducible exact H2_) | (have H2_ := (Option.bind_some _ _).symm.trans H; with_reducible exact H2_) | with_reducible exact H | (rw [hy147]; exact H) | exact H
            have Ny147 := Aside0.mk hy147
            clear hy147
            have H' := Aside0.mk H
            clear H
            go_wp2_with (first | ((with_reducible refine gate_callee (f := 118) rfl ?_); refine goesL_ (some 16) rfl rfl Tryd.func118 (by kernel_rfl) rfl #[.string a0, .int .i64 x6_1] rfl (by (try simp only [List.map_toArray, List.map_cons, List.map_nil]); first | done | rfl | (simp only [List.length_drop, List.length_take]; rfl)) ?_; (with_reducible refine (cachepotref1_Rune.calls k1 a0 x6_1 t142 t143 _ A3.out).mono ?_); rintro e w' ⟨rfl, ⟨nd, rfl⟩⟩; refine ⟨_, rfl, ?_⟩) | ((with_reducible refine gate_builtin (b := .append) (xs := #[.tmp 19, .tmp 21]) rfl ?_); at_builtin; refine Kd.R_append (Kd.int .i64) (w0 := w) w.heap.size rfl (.tmp 19) (.tmp 21) 47 3 (.int .i64 0) 8 rfl Tryd.underlying47 info3 rfl (by decide) (by omega) u4 x4_1 t142 [.int .i64 t142] (fun k_ => some k_ ≠ (u5 : Value).ownBlock) (fun _ => False) rfl rfl ?aP (fun _ hk => hk.elim) ?aF ?aO ?aB ?aS ?aL ?_; (case aP => exact rfl); (case aB => exact (by repeat (first | (with_reducible first | exact HB.out | apply below_alloc | apply pw_below_drewN | apply below_drew1) | exact HB.out))); (case aF => exact (fun k_ hk => Kd.fresh' (Kd.R_lt (by (with_reducible repeat (first | apply Kd.R_alloc | apply Kd.R_drewN | apply Kd.R_drew)); exact HO_5.out)) k_ hk)); (case aO => exact (by (with_reducible repeat (first | apply Kd.R_alloc | apply Kd.R_drewN | apply Kd.R_drew)); exact HO_4.out)); (case aS => exact (below_size (by repeat (first | (with_reducible first | exact HB.out | apply below_alloc | apply pw_below_drewN | apply below_drew1) | exact HB.out)))); (case aL => have := LMc4.out; omega); intro v145 w6 ho hb hg hat; rw [← Ny144.out] at ho; have n0_ := Aside0.mk (Kd.R_after (ok := (fun _ => True)) (by (with_reducible repeat (first | apply Kd.R_alloc | apply Kd.R_drewN | apply Kd.R_drew)); exact Kd.R_mono HO_5.out (fun _ hk => ⟨trivial, hk⟩)) hg hat); have n1_ := Aside0.mk (hb); have n2_ := Aside0.mk (ho); clear HO_5; clear HB; clear HO_4; have HO_5 := n0_; have HB := n1_; have HO146 := n2_; clear n0_ n1_ n2_; clear ho hb hg hat) | ((with_reducible refine gate_builtin (b := .append) (xs := #[.tmp 23, .tmp 25]) rfl ?_); at_builtin; refine Kd.R_append (Kd.int .i64) (w0 := w) w.heap.size rfl (.tmp 23) (.tmp 25) 47 3 (.int .i64 0) 8 rfl Tryd.underlying47 info3 rfl (by decide) (by omega) u5 x5_1 t143 [.int .i64 t143] (fun k_ => some k_ ≠ (v145 : Value).ownBlock) (fun _ => False) rfl rfl ?aP (fun _ hk => hk.elim) ?aF ?aO ?aB ?aS ?aL ?_; (case aP => exact rfl); (case aB => exact (by repeat (first | (with_reducible first | exact HB.out | apply below_alloc | apply pw_below_drewN | apply below_drew1) | exact HB.out))); (case aF => exact (fun k_ hk => Kd.fresh' (Kd.R_lt (by (with_reducible repeat (first | apply Kd.R_alloc | apply Kd.R_drewN | apply Kd.R_drew)); exact HO146.out)) k_ hk)); (case aO => exact (by (with_reducible repeat (first | apply Kd.R_alloc | apply Kd.R_drewN | apply Kd.R_drew)); exact Kd.R_mono HO_5.out (fun _ hk => hk.2))); (case aS => exact (below_size (by repeat (first | (with_reducible first | exact HB.out | apply below_alloc | apply pw_below_drewN | apply below_drew1) | exact HB.out)))); (case aL => have := LMc5.out; omega); intro v148 w7 ho hb hg hat; rw [← Ny147.out] at ho; have n0_ := Aside0.mk (Kd.R_after (ok := (fun _ => True)) (by (with_reducible repeat (first | apply Kd.R_alloc | apply Kd.R_drewN | apply Kd.R_drew)); exact Kd.R_mono HO146.out (fun _ hk => ⟨trivial, hk⟩)) hg hat); have n1_ := Aside0.mk (hb); have n2_ := Aside0.mk (ho); clear HO146; clear HB; clear HO_5; have HO146 := n0_; have HB := n1_; have HO149 := n2_; clear n0_ n1_ n2_; clear ho hb hg hat))
            go_roundg k1
            case measure => have := HK1.out; omega
            case rel => exact ⟨(y144), (y147), (wrap64 (x6_1 + t143)), (by first | rfl | (simp; done) | (simp [*]; done)), H', ⟨by have := HK1.out; omega⟩, ⟨by (with_reducible repeat (first | apply Kd.R_alloc | apply Kd.R_drewN | apply Kd.R_drew)); exact Kd.R_mono HO146.out (fun _ hk => hk.2)⟩, ⟨by (with_reducible repeat (first | apply Kd.R_alloc | apply Kd.R_drewN | apply Kd.R_drew)); exact HO149.out⟩, ⟨by repeat (first | (with_reducible first | exact HB.out | apply below_alloc | apply pw_below_drewN | apply below_drew1) | exact HB.out)⟩⟩
          · rw [if_neg c5] at H
            exact absurd H (by simp)
        · rw [if_neg c4] at H
          exact absurd H (by simp)
      · rw [if_neg c2] at H
        have c2b0 : decide (x6_1 < (a0.size : Int)) = false := decide_eq_false c2
        clear c2
        simp only [Option.some.injEq, Prod.mk.injEq] at H
        obtain ⟨rfl, rfl⟩ := H
        go_wp2
        go_ret2
        exact ⟨_, _, by first | rfl | (simp [errW_none, errW_some] <;> rfl) | (simp [*, errW_none, errW_some] <;> rfl), by (with_reducible repeat (first | apply Kd.R_alloc | apply Kd.R_drewN | apply Kd.R_drew)); exact HO_4.out, by (with_reducible repeat (first | apply Kd.R_alloc | apply Kd.R_drewN | apply Kd.R_drew)); exact HO_5.out, by repeat (first | (with_reducible first | exact HB.out | apply below_alloc | apply pw_below_drewN | apply below_drew1) | exact HB.out)⟩
end

section
/-! ### cachepotref1_KeyCommon: function 125 -/
def cachepotref1_KeyCommon.l0 : Nat → List Int → List Int → Int → Option (Int)
  | 0, _, _, _ => none
  | k + 1, x5, x7, x9 => if x9 < (x5.length : Int) then (if x9 < (x7.length : Int) then (if 0 ≤ x9 then (if (rd x5 x9) = (rd x7 x9) then (cachepotref1_KeyCommon.l0 k x5 x7 (wrap64 (x9 + 1))) else (some x9)) else (none)) else (some x9)) else (some x9)
def cachepotref1_KeyCommon.f (k : Nat) (a0 : ByteArray) (a1 : ByteArray) : Option (Int) := (cachepotref1_Runes.f k a0).bind fun bt150 => ((cachepotref1_Runes.f k a1).bind fun bt156 => (cachepotref1_KeyCommon.l0 k bt150.1 bt156.1 0))
theorem cachepotref1_KeyCommon.mono_l : ∀ k, (∀ y0 y1 y2, LeO (cachepotref1_KeyCommon.l0 k y0 y1 y2) (cachepotref1_KeyCommon.l0 (k + 1) y0 y1 y2))
  | 0 => fun _ _ _ r h => by simp [cachepotref1_KeyCommon.l0] at h
  | k + 1 => by
    have ih0 := cachepotref1_KeyCommon.mono_l k
    · intro y0 y1 y2
      unfold cachepotref1_KeyCommon.l0
      repeat' first
      | (with_reducible exact ih0 _ _ _)
      | (with_reducible exact cachepotref1_Runes.mono _ _)
      | (with_reducible exact LeO.refl _)
      | (with_reducible exact LeO.none _)
      | (with_reducible refine LeO.ite ?_ ?_)
      | (with_reducible refine LeO.bind ?_ (fun _ => ?_))
      | exact ih0 _ _ _
      | exact cachepotref1_Runes.mono _ _
      | exact LeO.none _
      | refine LeO.ite ?_ ?_
      | refine LeO.bind ?_ (fun _ => ?_)
theorem cachepotref1_KeyCommon.mono : ∀ a0 a1 k, LeO (cachepotref1_KeyCommon.f k a0 a1) (cachepotref1_KeyCommon.f (k + 1) a0 a1) := by
  intro a0 a1 k
  have ih0 := cachepotref1_KeyCommon.mono_l k
  unfold cachepotref1_KeyCommon.f
  repeat' first
      | (with_reducible exact ih0 _ _ _)
      | (with_reducible exact cachepotref1_Runes.mono _ _)
      | (with_reducible exact LeO.refl _)
      | (with_reducible exact LeO.none _)
      | (with_reducible refine LeO.ite ?_ ?_)
      | (with_reducible refine LeO.bind ?_ (fun _ => ?_))
      | exact ih0 _ _ _
      | exact cachepotref1_Runes.mono _ _
      | exact LeO.none _
      | refine LeO.ite ?_ ?_
      | refine LeO.bind ?_ (fun _ => ?_)
set_option maxHeartbeats 8000000 in
set_option maxRecDepth 100000 in
theorem cachepotref1_KeyCommon.calls (k : Nat) (a0 : ByteArray) (a1 : ByteArray) (r : Int) (w : World) (h : cachepotref1_KeyCommon.f k a0 a1 = some r) :
    Calls Tryd.prog 125 #[.string a0, .string a1] w fun e w' => e = .returned (.int .i64 r) ∧ Below w.heap.size w w' := by
  have HB := Aside0.mk (Below.refl w.heap.size w)
  have H : ((cachepotref1_Runes.f k a0).bind fun bt150 => ((cachepotref1_Runes.f k a1).bind fun bt156 => (cachepotref1_KeyCommon.l0 k bt150.1 bt156.1 0))) = some r := h
  clear h
  replace H := Option.bind_eq_some_iff.mp H
  obtain ⟨⟨t150, t151⟩, A30, H⟩ := H
  replace H : ((cachepotref1_Runes.f k a1).bind fun bt156 => (cachepotref1_KeyCommon.l0 k t150 bt156.1 0)) = some r := H
  have A3 := Aside0.mk A30
  clear A30
  replace H := Option.bind_eq_some_iff.mp H
  obtain ⟨⟨t156, t157⟩, A40, H⟩ := H
  replace H : (cachepotref1_KeyCommon.l0 k t150 t156 0) = some r := H
  have A4 := Aside0.mk A40
  clear A40
  have H' := Aside0.mk H
  clear H
  go_enter Tryd.func125, Tryd.ntmps125
  go_wp2_with (first | (go_at_call 96; (with_reducible refine (cachepotref1_Runes.calls k a0 t150 t151 _ A3.out).mono ?_); rintro e w5 ⟨v152, v154, rfl, ho0, ho1, hb⟩; have n0_ := Aside0.mk (Kd.R_lower ho0 (below_size (by repeat (first | (with_reducible first | exact HB.out | apply below_alloc | apply pw_below_drewN | apply below_drew1) | exact HB.out)))); have n1_ := Aside0.mk (Kd.R_lower ho1 (below_size (by repeat (first | (with_reducible first | exact HB.out | apply below_alloc | apply pw_below_drewN | apply below_drew1) | exact HB.out)))); have n2_ := Aside0.mk (below_step (by repeat (first | (with_reducible first | exact HB.out | apply below_alloc | apply pw_below_drewN | apply below_drew1) | exact HB.out)) hb); clear HB; have HO153 := n0_; have HO155 := n1_; have HB := n2_; clear n0_ n1_ n2_; (try clear hb); (try clear hb2); (try clear hk); (try clear hi); (try clear ho0); (try clear ho1)) | (go_at_call 96; (with_reducible refine (cachepotref1_Runes.calls k a1 t156 t157 _ A4.out).mono ?_); rintro e w6 ⟨v158, v160, rfl, ho0, ho1, hb⟩; have n0_ := Aside0.mk (Kd.R_mono (Kd.R_told (Kd.R_told (Kd.R_old (by (with_reducible repeat (first | apply Kd.R_alloc | apply Kd.R_drewN | apply Kd.R_drew)); exact HO153.out) hb) (Kd.R_base ho0)) (Kd.R_base ho1)) (fun _ h_ => h_.1)); have n1_ := Aside0.mk (Kd.R_mono (Kd.R_told (Kd.R_told (Kd.R_old (by (with_reducible repeat (first | apply Kd.R_alloc | apply Kd.R_drewN | apply Kd.R_drew)); exact HO155.out) hb) (Kd.R_base ho0)) (Kd.R_base ho1)) (fun _ h_ => h_.1)); have n2_ := Aside0.mk (Kd.R_lower (Kd.R_new' (Kd.R_new' ho0 (Kd.R_lt (by (with_reducible repeat (first | apply Kd.R_alloc | apply Kd.R_drewN | apply Kd.R_drew)); exact HO153.out))) (Kd.R_lt (by (with_reducible repeat (first | apply Kd.R_alloc | apply Kd.R_drewN | apply Kd.R_drew)); exact HO155.out))) (below_size (by repeat (first | (with_reducible first | exact HB.out | apply below_alloc | apply pw_below_drewN | apply below_drew1) | exact HB.out)))); have n3_ := Aside0.mk (Kd.R_lower (Kd.R_new' (Kd.R_new' ho1 (Kd.R_lt (by (with_reducible repeat (first | apply Kd.R_alloc | apply Kd.R_drewN | apply Kd.R_drew)); exact HO153.out))) (Kd.R_lt (by (with_reducible repeat (first | apply Kd.R_alloc | apply Kd.R_drewN | apply Kd.R_drew)); exact HO155.out))) (below_size (by repeat (first | (with_reducible first | exact HB.out | apply below_alloc | apply pw_below_drewN | apply below_drew1) | exact HB.out)))); have n4_ := Aside0.mk (below_step (by repeat (first | (with_reducible first | exact HB.out | apply below_alloc | apply pw_below_drewN | apply below_drew1) | exact HB.out)) hb); clear HO153; clear HO155; clear HB; have HO153 := n0_; have HO155 := n1_; have HO159 := n2_; have HO161 := n3_; have HB := n4_; clear n0_ n1_ n2_ n3_ n4_; (try clear hb); (try clear hb2); (try clear hk); (try clear hi); (try clear ho0); (try clear ho1)))
  repeat (go_quiet (first | (go_at_call 96; (with_reducible refine (cachepotref1_Runes.calls k a0 t150 t151 _ A3.out).mono ?_); rintro e w5 ⟨v152, v154, rfl, ho0, ho1, hb⟩; have n0_ := Aside0.mk (Kd.R_lower ho0 (below_size (by repeat (first | (with_reducible first | exact HB.out | apply below_alloc | apply pw_below_drewN | apply below_drew1) | exact HB.out)))); have n1_ := Aside0.mk (Kd.R_lower ho1 (below_size (by repeat (first | (with_reducible first | exact HB.out | apply below_alloc | apply pw_below_drewN | apply below_drew1) | exact HB.out)))); have n2_ := Aside0.mk (below_step (by repeat (first | (with_reducible first | exact HB.out | apply below_alloc | apply pw_below_drewN | apply below_drew1) | exact HB.out)) hb); clear HB; have HO153 := n0_; have HO155 := n1_; have HB := n2_; clear n0_ n1_ n2_; (try clear hb); (try clear hb2); (try clear hk); (try clear hi); (try clear ho0); (try clear ho1)) | (go_at_call 96; (with_reducible refine (cachepotref1_Runes.calls k a1 t156 t157 _ A4.out).mono ?_); rintro e w6 ⟨v158, v160, rfl, ho0, ho1, hb⟩; have n0_ := Aside0.mk (Kd.R_mono (Kd.R_told (Kd.R_told (Kd.R_old (by (with_reducible repeat (first | apply Kd.R_alloc | apply Kd.R_drewN | apply Kd.R_drew)); exact HO153.out) hb) (Kd.R_base ho0)) (Kd.R_base ho1)) (fun _ h_ => h_.1)); have n1_ := Aside0.mk (Kd.R_mono (Kd.R_told (Kd.R_told (Kd.R_old (by (with_reducible repeat (first | apply Kd.R_alloc | apply Kd.R_drewN | apply Kd.R_drew)); exact HO155.out) hb) (Kd.R_base ho0)) (Kd.R_base ho1)) (fun _ h_ => h_.1)); have n2_ := Aside0.mk (Kd.R_lower (Kd.R_new' (Kd.R_new' ho0 (Kd.R_lt (by (with_reducible repeat (first | apply Kd.R_alloc | apply Kd.R_drewN | apply Kd.R_drew)); exact HO153.out))) (Kd.R_lt (by (with_reducible repeat (first | apply Kd.R_alloc | apply Kd.R_drewN | apply Kd.R_drew)); exact HO155.out))) (below_size (by repeat (first | (with_reducible first | exact HB.out | apply below_alloc | apply pw_below_drewN | apply below_drew1) | exact HB.out)))); have n3_ := Aside0.mk (Kd.R_lower (Kd.R_new' (Kd.R_new' ho1 (Kd.R_lt (by (with_reducible repeat (first | apply Kd.R_alloc | apply Kd.R_drewN | apply Kd.R_drew)); exact HO153.out))) (Kd.R_lt (by (with_reducible repeat (first | apply Kd.R_alloc | apply Kd.R_drewN | apply Kd.R_drew)); exact HO155.out))) (below_size (by repeat (first | (with_reducible first | exact HB.out | apply below_alloc | apply pw_below_drewN | apply below_drew1) | exact HB.out)))); have n4_ := Aside0.mk (below_step (by repeat (first | (with_reducible first | exact HB.out | apply below_alloc | apply pw_below_drewN | apply below_drew1) | exact HB.out)) hb); clear HO153; clear HO155; clear HB; have HO153 := n0_; have HO155 := n1_; have HO159 := n2_; have HO161 := n3_; have HB := n4_; clear n0_ n1_ n2_ n3_ n4_; (try clear hb); (try clear hb2); (try clear hk); (try clear hi); (try clear ho0); (try clear ho1))); try go_wp2_with (first | (go_at_call 96; (with_reducible refine (cachepotref1_Runes.calls k a0 t150 t151 _ A3.out).mono ?_); rintro e w5 ⟨v152, v154, rfl, ho0, ho1, hb⟩; have n0_ := Aside0.mk (Kd.R_lower ho0 (below_size (by repeat (first | (with_reducible first | exact HB.out | apply below_alloc | apply pw_below_drewN | apply below_drew1) | exact HB.out)))); have n1_ := Aside0.mk (Kd.R_lower ho1 (below_size (by repeat (first | (with_reducible first | exact HB.out | apply below_alloc | apply pw_below_drewN | apply below_drew1) | exact HB.out)))); have n2_ := Aside0.mk (below_step (by repeat (first | (with_reducible first | exact HB.out | apply below_alloc | apply pw_below_drewN | apply below_drew1) | exact HB.out)) hb); clear HB; have HO153 := n0_; have HO155 := n1_; have HB := n2_; clear n0_ n1_ n2_; (try clear hb); (try clear hb2); (try clear hk); (try clear hi); (try clear ho0); (try clear ho1)) | (go_at_call 96; (with_reducible refine (cachepotref1_Runes.calls k a1 t156 t157 _ A4.out).mono ?_); rintro e w6 ⟨v158, v160, rfl, ho0, ho1, hb⟩; have n0_ := Aside0.mk (Kd.R_mono (Kd.R_told (Kd.R_told (Kd.R_old (by (with_reducible repeat (first | apply Kd.R_alloc | apply Kd.R_drewN | apply Kd.R_drew)); exact HO153.out) hb) (Kd.R_base ho0)) (Kd.R_base ho1)) (fun _ h_ => h_.1)); have n1_ := Aside0.mk (Kd.R_mono (Kd.R_told (Kd.R_told (Kd.R_old (by (with_reducible repeat (first | apply Kd.R_alloc | apply Kd.R_drewN | apply Kd.R_drew)); exact HO155.out) hb) (Kd.R_base ho0)) (Kd.R_base ho1)) (fun _ h_ => h_.1)); have n2_ := Aside0.mk (Kd.R_lower (Kd.R_new' (Kd.R_new' ho0 (Kd.R_lt (by (with_reducible repeat (first | apply Kd.R_alloc | apply Kd.R_drewN | apply Kd.R_drew)); exact HO153.out))) (Kd.R_lt (by (with_reducible repeat (first | apply Kd.R_alloc | apply Kd.R_drewN | apply Kd.R_drew)); exact HO155.out))) (below_size (by repeat (first | (with_reducible first | exact HB.out | apply below_alloc | apply pw_below_drewN | apply below_drew1) | exact HB.out)))); have n3_ := Aside0.mk (Kd.R_lower (Kd.R_new' (Kd.R_new' ho1 (Kd.R_lt (by (with_reducible repeat (first | apply Kd.R_alloc | apply Kd.R_drewN | apply Kd.R_drew)); exact HO153.out))) (Kd.R_lt (by (with_reducible repeat (first | apply Kd.R_alloc | apply Kd.R_drewN | apply Kd.R_drew)); exact HO155.out))) (below_size (by repeat (first | (with_reducible first | exact HB.out | apply below_alloc | apply pw_below_drewN | apply below_drew1) | exact HB.out)))); have n4_ := Aside0.mk (below_step (by repeat (first | (with_reducible first | exact HB.out | apply below_alloc | apply pw_below_drewN | apply below_drew1) | exact HB.out)) hb); clear HO153; clear HO155; clear HB; have HO153 := n0_; have HO155 := n1_; have HO159 := n2_; have HO161 := n3_; have HB := n4_; clear n0_ n1_ n2_ n3_ n4_; (try clear hb); (try clear hb2); (try clear hk); (try clear hi); (try clear ho0); (try clear ho1))))
  go_loopg [9] k (fun kq v9 w' => ∃ (x9_1 : Int), v9 = .int .i64 x9_1 ∧ Aside0 (cachepotref1_KeyCommon.l0 kq t150 t156 x9_1 = some r) ∧ Aside0 (kq ≤ k) ∧ Aside0 (Kd.R (Kd.int .i64) 3 w' w.heap.size (fun k_ => some k_ ≠ (v158 : Value).ownBlock) v152 t150) ∧ Aside0 (Kd.R (Kd.int .i64) 3 w' w.heap.size (fun k_ => some k_ ≠ (v152 : Value).ownBlock) v158 t156) ∧ Aside0 (Below w.heap.size w w'))
  case atStart => exact ⟨(0), (by first | rfl | (simp; done) | (simp [*]; done)), H', ⟨Nat.le_refl _⟩, ⟨by (with_reducible repeat (first | apply Kd.R_alloc | apply Kd.R_drewN | apply Kd.R_drew)); exact Kd.R_mono HO153.out (fun _ hk => hk.1.2)⟩, ⟨by (with_reducible repeat (first | apply Kd.R_alloc | apply Kd.R_drewN | apply Kd.R_drew)); exact Kd.R_mono HO159.out (fun _ hk => hk.1.2)⟩, ⟨by repeat (first | (with_reducible first | exact HB.out | apply below_alloc | apply pw_below_drewN | apply below_drew1) | exact HB.out)⟩⟩
  case round =>
    clear H'
    try clear c1
    try clear p2
    obtain ⟨x9_1, rfl, HA, HK1, HO_5, HO_7, HB⟩ := hrel
    cases gk with
    | zero => exact absurd HA.out (by simp [cachepotref1_KeyCommon.l0])
    | succ k1 =>
      have H := HA.out
      clear HA
      simp only [cachepotref1_KeyCommon.l0] at H
      by_cases c7 : x9_1 < (t150.length : Int)
      · rw [if_pos c7] at H
        have c7b0 : decide (x9_1 < (t150.length : Int)) = true := decide_eq_true c7
        clear c7
        by_cases c8 : x9_1 < (t156.length : Int)
        · rw [if_pos c8] at H
          have c8b0 : decide (x9_1 < (t156.length : Int)) = true := decide_eq_true c8
          clear c8
          by_cases c9 : 0 ≤ x9_1
          · rw [if_pos c9] at H
            have c9b0 : decide (0 ≤ x9_1) = true := decide_eq_true c9
            clear c9
            by_cases c10 : (rd t150 x9_1) = (rd t156 x9_1)
            · rw [if_pos c10] at H
              have c10b0 : ((rd t150 x9_1) == (rd t156 x9_1)) = true := beq_iff_eq.mpr c10
              have c10b1 : ((rd t150 x9_1) != (rd t156 x9_1)) = false := bne_eq_false_iff_eq.mpr c10
              clear c10
              have H' := Aside0.mk H
              clear H
              obtain ⟨Ao11, co11, eo11⟩ := Kd.R_slice HO_5.out
              subst eo11
              obtain ⟨Ao12, co12, eo12⟩ := Kd.R_slice HO_7.out
              subst eo12
              have p162 : 0 ≤ (x9_1 : Int) := of_decide_eq_true (by first | (with_reducible assumption) | assumption)
              have q162 : x9_1 < (t150.length : Int) := of_decide_eq_true (by first | (with_reducible assumption) | assumption)
              obtain ⟨ad162, e162, hx162_0⟩ := Kd.at_int (Kd.R_reads' HO_5.out).2.2 x9_1 p162 q162
              cases e162
              replace p162 := eq_true p162
              replace q162 := eq_true q162
              have p163 : 0 ≤ (x9_1 : Int) := of_decide_eq_true (by first | (with_reducible assumption) | assumption)
              have q163 : x9_1 < (t156.length : Int) := of_decide_eq_true (by first | (with_reducible assumption) | assumption)
              obtain ⟨ad163, e163, hx163_0⟩ := Kd.at_int (Kd.R_reads' HO_7.out).2.2 x9_1 p163 q163
              cases e163
              replace p163 := eq_true p163
              replace q163 := eq_true q163
              go_wp2
              repeat (go_quiet (fail); try go_wp2)
              go_roundg k1
              case measure => have := HK1.out; omega
              case rel => exact ⟨(wrap64 (x9_1 + 1)), (by first | rfl | (simp; done) | (simp [*]; done)), H', ⟨by have := HK1.out; omega⟩, ⟨by (with_reducible repeat (first | apply Kd.R_alloc | apply Kd.R_drewN | apply Kd.R_drew)); exact HO_5.out⟩, ⟨by (with_reducible repeat (first | apply Kd.R_alloc | apply Kd.R_drewN | apply Kd.R_drew)); exact HO_7.out⟩, ⟨by repeat (first | (with_reducible first | exact HB.out | apply below_alloc | apply pw_below_drewN | apply below_drew1) | exact HB.out)⟩⟩
            · rw [if_neg c10] at H
              have c10b0 : ((rd t150 x9_1) == (rd t156 x9_1)) = false := beq_eq_false_iff_ne.mpr c10
              have c10b1 : ((rd t150 x9_1) != (rd t156 x9_1)) = true := bne_iff_ne.mpr c10
              obtain rfl := Option.some.inj H
              obtain ⟨Ao13, co13, eo13⟩ := Kd.R_slice HO_5.out
              subst eo13
              obtain ⟨Ao14, co14, eo14⟩ := Kd.R_slice HO_7.out
              subst eo14
              have p162 : 0 ≤ (x9_1 : Int) := of_decide_eq_true (by first | (with_reducible assumption) | assumption)
              have q162 : x9_1 < (t150.length : Int) := of_decide_eq_true (by first | (with_reducible assumption) | assumption)
              obtain ⟨ad162, e162, hx162_0⟩ := Kd.at_int (Kd.R_reads' HO_5.out).2.2 x9_1 p162 q162
              cases e162
              replace p162 := eq_true p162
              replace q162 := eq_true q162
              have p163 : 0 ≤ (x9_1 : Int) := of_decide_eq_true (by first | (with_reducible assumption) | assumption)
              have q163 : x9_1 < (t156.length : Int) := of_decide_eq_true (by first | (with_reducible assumption) | assumption)
              obtain ⟨ad163, e163, hx163_0⟩ := Kd.at_int (Kd.R_reads' HO_7.out).2.2 x9_1 p163 q163
              cases e163
              replace p163 := eq_true p163
              replace q163 := eq_true q163
              go_wp2
              repeat (go_quiet (fail); try go_wp2)
              go_ret
              exact ⟨by first | rfl | (simp [errW_none, errW_some] <;> rfl) | (simp [*, errW_none, errW_some] <;> rfl), by repeat (first | (with_reducible first | exact HB.out | apply below_alloc | apply pw_below_drewN | apply below_drew1) | exact HB.out)⟩
          · rw [if_neg c9] at H
            exact absurd H (by simp)
        · rw [if_neg c8] at H
          have c8b0 : decide (x9_1 < (t156.length : Int)) = false := decide_eq_false c8
          clear c8
          obtain rfl := Option.some.inj H
          obtain ⟨Ao15, co15, eo15⟩ := Kd.R_slice HO_5.out
          subst eo15
          obtain ⟨Ao16, co16, eo16⟩ := Kd.R_slice HO_7.out
          subst eo16
          go_wp2
          repeat (go_quiet (fail); try go_wp2)
          go_ret
          exact ⟨by first | rfl | (simp [errW_none, errW_some] <;> rfl) | (simp [*, errW_none, errW_some] <;> rfl), by repeat (first | (with_reducible first | exact HB.out | apply below_alloc | apply pw_below_drewN | apply below_drew1) | exact HB.out)⟩
      · rw [if_neg c7] at H
        have c7b0 : decide (x9_1 < (t150.length : Int)) = false := decide_eq_false c7
        clear c7
        obtain rfl := Option.some.inj H
        obtain ⟨Ao17, co17, eo17⟩ := Kd.R_slice HO_5.out
        subst eo17
        go_wp2
        repeat (go_quiet (fail); try go_wp2)
        go_ret
        exact ⟨by first | rfl | (simp [errW_none, errW_some] <;> rfl) | (simp [*, errW_none, errW_some] <;> rfl), by repeat (first | (with_reducible first | exact HB.out | apply below_alloc | apply pw_below_drewN | apply below_drew1) | exact HB.out)⟩
end

section
/-! ### cachepotref1_KeyCmp: function 105 -/
def cachepotref1_KeyCmp.j0 : Nat → List Int → List Int → Int → Bool → Option (Int)
  | 0, _, _, _, _ => none
  | k + 1, x5, x7, x9, x23 => if x23 = true then (some 0) else (if x9 = (x5.length : Int) then (some (-1)) else (if x9 = (x7.length : Int) then (some 1) else (if 0 ≤ x9 then (if x9 < (x5.length : Int) then (if x9 < (x7.length : Int) then (if (rd x5 x9) < (rd x7 x9) then (some (-1)) else (some 1)) else (none)) else (none)) else (none))))
def cachepotref1_KeyCmp.f (k : Nat) (a0 : ByteArray) (a1 : ByteArray) : Option (Int) := (cachepotref1_Runes.f k a0).bind fun bt164 => ((cachepotref1_Runes.f k a1).bind fun bt170 => ((cachepotref1_KeyCommon.f k a0 a1).bind fun t176 => (if t176 = (bt164.1.length : Int) then (cachepotref1_KeyCmp.j0 k bt164.1 bt170.1 t176 (t176 == (bt170.1.length : Int))) else (cachepotref1_KeyCmp.j0 k bt164.1 bt170.1 t176 false))))
theorem cachepotref1_KeyCmp.mono_l : ∀ k, (∀ y0 y1 y2 y3, LeO (cachepotref1_KeyCmp.j0 k y0 y1 y2 y3) (cachepotref1_KeyCmp.j0 (k + 1) y0 y1 y2 y3))
  | 0 => fun _ _ _ _ r h => by simp [cachepotref1_KeyCmp.j0] at h
  | k + 1 => by
    have ih0 := cachepotref1_KeyCmp.mono_l k
    · intro y0 y1 y2 y3
      unfold cachepotref1_KeyCmp.j0
      repeat' first
      | (with_reducible exact ih0 _ _ _ _)
      | (with_reducible exact cachepotref1_KeyCommon.mono _ _ _)
      | (with_reducible exact cachepotref1_Runes.mono _ _)
      | (with_reducible exact LeO.refl _)
      | (with_reducible exact LeO.none _)
      | (with_reducible refine LeO.ite ?_ ?_)
      | (with_reducible refine LeO.bind ?_ (fun _ => ?_))
      | exact ih0 _ _ _ _
      | exact cachepotref1_KeyCommon.mono _ _ _
      | exact cachepotref1_Runes.mono _ _
      | exact LeO.none _
      | refine LeO.ite ?_ ?_
      | refine LeO.bind ?_ (fun _ => ?_)
theorem cachepotref1_KeyCmp.mono : ∀ a0 a1 k, LeO (cachepotref1_KeyCmp.f k a0 a1) (cachepotref1_KeyCmp.f (k + 1) a0 a1) := by
  intro a0 a1 k
  have ih0 := cachepotref1_KeyCmp.mono_l k
  unfold cachepotref1_KeyCmp.f
  repeat' first
      | (with_reducible exact ih0 _ _ _ _)
      | (with_reducible exact cachepotref1_KeyCommon.mono _ _ _)
      | (with_reducible exact cachepotref1_Runes.mono _ _)
      | (with_reducible exact LeO.refl _)
      | (with_reducible exact LeO.none _)
      | (with_reducible refine LeO.ite ?_ ?_)
      | (with_reducible refine LeO.bind ?_ (fun _ => ?_))
      | exact ih0 _ _ _ _
      | exact cachepotref1_KeyCommon.mono _ _ _
      | exact cachepotref1_Runes.mono _ _
      | exact LeO.none _
      | refine LeO.ite ?_ ?_
      | refine LeO.bind ?_ (fun _ => ?_)
set_option maxHeartbeats 8000000 in
set_option maxRecDepth 100000 in
theorem cachepotref1_KeyCmp.calls (k : Nat) (a0 : ByteArray) (a1 : ByteArray) (r : Int) (w : World) (h : cachepotref1_KeyCmp.f k a0 a1 = some r) :
    Calls Tryd.prog 105 #[.string a0, .string a1] w fun e w' => e = .returned (.int .i64 r) ∧ Below w.heap.size w w' := by
  have HB := Aside0.mk (Below.refl w.heap.size w)
  have H : ((cachepotref1_Runes.f k a0).bind fun bt164 => ((cachepotref1_Runes.f k a1).bind fun bt170 => ((cachepotref1_KeyCommon.f k a0 a1).bind fun t176 => (if t176 = (bt164.1.length : Int) then (cachepotref1_KeyCmp.j0 k bt164.1 bt170.1 t176 (t176 == (bt170.1.length : Int))) else (cachepotref1_KeyCmp.j0 k bt164.1 bt170.1 t176 false))))) = some r := h
  clear h
  replace H := Option.bind_eq_some_iff.mp H
  obtain ⟨⟨t164, t165⟩, A30, H⟩ := H
  replace H : ((cachepotref1_Runes.f k a1).bind fun bt170 => ((cachepotref1_KeyCommon.f k a0 a1).bind fun t176 => (if t176 = (t164.length : Int) then (cachepotref1_KeyCmp.j0 k t164 bt170.1 t176 (t176 == (bt170.1.length : Int))) else (cachepotref1_KeyCmp.j0 k t164 bt170.1 t176 false)))) = some r := H
  have A3 := Aside0.mk A30
  clear A30
  replace H := Option.bind_eq_some_iff.mp H
  obtain ⟨⟨t170, t171⟩, A40, H⟩ := H
  replace H : ((cachepotref1_KeyCommon.f k a0 a1).bind fun t176 => (if t176 = (t164.length : Int) then (cachepotref1_KeyCmp.j0 k t164 t170 t176 (t176 == (t170.length : Int))) else (cachepotref1_KeyCmp.j0 k t164 t170 t176 false))) = some r := H
  have A4 := Aside0.mk A40
  clear A40
  replace H := Option.bind_eq_some_iff.mp H
  obtain ⟨t176, A50, H⟩ := H
  replace H : (if t176 = (t164.length : Int) then (cachepotref1_KeyCmp.j0 k t164 t170 t176 (t176 == (t170.length : Int))) else (cachepotref1_KeyCmp.j0 k t164 t170 t176 false)) = some r := H
  have A5 := Aside0.mk A50
  clear A50
  have HC6 := Aside0.mk H
  clear H
  go_enter Tryd.func105, Tryd.ntmps105
  go_upto_region 4 with (first | (go_at_call 96; (with_reducible refine (cachepotref1_Runes.calls k a0 t164 t165 _ A3.out).mono ?_); rintro e w7 ⟨v166, v168, rfl, ho0, ho1, hb⟩; have n0_ := Aside0.mk (Kd.R_lower ho0 (below_size (by repeat (first | (with_reducible first | exact HB.out | apply below_alloc | apply pw_below_drewN | apply below_drew1) | exact HB.out)))); have n1_ := Aside0.mk (Kd.R_lower ho1 (below_size (by repeat (first | (with_reducible first | exact HB.out | apply below_alloc | apply pw_below_drewN | apply below_drew1) | exact HB.out)))); have n2_ := Aside0.mk (below_step (by repeat (first | (with_reducible first | exact HB.out | apply below_alloc | apply pw_below_drewN | apply below_drew1) | exact HB.out)) hb); clear HB; have HO167 := n0_; have HO169 := n1_; have HB := n2_; clear n0_ n1_ n2_; (try clear hb); (try clear hb2); (try clear hk); (try clear hi); (try clear ho0); (try clear ho1)) | (go_at_call 96; (with_reducible refine (cachepotref1_Runes.calls k a1 t170 t171 _ A4.out).mono ?_); rintro e w8 ⟨v172, v174, rfl, ho0, ho1, hb⟩; have n0_ := Aside0.mk (Kd.R_mono (Kd.R_told (Kd.R_told (Kd.R_old (by (with_reducible repeat (first | apply Kd.R_alloc | apply Kd.R_drewN | apply Kd.R_drew)); exact HO167.out) hb) (Kd.R_base ho0)) (Kd.R_base ho1)) (fun _ h_ => h_.1)); have n1_ := Aside0.mk (Kd.R_mono (Kd.R_told (Kd.R_told (Kd.R_old (by (with_reducible repeat (first | apply Kd.R_alloc | apply Kd.R_drewN | apply Kd.R_drew)); exact HO169.out) hb) (Kd.R_base ho0)) (Kd.R_base ho1)) (fun _ h_ => h_.1)); have n2_ := Aside0.mk (Kd.R_lower (Kd.R_new' (Kd.R_new' ho0 (Kd.R_lt (by (with_reducible repeat (first | apply Kd.R_alloc | apply Kd.R_drewN | apply Kd.R_drew)); exact HO167.out))) (Kd.R_lt (by (with_reducible repeat (first | apply Kd.R_alloc | apply Kd.R_drewN | apply Kd.R_drew)); exact HO169.out))) (below_size (by repeat (first | (with_reducible first | exact HB.out | apply below_alloc | apply pw_below_drewN | apply below_drew1) | exact HB.out)))); have n3_ := Aside0.mk (Kd.R_lower (Kd.R_new' (Kd.R_new' ho1 (Kd.R_lt (by (with_reducible repeat (first | apply Kd.R_alloc | apply Kd.R_drewN | apply Kd.R_drew)); exact HO167.out))) (Kd.R_lt (by (with_reducible repeat (first | apply Kd.R_alloc | apply Kd.R_drewN | apply Kd.R_drew)); exact HO169.out))) (below_size (by repeat (first | (with_reducible first | exact HB.out | apply below_alloc | apply pw_below_drewN | apply below_drew1) | exact HB.out)))); have n4_ := Aside0.mk (below_step (by repeat (first | (with_reducible first | exact HB.out | apply below_alloc | apply pw_below_drewN | apply below_drew1) | exact HB.out)) hb); clear HO167; clear HO169; clear HB; have HO167 := n0_; have HO169 := n1_; have HO173 := n2_; have HO175 := n3_; have HB := n4_; clear n0_ n1_ n2_ n3_ n4_; (try clear hb); (try clear hb2); (try clear hk); (try clear hi); (try clear ho0); (try clear ho1)) | (go_at_call 125; (with_reducible refine (cachepotref1_KeyCommon.calls k a0 a1 t176 _ A5.out).mono ?_); rintro e w9 ⟨rfl, hb⟩; have n0_ := Aside0.mk (Kd.R_below (by (with_reducible repeat (first | apply Kd.R_alloc | apply Kd.R_drewN | apply Kd.R_drew)); exact HO167.out) hb); have n1_ := Aside0.mk (Kd.R_below (by (with_reducible repeat (first | apply Kd.R_alloc | apply Kd.R_drewN | apply Kd.R_drew)); exact HO169.out) hb); have n2_ := Aside0.mk (Kd.R_below (by (with_reducible repeat (first | apply Kd.R_alloc | apply Kd.R_drewN | apply Kd.R_drew)); exact HO173.out) hb); have n3_ := Aside0.mk (Kd.R_below (by (with_reducible repeat (first | apply Kd.R_alloc | apply Kd.R_drewN | apply Kd.R_drew)); exact HO175.out) hb); have n4_ := Aside0.mk (below_step (by repeat (first | (with_reducible first | exact HB.out | apply below_alloc | apply pw_below_drewN | apply below_drew1) | exact HB.out)) hb); clear HO167; clear HO169; clear HO173; clear HO175; clear HB; have HO167 := n0_; have HO169 := n1_; have HO173 := n2_; have HO175 := n3_; have HB := n4_; clear n0_ n1_ n2_ n3_ n4_; (try clear hb); (try clear hb2); (try clear hk); (try clear hi)))
  repeat (go_quiet (first | (go_at_call 96; (with_reducible refine (cachepotref1_Runes.calls k a0 t164 t165 _ A3.out).mono ?_); rintro e w7 ⟨v166, v168, rfl, ho0, ho1, hb⟩; have n0_ := Aside0.mk (Kd.R_lower ho0 (below_size (by repeat (first | (with_reducible first | exact HB.out | apply below_alloc | apply pw_below_drewN | apply below_drew1) | exact HB.out)))); have n1_ := Aside0.mk (Kd.R_lower ho1 (below_size (by repeat (first | (with_reducible first | exact HB.out | apply below_alloc | apply pw_below_drewN | apply below_drew1) | exact HB.out)))); have n2_ := Aside0.mk (below_step (by repeat (first | (with_reducible first | exact HB.out | apply below_alloc | apply pw_below_drewN | apply below_drew1) | exact HB.out)) hb); clear HB; have HO167 := n0_; have HO169 := n1_; have HB := n2_; clear n0_ n1_ n2_; (try clear hb); (try clear hb2); (try clear hk); (try clear hi); (try clear ho0); (try clear ho1)) | (go_at_call 96; (with_reducible refine (cachepotref1_Runes.calls k a1 t170 t171 _ A4.out).mono ?_); rintro e w8 ⟨v172, v174, rfl, ho0, ho1, hb⟩; have n0_ := Aside0.mk (Kd.R_mono (Kd.R_told (Kd.R_told (Kd.R_old (by (with_reducible repeat (first | apply Kd.R_alloc | apply Kd.R_drewN | apply Kd.R_drew)); exact HO167.out) hb) (Kd.R_base ho0)) (Kd.R_base ho1)) (fun _ h_ => h_.1)); have n1_ := Aside0.mk (Kd.R_mono (Kd.R_told (Kd.R_told (Kd.R_old (by (with_reducible repeat (first | apply Kd.R_alloc | apply Kd.R_drewN | apply Kd.R_drew)); exact HO169.out) hb) (Kd.R_base ho0)) (Kd.R_base ho1)) (fun _ h_ => h_.1)); have n2_ := Aside0.mk (Kd.R_lower (Kd.R_new' (Kd.R_new' ho0 (Kd.R_lt (by (with_reducible repeat (first | apply Kd.R_alloc | apply Kd.R_drewN | apply Kd.R_drew)); exact HO167.out))) (Kd.R_lt (by (with_reducible repeat (first | apply Kd.R_alloc | apply Kd.R_drewN | apply Kd.R_drew)); exact HO169.out))) (below_size (by repeat (first | (with_reducible first | exact HB.out | apply below_alloc | apply pw_below_drewN | apply below_drew1) | exact HB.out)))); have n3_ := Aside0.mk (Kd.R_lower (Kd.R_new' (Kd.R_new' ho1 (Kd.R_lt (by (with_reducible repeat (first | apply Kd.R_alloc | apply Kd.R_drewN | apply Kd.R_drew)); exact HO167.out))) (Kd.R_lt (by (with_reducible repeat (first | apply Kd.R_alloc | apply Kd.R_drewN | apply Kd.R_drew)); exact HO169.out))) (below_size (by repeat (first | (with_reducible first | exact HB.out | apply below_alloc | apply pw_below_drewN | apply below_drew1) | exact HB.out)))); have n4_ := Aside0.mk (below_step (by repeat (first | (with_reducible first | exact HB.out | apply below_alloc | apply pw_below_drewN | apply below_drew1) | exact HB.out)) hb); clear HO167; clear HO169; clear HB; have HO167 := n0_; have HO169 := n1_; have HO173 := n2_; have HO175 := n3_; have HB := n4_; clear n0_ n1_ n2_ n3_ n4_; (try clear hb); (try clear hb2); (try clear hk); (try clear hi); (try clear ho0); (try clear ho1)) | (go_at_call 125; (with_reducible refine (cachepotref1_KeyCommon.calls k a0 a1 t176 _ A5.out).mono ?_); rintro e w9 ⟨rfl, hb⟩; have n0_ := Aside0.mk (Kd.R_below (by (with_reducible repeat (first | apply Kd.R_alloc | apply Kd.R_drewN | apply Kd.R_drew)); exact HO167.out) hb); have n1_ := Aside0.mk (Kd.R_below (by (with_reducible repeat (first | apply Kd.R_alloc | apply Kd.R_drewN | apply Kd.R_drew)); exact HO169.out) hb); have n2_ := Aside0.mk (Kd.R_below (by (with_reducible repeat (first | apply Kd.R_alloc | apply Kd.R_drewN | apply Kd.R_drew)); exact HO173.out) hb); have n3_ := Aside0.mk (Kd.R_below (by (with_reducible repeat (first | apply Kd.R_alloc | apply Kd.R_drewN | apply Kd.R_drew)); exact HO175.out) hb); have n4_ := Aside0.mk (below_step (by repeat (first | (with_reducible first | exact HB.out | apply below_alloc | apply pw_below_drewN | apply below_drew1) | exact HB.out)) hb); clear HO167; clear HO169; clear HO173; clear HO175; clear HB; have HO167 := n0_; have HO169 := n1_; have HO173 := n2_; have HO175 := n3_; have HB := n4_; clear n0_ n1_ n2_ n3_ n4_; (try clear hb); (try clear hb2); (try clear hk); (try clear hi))); go_upto_region 4 with (first | (go_at_call 96; (with_reducible refine (cachepotref1_Runes.calls k a0 t164 t165 _ A3.out).mono ?_); rintro e w7 ⟨v166, v168, rfl, ho0, ho1, hb⟩; have n0_ := Aside0.mk (Kd.R_lower ho0 (below_size (by repeat (first | (with_reducible first | exact HB.out | apply below_alloc | apply pw_below_drewN | apply below_drew1) | exact HB.out)))); have n1_ := Aside0.mk (Kd.R_lower ho1 (below_size (by repeat (first | (with_reducible first | exact HB.out | apply below_alloc | apply pw_below_drewN | apply below_drew1) | exact HB.out)))); have n2_ := Aside0.mk (below_step (by repeat (first | (with_reducible first | exact HB.out | apply below_alloc | apply pw_below_drewN | apply below_drew1) | exact HB.out)) hb); clear HB; have HO167 := n0_; have HO169 := n1_; have HB := n2_; clear n0_ n1_ n2_; (try clear hb); (try clear hb2); (try clear hk); (try clear hi); (try clear ho0); (try clear ho1)) | (go_at_call 96; (with_reducible refine (cachepotref1_Runes.calls k a1 t170 t171 _ A4.out).mono ?_); rintro e w8 ⟨v172, v174, rfl, ho0, ho1, hb⟩; have n0_ := Aside0.mk (Kd.R_mono (Kd.R_told (Kd.R_told (Kd.R_old (by (with_reducible repeat (first | apply Kd.R_alloc | apply Kd.R_drewN | apply Kd.R_drew)); exact HO167.out) hb) (Kd.R_base ho0)) (Kd.R_base ho1)) (fun _ h_ => h_.1)); have n1_ := Aside0.mk (Kd.R_mono (Kd.R_told (Kd.R_told (Kd.R_old (by (with_reducible repeat (first | apply Kd.R_alloc | apply Kd.R_drewN | apply Kd.R_drew)); exact HO169.out) hb) (Kd.R_base ho0)) (Kd.R_base ho1)) (fun _ h_ => h_.1)); have n2_ := Aside0.mk (Kd.R_lower (Kd.R_new' (Kd.R_new' ho0 (Kd.R_lt (by (with_reducible repeat (first | apply Kd.R_alloc | apply Kd.R_drewN | apply Kd.R_drew)); exact HO167.out))) (Kd.R_lt (by (with_reducible repeat (first | apply Kd.R_alloc | apply Kd.R_drewN | apply Kd.R_drew)); exact HO169.out))) (below_size (by repeat (first | (with_reducible first | exact HB.out | apply below_alloc | apply pw_below_drewN | apply below_drew1) | exact HB.out)))); have n3_ := Aside0.mk (Kd.R_lower (Kd.R_new' (Kd.R_new' ho1 (Kd.R_lt (by (with_reducible repeat (first | apply Kd.R_alloc | apply Kd.R_drewN | apply Kd.R_drew)); exact HO167.out))) (Kd.R_lt (by (with_reducible repeat (first | apply Kd.R_alloc | apply Kd.R_drewN | apply Kd.R_drew)); exact HO169.out))) (below_size (by repeat (first | (with_reducible first | exact HB.out | apply below_alloc | apply pw_below_drewN | apply below_drew1) | exact HB.out)))); have n4_ := Aside0.mk (below_step (by repeat (first | (with_reducible first | exact HB.out | apply below_alloc | apply pw_below_drewN | apply below_drew1) | exact HB.out)) hb); clear HO167; clear HO169; clear HB; have HO167 := n0_; have HO169 := n1_; have HO173 := n2_; have HO175 := n3_; have HB := n4_; clear n0_ n1_ n2_ n3_ n4_; (try clear hb); (try clear hb2); (try clear hk); (try clear hi); (try clear ho0); (try clear ho1)) | (go_at_call 125; (with_reducible refine (cachepotref1_KeyCommon.calls k a0 a1 t176 _ A5.out).mono ?_); rintro e w9 ⟨rfl, hb⟩; have n0_ := Aside0.mk (Kd.R_below (by (with_reducible repeat (first | apply Kd.R_alloc | apply Kd.R_drewN | apply Kd.R_drew)); exact HO167.out) hb); have n1_ := Aside0.mk (Kd.R_below (by (with_reducible repeat (first | apply Kd.R_alloc | apply Kd.R_drewN | apply Kd.R_drew)); exact HO169.out) hb); have n2_ := Aside0.mk (Kd.R_below (by (with_reducible repeat (first | apply Kd.R_alloc | apply Kd.R_drewN | apply Kd.R_drew)); exact HO173.out) hb); have n3_ := Aside0.mk (Kd.R_below (by (with_reducible repeat (first | apply Kd.R_alloc | apply Kd.R_drewN | apply Kd.R_drew)); exact HO175.out) hb); have n4_ := Aside0.mk (below_step (by repeat (first | (with_reducible first | exact HB.out | apply below_alloc | apply pw_below_drewN | apply below_drew1) | exact HB.out)) hb); clear HO167; clear HO169; clear HO173; clear HO175; clear HB; have HO167 := n0_; have HO169 := n1_; have HO173 := n2_; have HO175 := n3_; have HB := n4_; clear n0_ n1_ n2_ n3_ n4_; (try clear hb); (try clear hb2); (try clear hk); (try clear hi))))
  (try simp only [Act.put, List.setIfInBounds_toArray, List.set_cons_zero, List.set_cons_succ])
  go_cut [23] (fun v23 wc => ∃ (kq : Nat) (x23_5 : Bool), v23 = .bool x23_5 ∧ Aside0 (cachepotref1_KeyCmp.j0 kq t164 t170 t176 x23_5 = some r) ∧ Aside0 (kq ≤ k) ∧ Aside0 (Kd.R (Kd.int .i64) 3 wc w.heap.size (fun k_ => some k_ ≠ (v172 : Value).ownBlock) v166 t164) ∧ Aside0 (Kd.R (Kd.int .i64) 3 wc w.heap.size (fun k_ => some k_ ≠ (v166 : Value).ownBlock) v172 t170) ∧ Aside0 (Below w.heap.size w wc))
  case first =>
    have H := HC6.out
    clear HC6
    by_cases c10 : t176 = (t164.length : Int)
    · rw [if_pos c10] at H
      have c10b0 : (t176 == (t164.length : Int)) = true := beq_iff_eq.mpr c10
      have c10b1 : (t176 != (t164.length : Int)) = false := bne_eq_false_iff_eq.mpr c10
      clear c10
      (first | rw [c10b0] | (simp only [i64_w, i32_w]; rw [c10b0]) | skip)
      have H' := Aside0.mk H
      clear H
      obtain ⟨Ao11, co11, eo11⟩ := Kd.R_slice HO167.out
      subst eo11
      obtain ⟨Ao12, co12, eo12⟩ := Kd.R_slice HO173.out
      subst eo12
      go_wp2
      repeat (go_quiet (fail); try go_wp2)
      go_meet
      case rel => exact ⟨_, ((t176 == (t170.length : Int))), (by first | rfl | (simp; done) | (simp [*]; done)), H', ⟨by first | omega | exact Nat.le_refl _⟩, ⟨by (with_reducible repeat (first | apply Kd.R_alloc | apply Kd.R_drewN | apply Kd.R_drew)); exact Kd.R_mono HO167.out (fun _ hk => hk.1.2)⟩, ⟨by (with_reducible repeat (first | apply Kd.R_alloc | apply Kd.R_drewN | apply Kd.R_drew)); exact Kd.R_mono HO173.out (fun _ hk => hk.1.2)⟩, ⟨by repeat (first | (with_reducible first | exact HB.out | apply below_alloc | apply pw_below_drewN | apply below_drew1) | exact HB.out)⟩⟩
    · rw [if_neg c10] at H
      have c10b0 : (t176 == (t164.length : Int)) = false := beq_eq_false_iff_ne.mpr c10
      have c10b1 : (t176 != (t164.length : Int)) = true := bne_iff_ne.mpr c10
      (first | rw [c10b0] | (simp only [i64_w, i32_w]; rw [c10b0]) | skip)
      have H' := Aside0.mk H
      clear H
      obtain ⟨Ao13, co13, eo13⟩ := Kd.R_slice HO167.out
      subst eo13
      go_wp2
      repeat (go_quiet (fail); try go_wp2)
      go_meet
      case rel => exact ⟨_, (false), (by first | rfl | (simp; done) | (simp [*]; done)), H', ⟨by first | omega | exact Nat.le_refl _⟩, ⟨by (with_reducible repeat (first | apply Kd.R_alloc | apply Kd.R_drewN | apply Kd.R_drew)); exact Kd.R_mono HO167.out (fun _ hk => hk.1.2)⟩, ⟨by (with_reducible repeat (first | apply Kd.R_alloc | apply Kd.R_drewN | apply Kd.R_drew)); exact Kd.R_mono HO173.out (fun _ hk => hk.1.2)⟩, ⟨by repeat (first | (with_reducible first | exact HB.out | apply below_alloc | apply pw_below_drewN | apply below_drew1) | exact HB.out)⟩⟩
  case rest =>
    clear HC6
    try clear c1
    try clear p2
    try clear c10
    try clear c10b0
    try clear c10b1
    obtain ⟨kq, x23_5, rfl, HA, HJ5, HO_5, HO_7, HB⟩ := hcut
    cases kq with
    | zero => exact absurd HA.out (by simp [cachepotref1_KeyCmp.j0])
    | succ kj5 =>
      have H := HA.out
      clear HA
      simp only [cachepotref1_KeyCmp.j0] at H
      by_cases c14 : x23_5 = true
      · subst c14
        have H1 : (some 0) = some r := by rw [if_pos rfl] at H; exact H
        clear H
        have H := H1
        clear H1
        obtain rfl := Option.some.inj H
        go_wp2
        repeat (go_quiet (fail); try go_wp2)
        go_ret
        exact ⟨by first | rfl | (simp [errW_none, errW_some] <;> rfl) | (simp [*, errW_none, errW_some] <;> rfl), by repeat (first | (with_reducible first | exact HB.out | apply below_alloc | apply pw_below_drewN | apply below_drew1) | exact HB.out)⟩
      · replace c14 := Bool.eq_false_iff.mpr c14
        subst c14
        have H1 : (if t176 = (t164.length : Int) then (some (-1)) else (if t176 = (t170.length : Int) then (some 1) else (if 0 ≤ t176 then (if t176 < (t164.length : Int) then (if t176 < (t170.length : Int) then (if (rd t164 t176) < (rd t170 t176) then (some (-1)) else (some 1)) else (none)) else (none)) else (none)))) = some r := by rw [if_neg (show ¬ (false = true) by decide)] at H; exact H
        clear H
        have H := H1
        clear H1
        by_cases c15 : t176 = (t164.length : Int)
        · rw [if_pos c15] at H
          have c15b0 : (t176 == (t164.length : Int)) = true := beq_iff_eq.mpr c15
          have c15b1 : (t176 != (t164.length : Int)) = false := bne_eq_false_iff_eq.mpr c15
          clear c15
          obtain rfl := Option.some.inj H
          obtain ⟨Ao16, co16, eo16⟩ := Kd.R_slice HO_5.out
          subst eo16
          go_wp2
          repeat (go_quiet (fail); try go_wp2)
          go_ret
          exact ⟨by first | rfl | (simp [errW_none, errW_some] <;> rfl) | (simp [*, errW_none, errW_some] <;> rfl), by repeat (first | (with_reducible first | exact HB.out | apply below_alloc | apply pw_below_drewN | apply below_drew1) | exact HB.out)⟩
        · rw [if_neg c15] at H
          have c15b0 : (t176 == (t164.length : Int)) = false := beq_eq_false_iff_ne.mpr c15
          have c15b1 : (t176 != (t164.length : Int)) = true := bne_iff_ne.mpr c15
          by_cases c17 : t176 = (t170.length : Int)
          · rw [if_pos c17] at H
            have c17b0 : (t176 == (t170.length : Int)) = true := beq_iff_eq.mpr c17
            have c17b1 : (t176 != (t170.length : Int)) = false := bne_eq_false_iff_eq.mpr c17
            clear c17
            obtain rfl := Option.some.inj H
            obtain ⟨Ao18, co18, eo18⟩ := Kd.R_slice HO_5.out
            subst eo18
            obtain ⟨Ao19, co19, eo19⟩ := Kd.R_slice HO_7.out
            subst eo19
            go_wp2
            repeat (go_quiet (fail); try go_wp2)
            go_ret
            exact ⟨by first | rfl | (simp [errW_none, errW_some] <;> rfl) | (simp [*, errW_none, errW_some] <;> rfl), by repeat (first | (with_reducible first | exact HB.out | apply below_alloc | apply pw_below_drewN | apply below_drew1) | exact HB.out)⟩
          · rw [if_neg c17] at H
            have c17b0 : (t176 == (t170.length : Int)) = false := beq_eq_false_iff_ne.mpr c17
            have c17b1 : (t176 != (t170.length : Int)) = true := bne_iff_ne.mpr c17
            by_cases c20 : 0 ≤ t176
            · rw [if_pos c20] at H
              have c20b0 : decide (0 ≤ t176) = true := decide_eq_true c20
              clear c20
              by_cases c21 : t176 < (t164.length : Int)
              · rw [if_pos c21] at H
                have c21b0 : decide (t176 < (t164.length : Int)) = true := decide_eq_true c21
                clear c21
                by_cases c22 : t176 < (t170.length : Int)
                · rw [if_pos c22] at H
                  have c22b0 : decide (t176 < (t170.length : Int)) = true := decide_eq_true c22
                  clear c22
                  by_cases c23 : (rd t164 t176) < (rd t170 t176)
                  · rw [if_pos c23] at H
                    have c23b0 : decide ((rd t164 t176) < (rd t170 t176)) = true := decide_eq_true c23
                    clear c23
                    obtain rfl := Option.some.inj H
                    obtain ⟨Ao24, co24, eo24⟩ := Kd.R_slice HO_5.out
                    subst eo24
                    obtain ⟨Ao25, co25, eo25⟩ := Kd.R_slice HO_7.out
                    subst eo25
                    have p177 : 0 ≤ (t176 : Int) := of_decide_eq_true (by first | (with_reducible assumption) | assumption)
                    have q177 : t176 < (t164.length : Int) := of_decide_eq_true (by first | (with_reducible assumption) | assumption)
                    obtain ⟨ad177, e177, hx177_0⟩ := Kd.at_int (Kd.R_reads' HO_5.out).2.2 t176 p177 q177
                    cases e177
                    replace p177 := eq_true p177
                    replace q177 := eq_true q177
                    have p178 : 0 ≤ (t176 : Int) := of_decide_eq_true (by first | (with_reducible assumption) | assumption)
                    have q178 : t176 < (t170.length : Int) := of_decide_eq_true (by first | (with_reducible assumption) | assumption)
                    obtain ⟨ad178, e178, hx178_0⟩ := Kd.at_int (Kd.R_reads' HO_7.out).2.2 t176 p178 q178
                    cases e178
                    replace p178 := eq_true p178
                    replace q178 := eq_true q178
                    go_wp2
                    repeat (go_quiet (fail); try go_wp2)
                    go_ret
                    exact ⟨by first | rfl | (simp [errW_none, errW_some] <;> rfl) | (simp [*, errW_none, errW_some] <;> rfl), by repeat (first | (with_reducible first | exact HB.out | apply below_alloc | apply pw_below_drewN | apply below_drew1) | exact HB.out)⟩
                  · rw [if_neg c23] at H
                    have c23b0 : decide ((rd t164 t176) < (rd t170 t176)) = false := decide_eq_false c23
                    clear c23
                    obtain rfl := Option.some.inj H
                    obtain ⟨Ao26, co26, eo26⟩ := Kd.R_slice HO_5.out
                    subst eo26
                    obtain ⟨Ao27, co27, eo27⟩ := Kd.R_slice HO_7.out
                    subst eo27
                    have p177 : 0 ≤ (t176 : Int) := of_decide_eq_true (by first | (with_reducible assumption) | assumption)
                    have q177 : t176 < (t164.length : Int) := of_decide_eq_true (by first | (with_reducible assumption) | assumption)
                    obtain ⟨ad177, e177, hx177_0⟩ := Kd.at_int (Kd.R_reads' HO_5.out).2.2 t176 p177 q177
                    cases e177
                    replace p177 := eq_true p177
                    replace q177 := eq_true q177
                    have p178 : 0 ≤ (t176 : Int) := of_decide_eq_true (by first | (with_reducible assumption) | assumption)
                    have q178 : t176 < (t170.length : Int) := of_decide_eq_true (by first | (with_reducible assumption) | assumption)
                    obtain ⟨ad178, e178, hx178_0⟩ := Kd.at_int (Kd.R_reads' HO_7.out).2.2 t176 p178 q178
                    cases e178
                    replace p178 := eq_true p178
                    replace q178 := eq_true q178
                    go_wp2
                    repeat (go_quiet (fail); try go_wp2)
                    go_ret
                    exact ⟨by first | rfl | (simp [errW_none, errW_some] <;> rfl) | (simp [*, errW_none, errW_some] <;> rfl), by repeat (first | (with_reducible first | exact HB.out | apply below_alloc | apply pw_below_drewN | apply below_drew1) | exact HB.out)⟩
                · rw [if_neg c22] at H
                  exact absurd H (by simp)
              · rw [if_neg c21] at H
                exact absurd H (by simp)
            · rw [if_neg c20] at H
              exact absurd H (by simp)
end

section
/-! ### cachepotref1_Ahead: function 81 -/
def cachepotref1_Ahead.f (k : Nat) (a0 : ByteArray) (a1 : ByteArray) : Option (Bool) := (cachepotref1_KeyCmp.f k a0 a1).bind fun t179 => (if t179 < 0 then (some true) else (if t179 = 0 then (some (Op.bytesLess a0.toList a1.toList)) else (some false)))
theorem cachepotref1_Ahead.mono : ∀ a0 a1 k, LeO (cachepotref1_Ahead.f k a0 a1) (cachepotref1_Ahead.f (k + 1) a0 a1) := by
  intro a0 a1 k
  unfold cachepotref1_Ahead.f
  repeat' first
      | (with_reducible exact cachepotref1_KeyCmp.mono _ _ _)
      | (with_reducible exact LeO.refl _)
      | (with_reducible exact LeO.none _)
      | (with_reducible refine LeO.ite ?_ ?_)
      | (with_reducible refine LeO.bind ?_ (fun _ => ?_))
      | exact cachepotref1_KeyCmp.mono _ _ _
      | exact LeO.none _
      | refine LeO.ite ?_ ?_
      | refine LeO.bind ?_ (fun _ => ?_)
set_option maxHeartbeats 8000000 in
set_option maxRecDepth 100000 in
theorem cachepotref1_Ahead.calls (k : Nat) (a0 : ByteArray) (a1 : ByteArray) (r : Bool) (w : World) (h : cachepotref1_Ahead.f k a0 a1 = some r) :
    Calls Tryd.prog 81 #[.string a0, .string a1] w fun e w' => e = .returned (.bool r) ∧ Below w.heap.size w w' := by
  have HB := Aside0.mk (Below.refl w.heap.size w)
  have H : ((cachepotref1_KeyCmp.f k a0 a1).bind fun t179 => (if t179 < 0 then (some true) else (if t179 = 0 then (some (Op.bytesLess a0.toList a1.toList)) else (some false)))) = some r := h
  clear h
  replace H := Option.bind_eq_some_iff.mp H
  obtain ⟨t179, A30, H⟩ := H
  replace H : (if t179 < 0 then (some true) else (if t179 = 0 then (some (Op.bytesLess a0.toList a1.toList)) else (some false))) = some r := H
  have A3 := Aside0.mk A30
  clear A30
  by_cases c4 : t179 < 0
  · rw [if_pos c4] at H
    have c4b0 : decide (t179 < 0) = true := decide_eq_true c4
    clear c4
    obtain rfl := Option.some.inj H
    go_enter Tryd.func81, Tryd.ntmps81
    go_wp2_with (first | ((with_reducible refine gate_callee (f := 105) rfl ?_); refine goesL_ (some 8) rfl rfl Tryd.func105 (by kernel_rfl) rfl #[.string a0, .string a1] rfl (by (try simp only [List.map_toArray, List.map_cons, List.map_nil]); first | done | rfl | (simp only [List.length_drop, List.length_take]; rfl)) ?_; (with_reducible refine (cachepotref1_KeyCmp.calls k a0 a1 t179 _ A3.out).mono ?_); rintro e w5 ⟨rfl, hb⟩; refine ⟨_, rfl, ?_⟩; have n0_ := Aside0.mk (below_step (by repeat (first | (with_reducible first | exact HB.out | apply below_alloc | apply pw_below_drewN | apply below_drew1) | exact HB.out)) hb); clear HB; have HB := n0_; clear n0_; (try clear hb); (try clear hb2); (try clear hk); (try clear hi)))
    go_ret
    exact ⟨by first | rfl | (simp [errW_none, errW_some] <;> rfl) | (simp [*, errW_none, errW_some] <;> rfl), by repeat (first | (with_reducible first | exact HB.out | apply below_alloc | apply pw_below_drewN | apply below_drew1) | exact HB.out)⟩
  · rw [if_neg c4] at H
    have c4b0 : decide (t179 < 0) = false := decide_eq_false c4
    clear c4
    by_cases c6 : t179 = 0
    · rw [if_pos c6] at H
      have c6b0 : (t179 == 0) = true := beq_iff_eq.mpr c6
      have c6b1 : (t179 != 0) = false := bne_eq_false_iff_eq.mpr c6
      clear c6
      obtain rfl := Option.some.inj H
      go_enter Tryd.func81, Tryd.ntmps81
      go_wp2_with (first | ((with_reducible refine gate_callee (f := 105) rfl ?_); refine goesL_ (some 8) rfl rfl Tryd.func105 (by kernel_rfl) rfl #[.string a0, .string a1] rfl (by (try simp only [List.map_toArray, List.map_cons, List.map_nil]); first | done | rfl | (simp only [List.length_drop, List.length_take]; rfl)) ?_; (with_reducible refine (cachepotref1_KeyCmp.calls k a0 a1 t179 _ A3.out).mono ?_); rintro e w7 ⟨rfl, hb⟩; refine ⟨_, rfl, ?_⟩; have n0_ := Aside0.mk (below_step (by repeat (first | (with_reducible first | exact HB.out | apply below_alloc | apply pw_below_drewN | apply below_drew1) | exact HB.out)) hb); clear HB; have HB := n0_; clear n0_; (try clear hb); (try clear hb2); (try clear hk); (try clear hi)))
      go_ret
      exact ⟨by first | rfl | (simp [errW_none, errW_some] <;> rfl) | (simp [*, errW_none, errW_some] <;> rfl), by repeat (first | (with_reducible first | exact HB.out | apply below_alloc | apply pw_below_drewN | apply below_drew1) | exact HB.out)⟩
    · rw [if_neg c6] at H
      have c6b0 : (t179 == 0) = false := beq_eq_false_iff_ne.mpr c6
      have c6b1 : (t179 != 0) = true := bne_iff_ne.mpr c6
      obtain rfl := Option.some.inj H
      go_enter Tryd.func81, Tryd.ntmps81
      go_wp2_with (first | ((with_reducible refine gate_callee (f := 105) rfl ?_); refine goesL_ (some 8) rfl rfl Tryd.func105 (by kernel_rfl) rfl #[.string a0, .string a1] rfl (by (try simp only [List.map_toArray, List.map_cons, List.map_nil]); first | done | rfl | (simp only [List.length_drop, List.length_take]; rfl)) ?_; (with_reducible refine (cachepotref1_KeyCmp.calls k a0 a1 t179 _ A3.out).mono ?_); rintro e w8 ⟨rfl, hb⟩; refine ⟨_, rfl, ?_⟩; have n0_ := Aside0.mk (below_step (by repeat (first | (with_reducible first | exact HB.out | apply below_alloc | apply pw_below_drewN | apply below_drew1) | exact HB.out)) hb); clear HB; have HB := n0_; clear n0_; (try clear hb); (try clear hb2); (try clear hk); (try clear hi)))
      go_ret
      exact ⟨by first | rfl | (simp [errW_none, errW_some] <;> rfl) | (simp [*, errW_none, errW_some] <;> rfl), by repeat (first | (with_reducible first | exact HB.out | apply below_alloc | apply pw_below_drewN | apply below_drew1) | exact HB.out)⟩
end

end Go.Proofs.YtmionoghpjpbaaaDoor.Pr
