/-
  The law ViewFull: it returns true.
-/
import Derived.Test.YtmionoghpjpbaaaDoorNote
import Derived.Test.YtmionoghpjpbaaaDoorSame
import Derived.Laws.IdiomStrings
namespace Go.Proofs.YtmionoghpjpbaaaDoor
open Go.RowKit Go.Proofs.YtmionoghpjpbaaaDoorW.PrintWords Go.Proofs.YtmionoghpjpbaaaDoorW.PrintLast Go.Proofs.YtmionoghpjpbaaaDoorW.PrintMore
open Go.Proofs.YtmionoghpjpbaaaDoorM
set_option linter.unusedVariables false
set_option linter.unusedSimpArgs false
attribute [local go_sem ↓] Go.wp_at_zero Go.wp_at_succ

/-! ### plain -/
def key2 (i : Nat) : ByteArray := ⟨#[UInt8.ofNat (97 + i / 16), UInt8.ofNat (97 + i % 16)]⟩
def rdsL (n : Nat) : List Rd := (List.range n).map fun i => (⟨key2 i, 0, 0⟩ : Rd)
def ansL (a b : Nat) : List Answer := (List.range' a (b - a)).map fun i => (⟨key2 i, false, ⟨#[]⟩, 0⟩ : Answer)
theorem key2_inj {i j : Nat} (hi : i < 200) (hj : j < 200) (h : key2 i = key2 j) : i = j := by
  have h1 : (key2 i).data = (key2 j).data := by rw [h]
  simp only [key2] at h1
  have h2 := congrArg (·[0]?) h1
  have h3 := congrArg (·[1]?) h1
  simp only [List.getElem?_toArray, List.getElem?_cons_zero, List.getElem?_cons_succ, Option.some.injEq] at h2 h3
  have h4 := congrArg UInt8.toNat h2
  have h5 := congrArg UInt8.toNat h3
  simp only [UInt8.toNat_ofNat'] at h4 h5
  omega
theorem rdsL_len (n : Nat) : (rdsL n).length = n := by simp [rdsL]
theorem rdsL_succ (n : Nat) : rdsL (n + 1) = rdsL n ++ [⟨key2 n, 0, 0⟩] := by simp [rdsL, List.range_succ]
theorem rdsL_idx (a : Nat) (ha : a < 200) : keyIR (rdsL a) (key2 a) = -1 := by
  unfold keyIR
  refine idxOf_none fun j hj => ?_
  have hj2 : j < a := by rwa [rdsL_len] at hj
  rw [decide_eq_false_iff_not]
  intro e
  have e2 : (rdsL a)[j].f0 = key2 j := by simp [rdsL]
  rw [e2] at e
  have := key2_inj (by omega) ha e
  omega
theorem note_ans (b : Nat) (hb : b < 200) : ∀ m a : Nat, a + m = b → noteR 0 (rdsL a) (ansL a b) = rdsL b
  | 0, a, h => by
    obtain rfl : a = b := by omega
    simp [ansL, noteR]
  | m + 1, a, h => by
    have e : ansL a b = ⟨key2 a, false, ⟨#[]⟩, 0⟩ :: ansL (a + 1) b := by
      unfold ansL
      rw [show b - a = (b - (a + 1)) + 1 by omega, List.range'_succ, List.map_cons]
    rw [e]
    show noteR 0 (note1 0 (rdsL a) ⟨key2 a, false, ⟨#[]⟩, 0⟩) (ansL (a + 1) b) = rdsL b
    have e2 : note1 0 (rdsL a) (⟨key2 a, false, ⟨#[]⟩, 0⟩ : Answer) = rdsL (a + 1) := by
      unfold note1
      rw [if_pos (by rw [rdsL_idx a (by omega)]; decide), rdsL_succ]
    rw [e2]
    exact note_ans b hb m (a + 1) (by omega)
theorem ansL_len (a b : Nat) : (ansL a b).length = b - a := by simp [ansL]
theorem ansL_snoc (a x : Nat) (h : a ≤ x) : ansL a (x + 1) = ansL a x ++ [⟨key2 x, false, ⟨#[]⟩, 0⟩] := by
  unfold ansL
  rw [show x + 1 - a = (x - a) + 1 by omega, List.range'_concat, List.map_append]
  simp
  congr 2
  omega

def fullC (b : Nat) : Int := if 48 < b then 12 else 0
def fullN (a b : Nat) : Nat := if 48 < b then a else b
theorem conv2 (w : World) (x : Nat) (hx : x < 200) : (convert 106 9 (.slice (some ⟨w.heap.size, 0, none⟩) 2 2)).run Tryd.prog (w.alloc (.cells #[.int .u8 (97 + (x : Int) / 16), .int .u8 (97 + (x : Int) % 16)] 5)) = .ok (.string (key2 x)) (w.alloc (.cells #[.int .u8 (97 + (x : Int) / 16), .int .u8 (97 + (x : Int) % 16)] 5)) := by
  have hbx := heap_alloc_new w (.cells #[.int .u8 (97 + (x : Int) / 16), .int .u8 (97 + (x : Int) % 16)] 5)
  have e0 : ((UInt8.ofNat (97 + x / 16)).toNat : Int) = 97 + (x : Int) / 16 := by simp only [UInt8.toNat_ofNat']; omega
  have e1 : ((UInt8.ofNat (97 + x % 16)).toNat : Int) = 97 + (x : Int) % 16 := by simp only [UInt8.toNat_ofNat']; omega
  have h0 : (w.alloc (.cells #[.int .u8 (97 + (x : Int) / 16), .int .u8 (97 + (x : Int) % 16)] 5)).cell? ⟨w.heap.size, 0, none⟩ = some (.int .u8 (97 + (x : Int) / 16)) := by unfold World.cell?; rw [hbx]; rfl
  have h1 : (w.alloc (.cells #[.int .u8 (97 + (x : Int) / 16), .int .u8 (97 + (x : Int) % 16)] 5)).cell? ⟨w.heap.size, 1, none⟩ = some (.int .u8 (97 + (x : Int) % 16)) := by unfold World.cell?; rw [hbx]; rfl
  exact run_convert_bytes_back _ 106 9 5 ⟨w.heap.size, 0, none⟩ 2 [UInt8.ofNat (97 + x / 16), UInt8.ofNat (97 + x % 16)] Tryd.underlying106 Tryd.underlying5 Tryd.underlying9 (fun j hj => by
    have hj2 : j = 0 ∨ j = 1 := by simp at hj; omega
    rcases hj2 with rfl | rfl
    · show _ = some (Value.int .u8 ((UInt8.ofNat (97 + x / 16)).toNat : Int))
      rw [e0]
      rw [show (⟨w.heap.size, 0, none⟩ : Addr).add 0 = ⟨w.heap.size, 0, none⟩ from by simp [Addr.add]]
      exact h0
    · show _ = some (Value.int .u8 ((UInt8.ofNat (97 + x % 16)).toNat : Int))
      rw [e1]
      rw [show (⟨w.heap.size, 0, none⟩ : Addr).add 1 = ⟨w.heap.size, 1, none⟩ from by simp [Addr.add]]
      exact h1)

set_option maxHeartbeats 4000000 in
set_option maxRecDepth 100000 in
theorem fullFn_any (w : World) (g base : Nat) (b1 : Option Nat) (V : List Write) (a b : Nat) (B : Nat) (hab : a ≤ b) (hb : b < 200) (hbase : base ≤ w.heap.size) (h : ViewIs w g base b1 V (rdsL a)) (hc : w.cell? ⟨B, 0, none⟩ = some (.pointer (some ⟨g, 0, none⟩))) :
    Calls Tryd.prog 63 (#[.int .i64 a, .int .i64 b] ++ #[.pointer (some ⟨B, 0, none⟩)]) w fun e w' =>
      e = .returned (.int .i64 (fullC b)) ∧ ViewIs w' g base b1 V (rdsL (fullN a b)) ∧ Kept w w' g none := by
  have H := Aside0.mk h
  have HC := Aside0.mk hc
  have HN : Aside0 (a ≤ b ∧ b < 200 ∧ base ≤ w.heap.size) := ⟨hab, hb, hbase⟩
  clear hab hb hbase h hc
  go_enter Tryd.func63, Tryd.ntmps63
  go_wp2
  go_loopg [6, 7] (b - a) (fun kq v6 v7 w' => ∃ (x : Nat), v7 = .int .i64 x ∧ Aside0 (a ≤ x ∧ x + kq = b) ∧ Aside0 (Kd.R kAnswer 101 w' w.heap.size (fun _ => True) v6 (ansL a x)) ∧ Aside0 (Below w.heap.size w w'))
  case atStart => exact ⟨a, rfl, ⟨by have := HN.out; omega⟩, ⟨by simpa [ansL] using Kd.R_nil kAnswer _ _ _ _⟩, ⟨Below.refl _ _⟩⟩
  case round =>
    obtain ⟨x, rfl, HK, HO, HB⟩ := hrel
    by_cases q : x < b
    · have q' : (x : Int) < (b : Int) := by omega
      obtain ⟨k1, rfl⟩ : ∃ k1, gk = k1 + 1 := ⟨gk - 1, by have := HK.out; omega⟩
      have hx2 : x < 200 := by have := HN.out; omega
      have hconv := conv2 wr x hx2
      have HAL : Aside0 ((ansL a x).length ≤ 1000) := ⟨by rw [ansL_len]; omega⟩
      have HSN : Aside0 (ansL a (x + 1) = ansL a x ++ [⟨key2 x, false, ⟨#[]⟩, 0⟩]) := ⟨ansL_snoc a x HK.out.1⟩
      go_wp2_with (at_builtin; refine appAnswer (w0 := w) w.heap.size rfl (.tmp 14) (.tmp 26) (wr.heap.size + 1) rfl u6 (ansL a x) (⟨key2 x, false, ⟨#[]⟩, 0⟩ : Answer) rfl rfl ?aX ?aO ?aB ?aS ?aL ?_; (case aX => simp); (case aO => exact Kd.R_alloc HO.out _); (case aB => exact below_alloc HB.out _); (case aS => exact below_size (below_alloc HB.out _)); (case aL => have := HAL.out; omega); intro v1 w5 ho hb hg hat; have HO5 := Aside0.mk ho; have HB5 := Aside0.mk hb; clear ho hb hg hat)
      go_roundg k1
      case measure => omega
      case rel => exact ⟨x + 1, by first | go_num | rw [wsucc x (by omega)], ⟨by have := HK.out; omega⟩, ⟨by rw [HSN.out]; exact HO5.out⟩, HB5⟩
    · obtain rfl : x = b := by have := HK.out; omega
      obtain ⟨A6, n6, rfl, hn6, hC6⟩ := Kd.R_reads HO.out
      have hc1 : wr.cell? ⟨B, 0, none⟩ = some (.pointer (some ⟨g, 0, none⟩)) := pw_cell_below HB.out HC.out
      have HNA := Aside0.mk (note_any wr g base b1 V (rdsL a) A6 n6 (ansL a x) 0 (by have := HN.out; have := HB.out.size; omega) (H.out.below HB.out) (by rw [ansL_len]; have := HN.out; omega) (by rw [rdsL_len]; have := HN.out; omega) hC6)
      clear hn6 hC6
      go_wp2_with fail
      refine HNA.out.mono ?_
      rintro e w5 ⟨rfl, h1, h2⟩
      have HF : Aside0 (noteC 0 (rdsL a) (ansL a x) = fullC x ∧ noteL 0 (rdsL a) (ansL a x) = rdsL (fullN a x)) := ⟨by
        have e := note_ans x HN.out.2.1 (x - a) a (by have := HN.out.1; omega)
        unfold noteC noteL fullC fullN
        rw [e, rdsL_len]
        by_cases h : 48 < x
        · simp [h]
        · simp [h]⟩
      rw [HF.out.2] at h1
      have HV := Aside0.mk (And.intro h1 h2)
      obtain ⟨q5, hq5⟩ : ∃ q5, Aside0 (noteC 0 (rdsL a) (ansL a x) = q5) := ⟨_, ⟨rfl⟩⟩
      rw [hq5.out]
      clear h1 h2 HNA hc1
      go_wp2
      go_ret
      rw [show fullC x = q5 from HF.out.1.symm.trans hq5.out]
      exact ⟨rfl, HV.out.1, Kept.below_then HB.out HV.out.2⟩

theorem kept_cell {w w' : World} {g B : Nat} {v : Value} (h : Kept w w' g none) (hc : w.cell? ⟨B, 0, none⟩ = some v) (hB : B ≠ g) : w'.cell? ⟨B, 0, none⟩ = some v := by
  have hl : B < w.heap.size := World.block_lt_of_cell? w _ hc
  unfold World.cell? at hc ⊢
  rw [h.block B hl hB (by simp)]
  exact hc
set_option maxHeartbeats 4000000 in
set_option maxRecDepth 100000 in
theorem viewFull_any (n0 m0 : Int) (w : World) (hT : Lib.Utf8Tabs 2 3 w) : Calls Tryd.prog 12 #[.int .i64 n0, .int .i64 m0] w fun e w' => e = .returned (.bool true) ∧ Below w.heap.size w w' := by
  have HT := Aside0.mk hT
  clear hT
  obtain ⟨n, hn, HPn⟩ : ∃ n : Nat, n < 49 ∧ Aside0 (Pr.cachepotbook_Pick.f n0 49 = some (n : Int)) := by
    obtain ⟨p, h1, h2, h3⟩ := pickB n0 49 (by omega) (by omega)
    exact ⟨p.toNat, by omega, ⟨by rw [h3]; congr 1; omega⟩⟩
  obtain ⟨m, hm, HPm⟩ : ∃ m : Nat, m < 96 ∧ Aside0 (Pr.cachepotbook_Pick.f m0 96 = some (m : Int)) := by
    obtain ⟨p, h1, h2, h3⟩ := pickB m0 96 (by omega) (by omega)
    exact ⟨p.toNat, by omega, ⟨by rw [h3]; congr 1; omega⟩⟩
  have hfn : ∀ args w, (callFunc 63 args).run Tryd.prog w = .ok (.enter 63 args) w := enters_of Tryd.func63 (by kernel_rfl) rfl
  have hmf : ∀ (fn : Fn) (first cap : Array Value) (w : World), (Instr.makeFunc fn first cap).run Tryd.prog w = .ok (.func fn first cap) w := fun _ _ _ _ => rfl
  go_enter Tryd.func12, Tryd.ntmps12
  go_wp2_with fail
  refine (viewNew_any w).mono ?_
  rintro e w1 ⟨rfl, hw1⟩
  have HV1 := Aside0.mk (viewNew_is w w.heap.size)
  rw [← hw1] at HV1
  have HB1 : Aside0 (Below w.heap.size w w1) := ⟨by rw [hw1]; exact below_alloc (Below.refl _ _) _⟩
  have HG1 : Aside0 (w.heap.size < w1.heap.size) := ⟨HV1.out.lt⟩
  clear hw1
  go_wp2_with fail
  refine (alive22_any _ (Utf8Tabs_below HT.out (below_alloc HB1.out _))).mono ?_
  rintro e w2 ⟨rfl, hb⟩
  have hc2 : w2.cell? ⟨w1.heap.size, 0, none⟩ = some (.pointer (some ⟨w.heap.size, 0, none⟩)) := pw_cell_below hb (by unfold World.cell?; rw [heap_alloc_new]; rfl)
  have HV2 : Aside0 (ViewIs w2 w.heap.size w.heap.size none [] []) := ⟨(HV1.out.below (below_alloc (Below.refl _ _) _)).below hb⟩
  have HB2 : Aside0 (Below w.heap.size w w2) := ⟨below_then (below_alloc HB1.out _) (below_alloc HB1.out _).size hb⟩
  clear hb
  go_wp2_with fail
  refine (Pr.cachepotbook_Pick.calls n0 49 n _ HPn.out).mono ?_
  rintro e w3 ⟨rfl, hd⟩
  have hb := hd.below
  replace HV2 := Aside0.mk (HV2.out.below hb)
  replace HB2 := Aside0.mk (below_then HB2.out HB2.out.size hb)
  replace hc2 := pw_cell_below hb hc2
  clear hb hd
  go_wp2_with fail
  refine (Pr.cachepotbook_Pick.calls m0 96 m _ HPm.out).mono ?_
  rintro e w4 ⟨rfl, hd⟩
  have hb := hd.below
  replace HV2 := Aside0.mk (HV2.out.below hb)
  replace HB2 := Aside0.mk (below_then HB2.out HB2.out.size hb)
  replace hc2 := pw_cell_below hb hc2
  clear hb hd
  go_wp2_with fail
  go_at_fn 63
  refine (fullFn_any w4 w.heap.size w.heap.size none [] 0 n w1.heap.size (by omega) (by omega) HB2.out.size HV2.out hc2).mono ?_
  rintro e w5 ⟨rfl, hv, hk⟩
  rw [show fullC n = 0 by unfold fullC; rw [if_neg (by omega)]]
  rw [show fullN 0 n = n by unfold fullN; rw [if_neg (by omega)]] at hv
  replace hc2 := kept_cell hk hc2 (by have := HG1.out; omega)
  have HV5 := Aside0.mk hv
  have HB5 : Aside0 (Below w.heap.size w w5) := ⟨hk.below HB2.out HB2.out.size (Nat.le_refl _) (fun k h => by cases h)⟩
  clear hv hk
  go_wp2_with fail
  refine (reads_any w5 w.heap.size w.heap.size none [] (rdsL n) HV5.out (by rw [rdsL_len]; omega)).mono ?_
  rintro e w6 ⟨v, rfl, hR, hb⟩
  obtain ⟨A6, c6, rfl⟩ := Kd.R_slice hR
  rw [rdsL_len]
  have HV6 := Aside0.mk (HV5.out.below hb)
  have HB6 : Aside0 (Below w.heap.size w w6) := ⟨below_then HB5.out HB5.out.size hb⟩
  replace hc2 := pw_cell_below hb hc2
  clear hb hR
  go_wp2_with fail
  go_at_fn 63
  have HQ := fullFn_any w6 w.heap.size w.heap.size none [] n (n + m) w1.heap.size (by omega) (by omega) HB6.out.size HV6.out hc2
  rw [Int.natCast_add] at HQ
  refine HQ.mono ?_
  rintro e w7 ⟨rfl, hv, hk⟩
  replace hc2 := kept_cell hk hc2 (by have := HG1.out; omega)
  have HB7 : Aside0 (Below w.heap.size w w7) := ⟨hk.below HB6.out HB6.out.size (Nat.le_refl _) (fun k h => by cases h)⟩
  by_cases h48 : 48 < n + m
  · rw [show fullC (n + m) = 12 by unfold fullC; rw [if_pos h48]]
    rw [show fullN n (n + m) = n by unfold fullN; rw [if_pos h48]] at hv
    have HV7 := Aside0.mk hv
    have h48' : (48 : Int) < (n : Int) + (m : Int) := by omega
    clear hv hk HQ
    go_wp2_with fail
    refine (reads_any w7 w.heap.size w.heap.size none [] (rdsL n) HV7.out (by rw [rdsL_len]; omega)).mono ?_
    rintro e w8 ⟨v, rfl, hR, hb⟩
    obtain ⟨A8, c8, rfl⟩ := Kd.R_slice hR
    rw [rdsL_len]
    have HB8 : Aside0 (Below w.heap.size w w8) := ⟨below_then HB7.out HB7.out.size hb⟩
    clear hb hR
    go_wp2
    go_ret
    exact ⟨rfl, HB8.out⟩
  · rw [show fullC (n + m) = 0 by unfold fullC; rw [if_neg h48]]
    rw [show fullN n (n + m) = n + m by unfold fullN; rw [if_neg h48]] at hv
    have HV7 := Aside0.mk hv
    have h48' : ¬ (48 : Int) < (n : Int) + (m : Int) := by omega
    clear hv hk HQ
    go_wp2_with fail
    refine (reads_any w7 w.heap.size w.heap.size none [] (rdsL (n + m)) HV7.out (by rw [rdsL_len]; omega)).mono ?_
    rintro e w8 ⟨v, rfl, hR, hb⟩
    obtain ⟨A8, c8, rfl⟩ := Kd.R_slice hR
    rw [rdsL_len]
    have HB8 : Aside0 (Below w.heap.size w w8) := ⟨below_then HB7.out HB7.out.size hb⟩
    have hcast : ((n + m : Nat) : Int) = (n : Int) + (m : Int) := Int.natCast_add n m
    clear hb hR
    go_wp2
    go_ret
    exact ⟨rfl, HB8.out⟩
end Go.Proofs.YtmionoghpjpbaaaDoor
