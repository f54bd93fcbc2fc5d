/-
  cachepothand.Key; the document's BatchKeys, BatchMake.
-/
import Derived.Test.YtmionoghpjpbaaaDoorKSorted
namespace Go.Proofs.YtmionoghpjpbaaaDoor
open Go.RowKit Go.Proofs.YtmionoghpjpbaaaDoorW.PrintWords Go.Proofs.YtmionoghpjpbaaaDoorW.PrintLast Go.Proofs.YtmionoghpjpbaaaDoorW.PrintMore
open Go.Proofs.YtmionoghpjpbaaaDoorM
set_option linter.unusedVariables false
set_option linter.unusedSimpArgs false
attribute [local go_sem ↓] Go.wp_at_zero Go.wp_at_succ

/-! ### the twelve names -/
def nameL : List ByteArray := [⟨#[97]⟩, ⟨#[98]⟩, ⟨#[99]⟩, ⟨#[97, 98]⟩, ⟨#[107, 49]⟩, ⟨#[107, 50]⟩, ⟨#[107, 51]⟩, ⟨#[195, 169]⟩, ⟨#[195, 169, 97]⟩, ⟨#[240, 159, 152, 128]⟩, ⟨#[42]⟩, ⟨#[122, 122]⟩]
def nameAt (i : Nat) : ByteArray := nameL.getD i ByteArray.empty
/-- The program's variable names holds them. -/
def Names (w : World) : Prop := ∀ i, i < 12 → w.cell? ⟨0, i, none⟩ = some (.string (nameAt i))
theorem Names.lt {w : World} (h : Names w) : 0 < w.heap.size := World.block_lt_of_cell? w _ (h 0 (by omega))
theorem Names.below {w w' : World} {b : Nat} (h : Names w) (hb : Below b w w') (h0 : 0 < b) : Names w' := fun i hi => (hb.cell (p := ⟨0, i, none⟩) h0).trans (h i hi)
theorem Names.grown {w w' : World} {row : Option Nat} (h : Names w) (hg : w.grownBy w' row) (h0 : some 0 ≠ row) : Names w' := fun i hi => hg.cell (h i hi) h0
theorem Names.alloc {w : World} (h : Names w) (o : Obj) : Names (w.alloc o) := h.grown (World.grownBy_alloc w o none) (by simp)

/-- Which of the twelve. -/
def pickN (n : Int) : Nat := (if Int.tmod n 12 < 0 then Int.tmod n 12 + 12 else Int.tmod n 12).toNat
theorem tmod_low (n : Int) : -12 < Int.tmod n 12 := by
  have := Int.tmod_lt_of_pos (-n) (show (0 : Int) < 12 by omega)
  rw [Int.neg_tmod] at this
  omega
theorem pickN_lt (n : Int) : pickN n < 12 := by
  unfold pickN
  have h1 := Int.tmod_lt_of_pos n (show (0 : Int) < 12 by omega)
  have h2 := tmod_low n
  split <;> omega
theorem pick12 (n : Int) : Pr.cachepotbook_Pick.f n 12 = some (pickN n : Int) := by
  unfold Pr.cachepotbook_Pick.f pickN
  have h1 := Int.tmod_lt_of_pos n (show (0 : Int) < 12 by omega)
  have h2 := tmod_low n
  rw [if_neg (by omega)]
  by_cases h : Int.tmod n 12 < 0
  · rw [if_pos h, if_pos h, w64 _ (by omega) (by omega)]
    congr 1
    omega
  · rw [if_neg h, if_neg h]
    congr 1
    omega
def keyN (n : Int) : ByteArray := nameAt (pickN n)
theorem nameAt_size (i : Nat) : (nameAt i).size ≤ 4 := by
  unfold nameAt
  by_cases h : i < 12
  · have : ∀ i : Fin 12, (nameL.getD i.val ByteArray.empty).size ≤ 4 := by decide
    exact this ⟨i, h⟩
  · rw [List.getD_eq_getElem?_getD, List.getElem?_eq_none (by simp [nameL]; omega)]
    decide

set_option maxHeartbeats 1000000 in
theorem handKey_any (n : Int) (w : World) (h : Names w) : Calls Tryd.prog 37 #[.int .i64 n] w fun e w' => e = .returned (.string (keyN n)) ∧ Below w.heap.size w w' := by
  have h0 := h.lt
  have hp := pickN_lt n
  have hc := h _ hp
  have HP := Aside0.mk (pick12 n)
  have p0 : (0 : Int) ≤ (pickN n : Int) := by omega
  have p1 : (pickN n : Int) < 12 := by omega
  unfold keyN
  clear h
  generalize pickN n = i at *
  generalize nameAt i = s at *
  go_enter Tryd.func37, Tryd.ntmps37
  go_wp2_with fail
  refine (Pr.cachepotbook_Pick.calls n 12 (i : Int) _ HP.out).mono ?_
  rintro e w1 ⟨rfl, hd⟩
  have hb := hd.below
  have hc1 := pw_cell_below hb hc
  have HB := Aside0.mk hb
  clear hd hb
  go_wp2_with fail
  go_ret
  exact ⟨rfl, HB.out⟩

/-! ### BatchKeys, BatchMake -/
set_option maxHeartbeats 2000000 in
set_option maxRecDepth 100000 in
theorem batchKeys_any (A : Option Addr) (c : Nat) (l : List Write) (w : World) (hC : Kd.C kWrite w A l.length l) (hl : l.length ≤ 1000000) (hs : ∀ x ∈ l, x.f0.size ≤ 1000000000) :
    Calls Tryd.prog 55 #[.slice A l.length c] w (SortedOf w (l.map (·.f0))) := by
  have HC := Aside0.mk hC
  have HL := Aside0.mk hl
  have HS := Aside0.mk hs
  clear hC hl hs
  go_enter Tryd.func55, Tryd.ntmps55
  go_wp2
  go_loopg [3, 4] l.length (fun kq v3 v4 w' => ∃ (x : Nat), v4 = .int .i64 x ∧ Aside0 (x + kq = l.length) ∧ Aside0 (Kd.R Kd.string 9 w' w.heap.size (fun _ => True) v3 ((l.take x).map (·.f0))) ∧ Aside0 (Below w.heap.size w w'))
  case atStart => exact ⟨0, rfl, ⟨by simp⟩, ⟨by simpa using Kd.R_nil _ _ _ _ _⟩, ⟨Below.refl _ _⟩⟩
  case round =>
    obtain ⟨x, rfl, HK, HO, HB⟩ := hrel
    by_cases q : x < l.length
    · have q' : (x : Int) < (l.length : Int) := by omega
      have p1 : (0 : Int) ≤ (x : Int) := by omega
      obtain ⟨g1, rfl⟩ : ∃ g1, gk = g1 + 1 := ⟨gk - 1, by have := HK.out; omega⟩
      obtain ⟨ad, e, c0, _, _⟩ := atWrite (Kd.C_below HC.out HB.out) (x : Int) p1 q'
      cases e
      rw [Int.toNat_natCast] at c0
      have HX : Aside0 (rdWrite l (x : Int) = l[x]) := ⟨by rw [rdWrite_get (by simpa using q)]; simp⟩
      generalize rdWrite l (x : Int) = y at *
      have HMl : Aside0 (((l.take x).map (·.f0)).length ≤ 1000000000) := ⟨by rw [List.length_map, List.length_take]; have := HL.out; omega⟩
      go_wp2_with (at_builtin; refine appStr (w0 := w) w.heap.size rfl (.tmp 11) (.tmp 17) wr.heap.size rfl u3 ((l.take x).map (·.f0)) y.f0 rfl rfl rfl ?aO ?aB ?aS ?aL ?_; (case aO => exact HO.out); (case aB => exact HB.out); (case aS => exact HB.out.size); (case aL => exact HMl.out); intro v1 w3 ho hb hg hat; have HO3 := Aside0.mk ho; have HB3 := Aside0.mk hb; clear ho hb hg hat)
      go_roundg g1
      case measure => omega
      case rel =>
        refine ⟨x + 1, by rw [wsucc x (by have := HL.out; omega)], ⟨by have := HK.out; omega⟩, ⟨?_⟩, HB3⟩
        rw [List.take_succ_eq_append_getElem q, List.map_append, List.map_cons, List.map_nil, ← HX.out]
        exact HO3.out
    · have e : l.take x = l := List.take_of_length_le (by omega)
      rw [e] at HO
      have HSZ : Aside0 (∀ s, s ∈ l.map (·.f0) → s.size ≤ 1000000000) := ⟨fun s hm => by
        obtain ⟨y, hy, rfl⟩ := List.mem_map.1 hm
        exact HS.out y hy⟩
      have HLn : Aside0 ((l.map (·.f0)).length ≤ 1000000) := ⟨by rw [List.length_map]; exact HL.out⟩
      clear e
      obtain ⟨ks, hks⟩ : ∃ ks, Aside0 (l.map (·.f0) = ks) := ⟨_, ⟨rfl⟩⟩
      rw [hks.out] at HO HSZ HLn
      obtain ⟨A1, c1, rfl, hc1, hr1⟩ := Kd.R_reads HO.out
      have HRd := Aside0.mk hr1
      clear hc1 hr1
      go_wp2_with fail
      refine (keysSorted_any A1 c1 ks _ HRd.out HLn.out HSZ.out).mono ?_
      intro e w3 hso
      obtain ⟨v, out, rfl, h2, h3, h4, h5⟩ := hso
      have HK3 : Aside0 (SortedOf w ks (.returned v) w3) := ⟨⟨v, out, rfl, Kd.R_lower h2 HB.out.size, h3, h4, below_then HB.out HB.out.size h5⟩⟩
      clear h2 h3 h4 h5
      go_wp2_with fail
      go_ret
      show SortedOf w (l.map (·.f0)) _ _
      rw [hks.out]
      exact HK3.out

/-- The last write of a key. -/
def lastW (l : List Write) (k : ByteArray) : Option Write := l.reverse.find? fun x => decide (x.f0 = k)
def fixW (x : Write) : Write := if x.f1 then ⟨x.f0, x.f1, ByteArray.empty⟩ else x
/-- What BatchMake makes of writes. -/
def IsMade (l ws : List Write) : Prop := Rises (ws.map (·.f0)) ∧ (∀ s, s ∈ ws.map (·.f0) ↔ s ∈ l.map (·.f0)) ∧ ∀ x ∈ ws, ∃ y, lastW l x.f0 = some y ∧ x = fixW y
theorem IsMade.unique {l a b : List Write} (ha : IsMade l a) (hb : IsMade l b) : a = b := by
  have hk := Rises.unique ha.1 hb.1 fun s => (ha.2.1 s).trans (hb.2.1 s).symm
  have hl : a.length = b.length := by simpa using congrArg List.length hk
  refine List.ext_getElem hl fun i h1 h2 => ?_
  obtain ⟨y, e1, e2⟩ := ha.2.2 _ (List.getElem_mem h1)
  obtain ⟨z, e3, e4⟩ := hb.2.2 _ (List.getElem_mem h2)
  have e5 : a[i].f0 = b[i].f0 := by
    have := congrArg (fun l => l[i]?) hk
    simpa [h1, h2] using this
  rw [e5, e3] at e1
  cases e1
  rw [e2, e4]

theorem nodup_le {α : Type} [DecidableEq α] : ∀ (ks l : List α), ks.Nodup → (∀ s, s ∈ ks → s ∈ l) → ks.length ≤ l.length
  | [], l, _, _ => by simp
  | a :: ks, l, hn, h => by
    obtain ⟨h1, h2⟩ := List.nodup_cons.1 hn
    have ha := h a (by simp)
    have := nodup_le ks (l.erase a) h2 fun s hs => (List.mem_erase_of_ne (fun e => h1 (by rw [← e]; exact hs))).2 (h s (List.mem_cons_of_mem _ hs))
    rw [List.length_erase_of_mem ha] at this
    have := List.length_pos_of_mem ha
    simp only [List.length_cons]
    omega
theorem lastW_snoc (l : List Write) (x : Write) (k : ByteArray) : lastW (l ++ [x]) k = if x.f0 = k then some x else lastW l k := by
  unfold lastW
  rw [List.reverse_append, List.reverse_singleton, List.singleton_append, List.find?_cons]
  by_cases h : x.f0 = k
  · rw [if_pos h]; simp [h]
  · rw [if_neg h]; simp [h]
theorem lastW_mem {l : List Write} {k : ByteArray} {y : Write} (h : lastW l k = some y) : y ∈ l ∧ y.f0 = k := by
  unfold lastW at h
  exact ⟨List.mem_reverse.1 (List.mem_of_find?_eq_some h), by simpa using List.find?_some h⟩
theorem lastW_isSome {l : List Write} {k : ByteArray} : (lastW l k).isSome = true ↔ k ∈ l.map (·.f0) := by
  unfold lastW
  rw [List.find?_isSome, List.mem_map]
  constructor
  · rintro ⟨x, h1, h2⟩
    exact ⟨x, List.mem_reverse.1 h1, by simpa using h2⟩
  · rintro ⟨x, h1, h2⟩
    exact ⟨x, List.mem_reverse.2 h1, by simpa using h2⟩

def ofLast : Option Write → ByteArray × Bool × ByteArray × Bool
  | some y => (y.f0, y.f1, y.f2, true)
  | none => ((⟨#[]⟩ : ByteArray), false, (⟨#[]⟩ : ByteArray), false)
theorem find_at (l : List Write) (k : ByteArray) (hl : l.length ≤ 1000000) (d : Nat) : ∀ i : Nat, i ≤ l.length → Pr.cachepotref1_BatchFind.l0 (i + d + 1) l k ((i : Int) - 1) = some (ofLast (lastW (l.take i) k))
  | 0, h => by
    unfold Pr.cachepotref1_BatchFind.l0
    rw [if_neg (by omega)]
    rfl
  | i + 1, h => by
    rw [show i + 1 + d + 1 = (i + d + 1) + 1 by omega]
    unfold Pr.cachepotref1_BatchFind.l0
    have e1 : (((i + 1 : Nat) : Int) - 1) = (i : Int) := by omega
    have hi : i < l.length := by omega
    have e2 : Pr.rd_T44 l (i : Int) = l[i] := by
      have := rdWrite_get (xs := l) (i := (i : Int)) (by simpa using hi)
      simpa using this
    rw [e1, if_pos (by omega), if_pos (by omega), if_pos (by omega), e2, List.take_succ_eq_append_getElem hi, lastW_snoc]
    by_cases hk : l[i].f0 = k
    · rw [if_pos (by rw [hk]), if_pos hk]
      rfl
    · rw [if_neg (fun h => hk (bytes_ext (by rwa [Lib.toList_data, Lib.toList_data] at h))), if_neg hk]
      have e3 : wrap64 ((i : Int) - 1) = (i : Int) - 1 := by unfold wrap64; omega
      rw [e3, find_at l k hl d i (by omega)]
theorem find_f (l : List Write) (k : ByteArray) (hl : l.length ≤ 1000000) : Pr.cachepotref1_BatchFind.f (l.length + 1) l k = some (ofLast (lastW l k)) := by
  unfold Pr.cachepotref1_BatchFind.f
  have e3 : wrap64 ((l.length : Int) - 1) = (l.length : Int) - 1 := by unfold wrap64; omega
  have := find_at l k hl 0 l.length (Nat.le_refl _)
  rw [List.take_length] at this
  rw [e3]
  exact this
def aggW (x : Write) : Value := .agg #[.string x.f0, .bool x.f1, .string x.f2]
theorem find_any (A : Option Addr) (c : Nat) (l : List Write) (k : ByteArray) (w : World) (hC : Kd.C kWrite w A l.length l) (hc : l.length ≤ c) (hl : l.length ≤ 1000000) :
    Calls Tryd.prog 38 #[.slice A l.length c, .string k] w fun e w' =>
      e = .returned (.tuple #[aggW ((lastW l k).getD zWrite), .bool (lastW l k).isSome]) ∧ Below w.heap.size w w' := by
  have h := find_f l k hl
  cases hk : lastW l k with
  | none =>
    rw [hk] at h
    exact Pr.cachepotref1_BatchFind.calls _ A c l k _ _ _ _ w hC hc h
  | some y =>
    rw [hk] at h
    exact Pr.cachepotref1_BatchFind.calls _ A c l k _ _ _ _ w hC hc h

theorem fixW_key (x : Write) : (fixW x).f0 = x.f0 := by unfold fixW; split <;> rfl

set_option maxHeartbeats 2000000 in
set_option maxRecDepth 100000 in
theorem batchMake_any (A : Option Addr) (c : Nat) (l : List Write) (w : World) (hC : Kd.C kWrite w A l.length l) (hcc : l.length ≤ c) (hl : l.length ≤ 1000000) (hs : ∀ x ∈ l, x.f0.size ≤ 1000000000) :
    Calls Tryd.prog 58 #[.slice A l.length c] w fun e w' => ∃ v ws, e = .returned v ∧ Kd.R kWrite 44 w' w.heap.size (fun _ => True) v ws ∧ IsMade l ws ∧ Below w.heap.size w w' := by
  have HC := Aside0.mk hC
  have HL := Aside0.mk (And.intro hl hcc)
  have HS := Aside0.mk hs
  clear hC hl hs hcc
  go_enter Tryd.func58, Tryd.ntmps58
  go_wp2_with fail
  refine (batchKeys_any A c l w HC.out HL.out.1 HS.out).mono ?_
  rintro e w1 ⟨v3, ks, rfl, hR, hri, hm, hb⟩
  have hlk : ks.length ≤ l.length := by
    have := nodup_le ks _ hri.nodup (fun s hs => (hm s).1 hs)
    simpa using this
  obtain ⟨A3, c3, rfl, hc3, hr3⟩ := Kd.R_reads hR
  have HR3 := Aside0.mk hr3
  have HM := Aside0.mk (And.intro hri (And.intro hm hlk))
  have HB1 := Aside0.mk hb
  clear hR hri hm hb hlk hr3 hc3
  go_wp2
  go_loopg [4, 5] ks.length (fun kq v4 v5 w' => ∃ (x : Nat) (ws : List Write), v5 = .int .i64 x ∧ Aside0 (x + kq = ks.length) ∧ Aside0 (Kd.R kWrite 44 w' w1.heap.size (fun _ => True) v4 ws) ∧ Aside0 (ws.map (·.f0) = ks.take x ∧ ∀ z ∈ ws, ∃ y, lastW l z.f0 = some y ∧ z = fixW y) ∧ Aside0 (Below w1.heap.size w1 w'))
  case atStart => exact ⟨0, [], rfl, ⟨by simp⟩, ⟨Kd.R_nil _ _ _ _ _⟩, ⟨by simp, by simp⟩, ⟨Below.refl _ _⟩⟩
  case round =>
    obtain ⟨x, ws, rfl, HK, HO, HP, HB⟩ := hrel
    by_cases q : x < ks.length
    · have q' : (x : Int) < (ks.length : Int) := by omega
      have p1 : (0 : Int) ≤ (x : Int) := by omega
      obtain ⟨g1, rfl⟩ : ∃ g1, gk = g1 + 1 := ⟨gk - 1, by have := HK.out; omega⟩
      obtain ⟨ad, e, c0⟩ := Kd.at_string (Kd.C_below HR3.out HB.out) (x : Int) p1 q'
      cases e
      rw [Int.toNat_natCast] at c0
      have HX : Aside0 (rdOf ByteArray.empty ks (x : Int) = ks[x]) := ⟨by rw [rdOf_get (by simpa using q)]; simp⟩
      generalize rdOf ByteArray.empty ks (x : Int) = key at *
      obtain ⟨y, hy⟩ : ∃ y, lastW l key = some y := Option.isSome_iff_exists.1 (lastW_isSome.2 ((HM.out.2.1 _).1 (by rw [HX.out]; exact List.getElem_mem q)))
      have HY := Aside0.mk hy
      have HYK : Aside0 (y.f0 = key) := ⟨(lastW_mem hy).2⟩
      have HCW : Aside0 (Kd.C kWrite wr A l.length l) := ⟨Kd.C_below (Kd.C_below HC.out HB1.out) HB.out⟩
      have HWL : Aside0 (ws.length ≤ 1000000000) := ⟨by
        have h1 := congrArg List.length HP.out.1
        rw [List.length_map, List.length_take] at h1
        have := HM.out.2.2
        have := HL.out.1
        omega⟩
      have HST : ∀ z, z = fixW y → (ws ++ [z]).map (·.f0) = ks.take (x + 1) ∧ ∀ u ∈ ws ++ [z], ∃ y, lastW l u.f0 = some y ∧ u = fixW y := by
        intro z hz
        constructor
        · rw [List.map_append, HP.out.1, List.take_succ_eq_append_getElem q, List.map_cons, List.map_nil, hz, fixW_key, HYK.out, HX.out]
        · intro u hu
          rcases List.mem_append.1 hu with hu | hu
          · exact HP.out.2 u hu
          · rw [List.mem_singleton.1 hu, hz]
            exact ⟨y, by rw [fixW_key, HYK.out]; exact HY.out, rfl⟩
      have HS2 := Aside0.mk HST
      clear hy HST
      go_wp2_with fail
      refine (find_any A c l key wr HCW.out HL.out.2 HL.out.1).mono ?_
      rintro e w2 ⟨rfl, hb2⟩
      rw [HY.out]
      rw [show aggW ((some y).getD zWrite) = .agg #[.string y.f0, .bool y.f1, .string y.f2] from rfl, show (some y).isSome = true from rfl]
      have HB2 : Aside0 (Below w1.heap.size w1 w2) := ⟨below_then HB.out HB.out.size hb2⟩
      have HO2 : Aside0 (Kd.R kWrite 44 w2 w1.heap.size (fun _ => True) u4 ws) := ⟨Kd.R_below HO.out hb2⟩
      clear hb2 HB HO HCW HY
      cases hd : y.f1
      · have HZ : Aside0 ((⟨y.f0, false, y.f2⟩ : Write) = fixW y) := ⟨by unfold fixW; rw [if_neg (by rw [hd]; simp), ← hd]⟩
        clear hd
        go_wp2_with (at_builtin; refine appWrite (w0 := w1) w1.heap.size rfl (.tmp 28) (.tmp 30) (w2.heap.size + 1) rfl u4 ws ⟨y.f0, false, y.f2⟩ rfl rfl ?aX ?aO ?aB ?aS ?aL ?_; (case aX => simp); (case aO => exact Kd.R_alloc HO2.out _); (case aB => exact below_alloc HB2.out _); (case aS => exact below_size (below_alloc HB2.out _)); (case aL => exact HWL.out); intro v1 w5 ho hb hg hat; have HR1 := Aside0.mk ho; have HB5 := Aside0.mk hb; clear ho hb hg hat)
        go_roundg g1
        case measure => omega
        case rel => exact ⟨x + 1, ws ++ [⟨y.f0, false, y.f2⟩], by rw [wsucc x (by have := HM.out.2.2; have := HL.out.1; omega)], ⟨by have := HK.out; omega⟩, HR1, ⟨HS2.out _ HZ.out⟩, HB5⟩
      · have HZ : Aside0 ((⟨y.f0, true, ByteArray.empty⟩ : Write) = fixW y) := ⟨by unfold fixW; rw [if_pos hd, ← hd]⟩
        clear hd
        go_wp2_with (at_builtin; refine appWrite (w0 := w1) w1.heap.size rfl (.tmp 28) (.tmp 30) (w2.heap.size + 1) rfl u4 ws ⟨y.f0, true, ByteArray.empty⟩ rfl rfl ?aX ?aO ?aB ?aS ?aL ?_; (case aX => simp); (case aO => exact Kd.R_alloc HO2.out _); (case aB => exact below_alloc HB2.out _); (case aS => exact below_size (below_alloc HB2.out _)); (case aL => exact HWL.out); intro v1 w5 ho hb hg hat; have HR1 := Aside0.mk ho; have HB5 := Aside0.mk hb; clear ho hb hg hat)
        go_roundg g1
        case measure => omega
        case rel => exact ⟨x + 1, ws ++ [⟨y.f0, true, ByteArray.empty⟩], by rw [wsucc x (by have := HM.out.2.2; have := HL.out.1; omega)], ⟨by have := HK.out; omega⟩, HR1, ⟨HS2.out _ HZ.out⟩, HB5⟩
    · have e : ks.take x = ks := List.take_of_length_le (by omega)
      rw [e] at HP
      go_wp2
      go_ret
      exact ⟨_, ws, rfl, Kd.R_lower HO.out HB1.out.size, ⟨by rw [HP.out.1]; exact HM.out.1, fun s => by rw [HP.out.1]; exact HM.out.2.1 s, HP.out.2⟩, below_then HB1.out HB1.out.size HB.out⟩
end Go.Proofs.YtmionoghpjpbaaaDoor
