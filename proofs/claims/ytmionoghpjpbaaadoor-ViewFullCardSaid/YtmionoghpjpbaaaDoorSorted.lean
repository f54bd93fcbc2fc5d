/-
  keys.Sorted: the texts of a list, in order, each once. (Needs the library's contracts laid at this dump: module ..Sh.)
-/
import Derived.Test.YtmionoghpjpbaaaDoorCmp
import Derived.Test.YtmionoghpjpbaaaDoorSh
import Derived.Shelf.SlSortCmp.NoneTotal
import Derived.Sort.OwnSorted
import Derived.Lib.RowBridge
namespace Go.Proofs.YtmionoghpjpbaaaDoorM
open Go.Sort Go.Lib

/-! ### plain: a sorted list, compacted -/
theorem ltF_le_trans {a b d : ByteArray} (h1 : ltF a b = true) (h2 : ltF d b = false) : ltF a d = true := by
  cases h : ltF b d
  · rw [← ltF_tri h h2]; exact h1
  · exact ltF_trans h1 h
theorem ltF_nle {a b d : ByteArray} (h1 : ltF b a = false) (h2 : ltF d b = false) : ltF d a = false := by
  cases h : ltF d a
  · rfl
  · cases h3 : ltF a b
    · rw [ltF_tri h3 h1] at h; rw [h] at h2; cases h2
    · rw [ltF_trans h h3] at h2; cases h2
theorem ltF_le_lt {a b d : ByteArray} (h1 : ltF b a = false) (h2 : ltF b d = true) : ltF a d = true := by
  cases h : ltF a b
  · rw [ltF_tri h h1]; exact h2
  · exact ltF_trans h h2

def bs (x : List UInt8) : ByteArray := ⟨x.toArray⟩
theorem bs_inj {x y : List UInt8} (h : bs x = bs y) : x = y := by
  have : x.toArray = y.toArray := congrArg ByteArray.data h
  exact List.toArray_inj this

theorem compact_rises (zs : List (List UInt8)) (hs : zs.Pairwise fun x y => ltF (bs y) (bs x) = false) : Rises ((Lib.compact zs).map bs) ∧ ∀ x, x ∈ Lib.compact zs ↔ x ∈ zs := by
  have hg : ∀ j, (hj : j < zs.length) → zs.toArray[j]! = zs[j] := fun j hj => by simp [getElem!_pos, hj]
  have hle : ∀ i j, i < j → (hj : j < zs.length) → ltF (bs zs.toArray[j]!) (bs zs.toArray[i]!) = false := fun i j hij hj => by
    rw [hg j hj, hg i (by omega)]
    exact List.pairwise_iff_getElem.1 hs i j (by omega) hj hij
  refine ⟨?_, fun x => ⟨fun h => ?_, fun h => ?_⟩⟩
  · unfold Lib.compact compactUpTo Rises
    rw [List.map_map, List.pairwise_map]
    refine List.Pairwise.imp_of_mem ?_ ((List.pairwise_lt_range (n := zs.length)).filter _)
    intro i j hi hj hij
    obtain ⟨hi1, hi2⟩ := List.mem_filter.1 hi
    obtain ⟨hj1, hj2⟩ := List.mem_filter.1 hj
    have hjl := List.mem_range.1 hj1
    have hne : zs.toArray[j]! ≠ zs.toArray[j - 1]! := by
      have := of_decide_eq_true hj2
      rcases this with h | h
      · omega
      · exact h
    have h1 := hle (j - 1) j (by omega) hjl
    have h2 : ltF (bs zs.toArray[j - 1]!) (bs zs.toArray[j]!) = true := by
      cases h : ltF (bs zs.toArray[j - 1]!) (bs zs.toArray[j]!)
      · exact absurd (bs_inj (ltF_tri h1 h)) hne
      · rfl
    show ltF (bs zs.toArray[i]!) (bs zs.toArray[j]!) = true
    rcases Nat.lt_or_ge i (j - 1) with h3 | h3
    · exact ltF_le_lt (hle i (j - 1) h3 (by omega)) h2
    · rw [show i = j - 1 by omega]; exact h2
  · unfold Lib.compact compactUpTo at h
    obtain ⟨i, hi, rfl⟩ := List.mem_map.1 h
    have := List.mem_range.1 (List.mem_filter.1 hi).1
    rw [hg i this]
    exact List.getElem_mem _
  · obtain ⟨i, hi, rfl⟩ := List.getElem_of_mem h
    rw [← hg i hi]
    clear h
    induction i with
    | zero =>
      exact List.mem_map.2 ⟨0, List.mem_filter.2 ⟨List.mem_range.2 hi, by simp [keeps]⟩, rfl⟩
    | succ i ih =>
      by_cases hk : keeps zs.toArray (i + 1) = true
      · exact List.mem_map.2 ⟨i + 1, List.mem_filter.2 ⟨List.mem_range.2 hi, hk⟩, rfl⟩
      · have : zs.toArray[i + 1]! = zs.toArray[i]! := by
          simp only [keeps, decide_eq_true_eq, not_or, Decidable.not_not] at hk
          simpa using hk.2
        rw [this]
        exact ih (by omega)

/-! ### rows, sorted: at any encoding -/
section
variable {α : Type} [Inhabited α] {enc : α → Value}
theorem heap_sortedG {w : World} {g n : Nat} {os : Array Obj} {cur : Array Value} {e : TypeId} {fr : Nat × Nat} (d : Array α) (hb : w.heap[g]? = some (.cells cur e fr)) :
    (grow (putRow enc (Sort.ahead w n) g 0 d) os).heap[g]? = some (.cells (putCells enc 0 d cur) e fr) := by
  have hg : g < w.heap.size := (Array.getElem?_eq_some_iff.1 hb).1
  rw [heap_grow_old _ _ (by simpa using hg)]
  simp [putRow, mapBlock, Sort.ahead, Array.getElem?_modify, hb, onCells]
theorem grownBy_sortedG {w : World} {g n : Nat} {os : Array Obj} (d : Array α) : w.grownBy (grow (putRow enc (Sort.ahead w n) g 0 d) os) (some g) := by
  refine ⟨rfl, rfl, rfl, by simp, fun k hk hne => ?_⟩
  rw [heap_grow_old _ _ (by simpa using hk)]
  have : g ≠ k := fun e => hne (by rw [e])
  simp [putRow, mapBlock, Sort.ahead, Array.getElem?_modify, this]
theorem take_putCellsG (cur : Array Value) (ts : List α) (h : ts.length ≤ cur.size) : (putCells enc 0 ts.toArray cur).toList.take ts.length = ts.map enc := by
  apply List.ext_getElem?
  intro j
  by_cases hj : j < ts.length
  · rw [List.getElem?_take_of_lt hj, Array.getElem?_toList]
    simp [putCells, hj, show j < cur.size by omega]
  · rw [List.getElem?_take_eq_none (by omega), List.getElem?_eq_none (by simp; omega)]
theorem holds_of_blockG {w : World} {g : Nat} {cur : Array Value} {e : TypeId} {ss : List α} (hb : w.heap[g]? = some (.cells cur e (0, 0))) (ht : cur.toList.take ss.length = ss.map enc) : Holds enc w g 0 ss.toArray := by
  intro j hj
  have hj' : j < ss.length := by simpa using hj
  refine ⟨?_, by simp [World.frozen?, hb]⟩
  have h1 : (cur.toList.take ss.length)[j]? = (ss.map enc)[j]? := by rw [ht]
  rw [List.getElem?_take_of_lt hj'] at h1
  simp only [World.cell?, hb, Nat.zero_add]
  simp only [Option.isSome_none, Bool.false_eq_true, if_false]
  rw [← Array.getElem?_toList, h1]
  simp [hj']
end

/-- A text that is not too long. -/
abbrev Txt := {s : ByteArray // s.size ≤ 1000000000}
instance : Inhabited Txt := ⟨⟨ByteArray.empty, by decide⟩⟩
def encT (x : Txt) : Value := .string x.1
def cfT (x y : Txt) : Int := cmpF x.1 y.1
theorem ltOfT (x y : Txt) : ltOf cfT x y = ltF x.1 y.1 := rfl
theorem swoT : SWO (ltOf cfT) where
  irrefl x := ltF_irrefl _
  trans x y z h1 h2 := ltF_trans h1 h2
  ntrans x y z h1 h2 := by
    rw [ltOfT] at *
    cases h : ltF x.1 z.1
    · rfl
    · have h3 := ltF_le_lt (a := y.1) (b := x.1) (d := z.1) h1 h
      rw [h3] at h2
      cases h2
theorem totT (x y : Txt) (h1 : ltOf cfT x y = false) (h2 : ltOf cfT y x = false) : x = y := Subtype.ext (ltF_tri h1 h2)
theorem sortT (l : List Txt) : (l.mergeSort fun x y => !(ltOf cfT) y x).Pairwise fun x y => ltF y.1 x.1 = false := by
  have h := List.pairwise_mergeSort (le := fun x y : Txt => !(ltOf cfT) y x) (fun a b c h1 h2 => by
    simp only [ltOfT, Bool.not_eq_true'] at *
    exact ltF_nle h1 h2) (fun a b => by
    simp only [ltOfT, Bool.or_eq_true, Bool.not_eq_true']
    cases h : ltF b.1 a.1
    · exact .inl rfl
    · exact .inr (ltF_asym h)) l
  exact h.imp fun h => by simpa [ltOfT] using h
end Go.Proofs.YtmionoghpjpbaaaDoorM

namespace Go.Proofs.YtmionoghpjpbaaaDoor
open Go.Shelf Go.RowKit Go.Lib Go.Sort Go.Proofs.YtmionoghpjpbaaaDoorW.PrintWords Go.Proofs.YtmionoghpjpbaaaDoorW.PrintLast Go.Proofs.YtmionoghpjpbaaaDoorW.PrintMore
open Go.Proofs.YtmionoghpjpbaaaDoorM
set_option linter.unusedVariables false
set_option linter.unusedSimpArgs false

theorem sortedLays (blk off size : Nat) (w : World) : CmpLays1 Tryd.prog 108 #[] encT cfT blk off size w := by
  intro m os dk _ x y
  exact (sortedCmp_any Tryd.strings_Compare x.1 y.1 x.2 y.2 _).mono fun e w' ⟨he, hb, hd⟩ => ⟨he, grow_of_below hb hd⟩

/-- What keys.Sorted hands back. -/
def SortedOf (w0 : World) (l : List ByteArray) (e : Ending) (w' : World) : Prop :=
  ∃ v out, e = .returned v ∧ Kd.R Kd.string 9 w' w0.heap.size (fun _ => True) v out ∧ Rises out ∧ (∀ s, s ∈ out ↔ s ∈ l) ∧ Below w0.heap.size w0 w'

theorem R_strs {w : World} {base : Nat} {v : Value} {xs : List ByteArray} (h : w.ownsRow base 9 1 v xs.length (xs.map Value.string)) : Kd.R Kd.string 9 w base (fun _ => True) v xs :=
  ⟨fun _ _ => trivial, _, h, reps_strs w xs⟩

set_option maxHeartbeats 2000000 in
set_option maxRecDepth 100000 in
theorem sorted_zero (A : Option Addr) (c : Nat) (w : World) : Calls Tryd.prog 82 #[.slice A 0 c] w (SortedOf w []) := by
  have hS := fun p c W => AnyF.slices_SortFunc_none (P := Tryd.prog) (ρ := Tryd.sortL_ren) { Tryd.sortL with } p c (.func (.func 108) #[] #[]) W
  change ∀ p c W, Calls Tryd.prog 107 _ _ _ at hS
  have HS := Aside0.mk hS
  clear hS
  cases A with
  | none =>
    go_enter Tryd.func82, Tryd.ntmps82
    go_wp2_with fail
    refine (Tryd.slices_Clone_string_nil 0 c _).mono ?_
    rintro e w1 ⟨rfl, rfl⟩
    go_wp2_with fail
    refine (HS.out _ _ _).mono ?_
    rintro e w1 ⟨rfl, rfl⟩
    go_wp2_with fail
    refine (Tryd.slices_Compact_string_empty _ _ _).mono ?_
    rintro e w1 ⟨rfl, rfl⟩
    go_wp2_with fail
    go_ret
    exact ⟨_, [], rfl, Kd.R_nil _ _ _ _ _, List.Pairwise.nil, fun s => Iff.rfl, Below.refl _ _⟩
  | some ad =>
    go_enter Tryd.func82, Tryd.ntmps82
    go_wp2_with fail
    refine (Tryd.slices_Clone_string_zero ad c _).mono ?_
    rintro e w1 ⟨v, rfl, ho, hne, hb⟩
    obtain ⟨A1, c1, rfl⟩ := own_slice ho
    have HO := Aside0.mk (And.intro ho hb)
    clear ho hb hne
    go_wp2_with fail
    refine (HS.out _ _ _).mono ?_
    rintro e w1 ⟨rfl, rfl⟩
    go_wp2_with fail
    refine (Tryd.slices_Compact_string_empty _ _ _).mono ?_
    rintro e w1 ⟨rfl, rfl⟩
    go_wp2_with fail
    go_ret
    exact ⟨_, [], rfl, R_strs HO.out.1, List.Pairwise.nil, fun s => Iff.rfl, HO.out.2⟩

set_option maxHeartbeats 2000000 in
set_option maxRecDepth 100000 in
theorem sorted_some (b off c : Nat) (l : List ByteArray) (w : World) (h0 : l ≠ []) (hl : l.length ≤ 1000000000) (hs : ∀ s, s ∈ l → s.size ≤ 1000000000)
    (hc : ∀ j, j < l.length → w.cell? ⟨b, off + j, none⟩ = some (.string (l.getD j ByteArray.empty))) : Calls Tryd.prog 82 #[.slice (some ⟨b, off, none⟩) l.length c] w (SortedOf w l) := by
  obtain ⟨d, rfl⟩ : ∃ d : List Txt, l = d.map (·.1) := ⟨l.attach.map fun s => ⟨s.1, hs s.1 s.2⟩, by simp⟩
  have eg : ∀ args w, (callFunc 108 args).run Tryd.prog w = .ok (.enter 108 args) w := enters_of Tryd.func108 (by kernel_rfl) rfl
  have hS : ∀ (blk cap : Nat) (d : Array Txt) (w : World), Holds encT w blk 0 d → blk < w.heap.size → d.size < 4611686018427387904 → _ := fun blk cap d w hH hb hd =>
    Any.slices_SortFunc_total Tryd.sortL encT (fun _ => rfl) cfT swoT 108 #[] blk 0 cap d w eg (sortedLays blk 0 d.size w) hH hb hd totT
  change ∀ (blk cap : Nat) (d : Array Txt) (w : World), Holds encT w blk 0 d → blk < w.heap.size → d.size < 4611686018427387904 → Calls Tryd.prog 107 _ _ _ at hS
  have HS := Aside0.mk hS
  have HL := Aside0.mk hl
  have HC := Aside0.mk hc
  clear hS eg hl hc hs h0
  rw [List.length_map] at HL HC ⊢
  go_enter Tryd.func82, Tryd.ntmps82
  go_wp2_with fail
  refine (Tryd.slices_Clone_string b off d.length c (d.map (·.1)) w (by simp) (by have := HL.out; omega) (by rw [List.length_map]; exact HC.out)).mono ?_
  rintro e w1 ⟨v, rfl, ho, hne, hb⟩
  have ho' : w1.ownsRow w.heap.size 9 1 v d.length (d.map encT) := by
    have e1 : ((d.map (·.1)).take d.length).map Value.string = d.map encT := by
      rw [List.take_of_length_le (by simp), List.map_map]; rfl
    rwa [e1] at ho
  rcases ho'.2 with ⟨e1, _⟩ | ⟨g, cap, cur, rfl, hbase, hbk, h1, h2, h3, h4⟩
  · exact absurd e1 hne
  have HH : Aside0 (Holds encT w1 g 0 d.toArray) := ⟨holds_of_blockG hbk (by simpa using h4)⟩
  have HB := Aside0.mk (And.intro hb (And.intro hbk (And.intro hbase (And.intro h1 (And.intro h2 h3)))))
  clear ho ho' hne hb hbk hbase h1 h2 h3 h4
  go_wp2_with fail
  refine (HS.out g cap d.toArray w1 HH.out (Array.getElem?_eq_some_iff.1 HB.out.2.1).1 (by have := HL.out; simp; omega)).mono ?_
  rintro e w2 ⟨rfl, n, os, rfl⟩
  obtain ⟨hb, hbk, hbase, h1, h2, h3⟩ := HB.out
  obtain ⟨ts, hts⟩ : ∃ ts : List Txt, ts = d.mergeSort fun x y => !(ltOf cfT) y x := ⟨_, rfl⟩
  have hln : ts.length = d.length := by rw [hts]; simp
  have hpw : ts.Pairwise fun x y => ltF y.1 x.1 = false := by rw [hts]; exact sortT d
  have hmem : ∀ x, x ∈ ts ↔ x ∈ d := fun x => by rw [hts]; exact List.mem_mergeSort
  have hbk2 : (sortWorld encT w1 g 0 n (d.mergeSort fun x y => !(ltOf cfT) y x).toArray os).heap[g]? = some (.cells (putCells encT 0 ts.toArray cur) 9 (0, 0)) := by
    rw [← hts]; exact heap_sortedG _ hbk
  have hgb : w1.grownBy (sortWorld encT w1 g 0 n (d.mergeSort fun x y => !(ltOf cfT) y x).toArray os) (some g) := grownBy_sortedG _
  have e0 : (#[] : Array Txt).toList = [] := rfl
  rw [show (d.toArray.toList.mergeSort fun x y => !(ltOf cfT) y x) = d.mergeSort fun x y => !(ltOf cfT) y x from rfl]
  generalize sortWorld encT w1 g 0 n (d.mergeSort fun x y => !(ltOf cfT) y x).toArray os = w2 at *
  have hb2 : Below w.heap.size w w2 := hb.grown hgb hb.size (fun k hk => by cases hk; exact hbase)
  obtain ⟨zs, hzs⟩ : ∃ zs : List (List UInt8), zs = ts.map fun x => x.1.data.toList := ⟨_, rfl⟩
  have hzl : zs.length = d.length := by rw [hzs]; simp [hln]
  have hbs : ∀ x : Txt, bs x.1.data.toList = x.1 := fun x => by unfold bs; simp
  have henc : ts.map encT = zs.map encStr := by
    rw [hzs, List.map_map]
    refine List.map_congr_left fun x _ => ?_
    show Value.string x.1 = Value.string (bs x.1.data.toList)
    rw [hbs]
  have hH2 : Holds encStr w2 g 0 zs.toArray := by
    refine holds_of_blockG hbk2 ?_
    rw [hzl, ← hln, take_putCellsG _ _ (by rw [hln, h3]; omega), henc]
  have hzp : zs.Pairwise fun x y => ltF (bs y) (bs x) = false := by
    rw [hzs, List.pairwise_map]
    exact hpw.imp fun {x y} h => by rw [hbs, hbs]; exact h
  obtain ⟨hr, hm⟩ := compact_rises zs hzp
  have hcl : (Lib.compact zs).length ≤ zs.length := by
    unfold Lib.compact compactUpTo
    rw [List.length_map]
    exact Nat.le_trans (List.length_filter_le _ _) (by simp)
  have HC2 := Aside0.mk (And.intro hH2 (And.intro hbk2 (And.intro hb2 (And.intro hr (And.intro hm (And.intro hcl hzl))))))
  have HM := Aside0.mk (And.intro hmem hzs)
  clear hH2 hbk2 hb2 hr hm hcl hzp henc hb hbk hbase hpw hln hts hmem hgb hbs e0 hzs h3 HH HS HC
  go_wp2_with fail
  rw [show (.slice (some ⟨g, 0, none⟩) d.length cap : Value) = .slice (some ⟨g, 0, none⟩) zs.length cap by rw [HC2.out.2.2.2.2.2.2]]
  refine (Tryd.slices_Compact_string g 0 cap zs w2 HC2.out.1 (by have := HC2.out.2.2.2.2.2.2; have := HL.out; omega) (by have := HC2.out.2.2.2.2.2.2; omega)).mono ?_
  rintro e w3 ⟨rfl, q, rfl⟩
  obtain ⟨hH2, hbk2, hb2, hr, hm, hcl, hzl⟩ := HC2.out
  obtain ⟨hb, hbk, hbase, h1, h2, h3⟩ := HB.out
  have HR : Aside0 (SortedOf w (d.map (·.1)) (.returned (.slice (some ⟨g, 0, none⟩) (Lib.compact zs).length cap)) (putRow encStr (Sort.ahead w2 q) g 0 (Lib.compact zs ++ List.replicate (zs.length - (Lib.compact zs).length) []).toArray)) := by
    refine ⟨⟨_, (Lib.compact zs).map bs, rfl, R_strs ?_, hr, fun s => ?_, ?_⟩⟩
    · have hbk3 := heap_sortedG (enc := encStr) (n := q) (os := #[]) (Lib.compact zs ++ List.replicate (zs.length - (Lib.compact zs).length) []).toArray hbk2
      rw [grow_empty] at hbk3
      refine ⟨by simp, .inr ⟨g, cap, _, by simp, hbase, hbk3, by simp; omega, h2, by simp [putCells, h3], ?_⟩⟩
      have h5 := take_putCellsG (enc := encStr) (putCells encT 0 ts.toArray cur) (Lib.compact zs ++ List.replicate (zs.length - (Lib.compact zs).length) []) (by simp [putCells]; omega)
      have h6 := congrArg (List.take (Lib.compact zs).length) h5
      rw [List.take_take, ← List.map_take, List.take_left, List.length_append, Nat.min_eq_left (by omega)] at h6
      rw [Nat.mul_one, List.length_map, h6, List.map_map]
      rfl
    · rw [List.mem_map]
      constructor
      · rintro ⟨x, hx, rfl⟩
        rw [hm, HM.out.2] at hx
        obtain ⟨t, ht, rfl⟩ := List.mem_map.1 hx
        exact List.mem_map.2 ⟨t, (HM.out.1 t).1 ht, by unfold bs; simp⟩
      · intro hs
        obtain ⟨t, ht, rfl⟩ := List.mem_map.1 hs
        exact ⟨t.1.data.toList, by rw [hm, HM.out.2]; exact List.mem_map.2 ⟨t, (HM.out.1 t).2 ht, rfl⟩, by unfold bs; simp⟩
    · have hg2 := grownBy_sortedG (enc := encStr) (w := w2) (g := g) (n := q) (os := #[]) (Lib.compact zs ++ List.replicate (zs.length - (Lib.compact zs).length) []).toArray
      rw [grow_empty] at hg2
      exact hb2.grown hg2 hb2.size (fun k hk => by cases hk; exact hbase)
  generalize putRow encStr (Sort.ahead w2 q) g 0 (Lib.compact zs ++ List.replicate (zs.length - (Lib.compact zs).length) []).toArray = w3 at *
  clear HC2 HM HB HL hH2 hbk2 hb2 hr hm hcl hzl hb hbk hbase h1 h2 h3
  go_wp2_with fail
  go_ret
  exact HR.out

set_option maxHeartbeats 1000000 in
theorem sorted_any (A : Option Addr) (c : Nat) (l : List ByteArray) (w : World) (hC : Kd.string.C w A l.length l) (hl : l.length ≤ 1000000000) (hs : ∀ s, s ∈ l → s.size ≤ 1000000000) :
    Calls Tryd.prog 82 #[.slice A l.length c] w (SortedOf w l) := by
  cases l with
  | nil => exact sorted_zero A c w
  | cons s0 l =>
    obtain ⟨ad, rfl, hr⟩ := hC.2.2 (by simp)
    have hcell : ∀ j, j < (s0 :: l).length → w.cell? (ad.add j) = some (.string ((s0 :: l).getD j ByteArray.empty)) := fun j hj => by
      obtain ⟨cs, _, h2, h3⟩ := hr j _ (List.getElem?_eq_getElem hj)
      have h4 := h3 0 (.string (s0 :: l)[j]) (by rw [show cs = [_] from h2]; rfl)
      rw [show j * Kd.string.sz + 0 = j by show j * 1 + 0 = j; omega] at h4
      rw [h4, List.getD_eq_getElem?_getD, List.getElem?_eq_getElem hj]
      rfl
    obtain ⟨b, off, sp⟩ := ad
    cases sp with
    | some x =>
      have := hcell 0 (by simp)
      simp [World.cell?, Addr.add] at this
      split at this <;> cases this
    | none =>
      refine sorted_some b off c (s0 :: l) w (by simp) hl hs fun j hj => ?_
      have h := hcell j hj
      have e : (⟨b, off, none⟩ : Addr).add j = ⟨b, off + j, none⟩ := by unfold Addr.add; by_cases h0 : j = 0 <;> simp [h0]
      rwa [e] at h
end Go.Proofs.YtmionoghpjpbaaaDoor
