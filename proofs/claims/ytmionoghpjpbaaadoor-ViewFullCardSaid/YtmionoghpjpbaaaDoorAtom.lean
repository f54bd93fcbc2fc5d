/-
  The package atom: what New, Commit, Forget and Get do to a map.
-/
import Derived.Test.YtmionoghpjpbaaaDoorTypes
import Derived.WalkSpells
import Derived.StillTailTactics
import Derived.Outline
namespace Go.Proofs.YtmionoghpjpbaaaDoor
open Go.RowKit Go.Proofs.YtmionoghpjpbaaaDoorW.PrintWords Go.Proofs.YtmionoghpjpbaaaDoorW.PrintLast Go.Proofs.YtmionoghpjpbaaaDoorW.PrintMore
open Go.Proofs.YtmionoghpjpbaaaDoorM
set_option linter.unusedVariables false
set_option linter.unusedSimpArgs false

theorem keyedS : Maps.Keyed Tryd.prog 9 := Maps.Keyed.of_law (WideMaps.string_law Tryd.underlying9)
theorem zeroAnswer (w : World) : (zeroValue 101).run Tryd.prog w = .ok (eAnswer.enc zAnswer) w := by kernel_rfl

/-- A map of package atom lies in block g, its entries in block b. -/
def AtomIs (w : World) (g b n : Nat) (f : ByteArray → Option Answer) : Prop :=
  w.heap[g]? = some (.cells #[.map (some b)] 135 (0, 0)) ∧ MapIs Tryd.prog 9 eAnswer w b n f

theorem AtomIs.cell {w : World} {g b n : Nat} {f : ByteArray → Option Answer} (h : AtomIs w g b n f) : w.cell? ⟨g, 0, none⟩ = some (.map (some b)) := by
  simp [World.cell?, h.1]
theorem AtomIs.ne {w : World} {g b n : Nat} {f : ByteArray → Option Answer} (h : AtomIs w g b n f) : g ≠ b := by
  rintro rfl
  obtain ⟨D, ⟨es, clock, hb, _⟩, _⟩ := h.2
  rw [h.1] at hb
  cases hb
theorem AtomIs.lt {w : World} {g b n : Nat} {f : ByteArray → Option Answer} (h : AtomIs w g b n f) : g < w.heap.size := (Array.getElem?_eq_some_iff.1 h.1).1
theorem AtomIs.kept {w w' : World} {g b n : Nat} {f : ByteArray → Option Answer} (h : AtomIs w g b n f) {row : Option Nat} (hg : w.grownBy w' row) (h1 : some g ≠ row) (h2 : some b ≠ row) : AtomIs w' g b n f :=
  ⟨(hg.block g h.lt h1).trans h.1, h.2.kept hg h2⟩
theorem AtomIs.below {w w' : World} {g b n : Nat} {f : ByteArray → Option Answer} (h : AtomIs w g b n f) (hb : Below w.heap.size w w') : AtomIs w' g b n f :=
  ⟨(hb.block g h.lt).trans h.1, h.2.below hb⟩
theorem AtomIs.alloc {w : World} {g b n : Nat} {f : ByteArray → Option Answer} (h : AtomIs w g b n f) (o : Obj) : AtomIs (w.alloc o) g b n f := h.below (below_alloc (Below.refl _ _) o)
theorem AtomIs.drew {w : World} {g b n : Nat} {f : ByteArray → Option Answer} (h : AtomIs w g b n f) : AtomIs w.drew g b n f := h
/-- The map's entries have been written, nothing else that was there. -/
theorem AtomIs.step {w w' : World} {g b n n' : Nat} {f f' : ByteArray → Option Answer} (h : AtomIs w g b n f) (hg : w.grownBy w' (some b)) (hm : MapIs Tryd.prog 9 eAnswer w' b n' f') : AtomIs w' g b n' f' :=
  ⟨(hg.block g h.lt (by simpa using h.ne)).trans h.1, hm⟩
/-- A cell that is no map's. -/
theorem MapIs_cell {P : Program} {k : TypeId} {α : Type} {E : Elem α} {w w' : World} {b n : Nat} {f : ByteArray → Option α} (h : MapIs P k E w b n f) (hg : w.grownBy w' (some b)) {a : Addr} {v : Value} (hc : w.cell? a = some v) : w'.cell? a = some v := by
  refine hg.cell hc ?_
  intro e
  obtain ⟨D, ⟨es, clock, hb, _⟩, _⟩ := h
  injection e with e
  rw [World.cell?, e, hb] at hc
  simp at hc

theorem atomNew_any (w : World) : Calls Tryd.prog 17 #[] w fun e w' =>
    e = .returned (.pointer (some ⟨w.heap.size + 1, 0, none⟩)) ∧ w' = (w.alloc (.map #[] 0)).alloc (.cells #[.map (some w.heap.size)] 135) := by
  have hmm := @run_makeMap Tryd.prog
  go_enter Tryd.func17, Tryd.ntmps17
  go_wp2
  go_ret
  exact ⟨rfl, rfl⟩

theorem atomNew_is (w : World) : AtomIs ((w.alloc (.map #[] 0)).alloc (.cells #[.map (some w.heap.size)] 135)) (w.heap.size + 1) w.heap.size 0 (fun _ => none) :=
  ⟨by simpa using heap_alloc_new (w.alloc (.map #[] 0)) _, (MapIs.made _ _ _ w).alloc _⟩

/-- What a write does. -/
def put1 (seq : Int) (s : (ByteArray → Option Answer) × Nat) (x : Write) : (ByteArray → Option Answer) × Nat :=
  if x.f1 then (del s.1 x.f0, delN s.1 x.f0 s.2) else (put s.1 x.f0 ⟨x.f0, true, x.f2, seq⟩, putN s.1 x.f0 s.2)
def puts (seq : Int) (s : (ByteArray → Option Answer) × Nat) (l : List Write) : (ByteArray → Option Answer) × Nat := l.foldl (put1 seq) s
theorem put1_le (seq : Int) (s : (ByteArray → Option Answer) × Nat) (x : Write) : (put1 seq s x).2 ≤ s.2 + 1 := by
  unfold put1 delN putN
  split <;> split <;> simp <;> omega
theorem puts_le (seq : Int) (s : (ByteArray → Option Answer) × Nat) (l : List Write) : (puts seq s l).2 ≤ s.2 + l.length := by
  induction l generalizing s with
  | nil => exact Nat.le_refl _
  | cons x r ih =>
    have := ih (put1 seq s x)
    have := put1_le seq s x
    show (puts seq (put1 seq s x) r).2 ≤ _
    simp only [List.length_cons]
    omega
theorem puts_snoc (seq : Int) (s : (ByteArray → Option Answer) × Nat) (l : List Write) (i : Nat) (h : i < l.length) : puts seq s (l.take (i + 1)) = put1 seq (puts seq s (l.take i)) l[i] := by
  unfold puts
  rw [List.take_succ_eq_append_getElem h, List.foldl_append]
  rfl

theorem grown_drew {w w' : World} {row : Option Nat} (h : w.drew.grownBy w' row) : w.grownBy w' row := ⟨h.os, h.tape, h.output, h.size, h.block⟩
theorem grown_alloc {w w' : World} {o : Obj} {row : Option Nat} (h : (w.alloc o).grownBy w' row) : w.grownBy w' row := World.grownBy.trans (World.grownBy_alloc w o row) h

theorem commit_step {w wr w2 : World} {g b n : Nat} {f : ByteArray → Option Answer} {seq : Int} {l : List Write} {x : Int} (p : 0 ≤ x) (hlt : x.toNat < l.length)
    (hA : AtomIs wr g b (puts seq (f, n) (l.take x.toNat)).2 (puts seq (f, n) (l.take x.toNat)).1) (hG : w.grownBy wr (some b)) {y : Write} (hy : y = l[x.toNat]) (hg : wr.grownBy w2 (some b))
    (hm : MapIs Tryd.prog 9 eAnswer w2 b (put1 seq (puts seq (f, n) (l.take x.toNat)) y).2 (put1 seq (puts seq (f, n) (l.take x.toNat)) y).1) :
    AtomIs w2 g b (puts seq (f, n) (l.take (x + 1).toNat)).2 (puts seq (f, n) (l.take (x + 1).toNat)).1 ∧ w.grownBy w2 (some b) := by
  have e : (x + 1).toNat = x.toNat + 1 := by omega
  rw [e, puts_snoc seq (f, n) l x.toNat hlt, ← hy]
  exact ⟨hA.step hg hm, hG.trans hg⟩

set_option maxHeartbeats 1000000 in
set_option maxRecDepth 100000 in
/-- Commit: the writes, one behind the other; nothing else that was there turns. -/
theorem atomCommit_any (w : World) (g b n : Nat) (f : ByteArray → Option Answer) (seq : Int) (A : Option Addr) (c : Nat) (l : List Write) (hC : Kd.C kWrite w A l.length l) (h : AtomIs w g b n f)
    (hn : n + l.length < maxLen) (hs : ∀ x ∈ l, x.f0.size ≤ maxLen) :
    Calls Tryd.prog 27 #[.pointer (some ⟨g, 0, none⟩), .int .u32 seq, .slice A l.length c] w fun e w' =>
      e = .returned (.tuple #[]) ∧ AtomIs w' g b (puts seq (f, n) l).2 (puts seq (f, n) l).1 ∧ w.grownBy w' (some b) := by
  have hcell := h.cell
  have H := Aside0.mk h
  have HC := Aside0.mk hC
  have HN := Aside0.mk hn
  have HS := Aside0.mk hs
  have hml := hC.2.1
  clear h hC hn hs
  have hnil := fun (w : World) (r : Option Nat) => run_eql_map_nil w _ _ _ r Tryd.underlying133
  go_enter Tryd.func27, Tryd.ntmps27
  go_wp2
  go_loopg [21] l.length (fun kq v21 w' => ∃ x : Int, v21 = .int .i64 x ∧ Aside0 (0 ≤ x ∧ x.toNat + kq = l.length) ∧ Aside0 (AtomIs w' g b (puts seq (f, n) (l.take x.toNat)).2 (puts seq (f, n) (l.take x.toNat)).1) ∧ Aside0 (w.grownBy w' (some b)))
  case atStart => exact ⟨0, rfl, ⟨by simp⟩, ⟨by simpa [puts] using H.out⟩, ⟨World.grownBy.refl _ _⟩⟩
  case round =>
    obtain ⟨x, rfl, HK, HA, HG⟩ := hrel
    have p := HK.out.1
    by_cases q : x < (l.length : Int)
    · obtain ⟨k1, rfl⟩ : ∃ k1, gk = k1 + 1 := ⟨gk - 1, by have := HK.out.2; omega⟩
      obtain ⟨ad, e, c0, c1, c2⟩ := atWrite HC.out x p q
      cases e
      replace c0 := MapIs_cell H.out.2 HG.out c0
      replace c1 := MapIs_cell H.out.2 HG.out c1
      replace c2 := MapIs_cell H.out.2 HG.out c2
      replace hcell := HA.out.cell
      have hgl := HA.out.lt
      have hlt : x.toNat < l.length := by omega
      have HX : Aside0 (rdWrite l x = l[x.toNat]'hlt) := ⟨rdWrite_get _⟩
      generalize rdWrite l x = y at *
      have hsm : Aside0 (y.f0.size ≤ maxLen) := ⟨by rw [HX.out]; exact HS.out _ (List.getElem_mem _)⟩
      have hnn : Aside0 ((puts seq (f, n) (l.take x.toNat)).2 < maxLen) := ⟨by
        have := puts_le seq (f, n) (l.take x.toNat)
        have := HN.out
        simp only [List.length_take] at *
        omega⟩
      cases hd : y.f1
      · rw [hd] at c1
        have HD := Aside0.mk hd
        clear hd
        go_wp2
        refine region_tail 12 (by kernel_rfl) (by kernel_rfl) ?_
        simp only [List.take_succ_cons, List.take_zero, List.drop_succ_cons, List.drop_zero]
        repeat still_step
        refine wpStill_nil ?_
        refine wp_store _ rfl (.tmp 36) (.tmp 38) (.tmp 44) 133 rfl eAnswer keyedS Tryd.underlying9 Tryd.underlying133 b _ _ rfl (HA.out.2.alloc _).drew hnn.out y.f0 rfl hsm.out ⟨y.f0, true, y.f2, seq⟩ rfl ?_
        intro w2 hm2 hg2 _
        have hh := Aside0.mk (commit_step p hlt HA.out HG.out HX.out (grown_alloc (grown_drew hg2)) (by rw [put1, HD.out]; exact hm2))
        clear hm2 hg2
        go_wp2
        go_roundg k1
        case measure => omega
        case rel => exact ⟨x + 1, rfl, ⟨by have := HK.out.2; omega⟩, ⟨hh.out.1⟩, ⟨hh.out.2⟩⟩
      · rw [hd] at c1
        have HD := Aside0.mk hd
        clear hd
        go_wp2
        refine region_tail 6 (by kernel_rfl) (by kernel_rfl) ?_
        simp only [List.take_succ_cons, List.take_zero, List.drop_succ_cons, List.drop_zero]
        repeat still_step
        refine wpStill_nil ?_
        refine wp_drop _ rfl (.tmp 30) (.tmp 32) 133 9 rfl eAnswer keyedS Tryd.underlying9 Tryd.underlying133 b _ _ rfl (HA.out.2.alloc _).drew y.f0 rfl hsm.out ?_
        intro w2 hm2 hg2 _
        have hh := Aside0.mk (commit_step p hlt HA.out HG.out HX.out (grown_alloc (grown_drew hg2)) (by rw [put1, HD.out]; exact hm2))
        clear hm2 hg2
        go_wp2
        go_roundg k1
        case measure => omega
        case rel => exact ⟨x + 1, rfl, ⟨by have := HK.out.2; omega⟩, ⟨hh.out.1⟩, ⟨hh.out.2⟩⟩
    · have HE : Aside0 (l.take x.toNat = l) := ⟨List.take_of_length_le (by omega)⟩
      go_wp2
      go_end0
      rw [HE.out] at HA
      exact ⟨rfl, HA.out, HG.out⟩

/-! ### Forget -/
def drops (s : (ByteArray → Option Answer) × Nat) (l : List ByteArray) : (ByteArray → Option Answer) × Nat := l.foldl (fun s x => (del s.1 x, delN s.1 x s.2)) s
theorem drops_snoc (s : (ByteArray → Option Answer) × Nat) (l : List ByteArray) (i : Nat) (h : i < l.length) : drops s (l.take (i + 1)) = (del (drops s (l.take i)).1 l[i], delN (drops s (l.take i)).1 l[i] (drops s (l.take i)).2) := by
  unfold drops
  rw [List.take_succ_eq_append_getElem h, List.foldl_append]
  rfl
theorem drops_le (s : (ByteArray → Option Answer) × Nat) (l : List ByteArray) : (drops s l).2 ≤ s.2 := by
  induction l generalizing s with
  | nil => exact Nat.le_refl _
  | cons x r ih =>
    refine Nat.le_trans (ih (del s.1 x, delN s.1 x s.2)) ?_
    simp only [delN]
    split <;> omega
theorem rdOf_get {l : List ByteArray} {x : Int} (h : x.toNat < l.length) : rdOf ByteArray.empty l x = l[x.toNat] := by
  simp [rdOf, List.getD_eq_getElem?_getD, List.getElem?_eq_getElem h]

set_option maxHeartbeats 1000000 in
set_option maxRecDepth 100000 in
/-- Forget: the keys, one behind the other. -/
theorem atomForget_any (w : World) (g b n : Nat) (f : ByteArray → Option Answer) (A : Option Addr) (c : Nat) (l : List ByteArray) (hC : Kd.C Kd.string w A l.length l) (h : AtomIs w g b n f) (hs : ∀ x ∈ l, x.size ≤ maxLen) :
    Calls Tryd.prog 20 #[.pointer (some ⟨g, 0, none⟩), .slice A l.length c] w fun e w' =>
      e = .returned (.tuple #[]) ∧ AtomIs w' g b (drops (f, n) l).2 (drops (f, n) l).1 ∧ w.grownBy w' (some b) := by
  have hcell := h.cell
  have H := Aside0.mk h
  have HC := Aside0.mk hC
  have HS := Aside0.mk hs
  have hml := hC.2.1
  clear h hC hs
  go_enter Tryd.func20, Tryd.ntmps20
  go_wp2
  go_loopg [10] l.length (fun kq v10 w' => ∃ x : Int, v10 = .int .i64 x ∧ Aside0 (0 ≤ x ∧ x.toNat + kq = l.length) ∧ Aside0 (AtomIs w' g b (drops (f, n) (l.take x.toNat)).2 (drops (f, n) (l.take x.toNat)).1) ∧ Aside0 (w.grownBy w' (some b)))
  case atStart => exact ⟨0, rfl, ⟨by simp⟩, ⟨by simpa [drops] using H.out⟩, ⟨World.grownBy.refl _ _⟩⟩
  case round =>
    obtain ⟨x, rfl, HK, HA, HG⟩ := hrel
    have p := HK.out.1
    by_cases q : x < (l.length : Int)
    · obtain ⟨k1, rfl⟩ : ∃ k1, gk = k1 + 1 := ⟨gk - 1, by have := HK.out.2; omega⟩
      obtain ⟨ad, e, c0⟩ := Kd.at_string HC.out x p q
      cases e
      replace c0 := MapIs_cell H.out.2 HG.out c0
      replace hcell := HA.out.cell
      have hlt : x.toNat < l.length := by omega
      have HX : Aside0 (rdOf ByteArray.empty l x = l[x.toNat]'hlt) := ⟨rdOf_get _⟩
      generalize rdOf ByteArray.empty l x = y at *
      have hsm : Aside0 (y.size ≤ maxLen) := ⟨by rw [HX.out]; exact HS.out _ (List.getElem_mem _)⟩
      go_wp2_with (at_delete; refine wp_drop _ rfl (.tmp 17) (.tmp 18) 133 9 rfl eAnswer keyedS Tryd.underlying9 Tryd.underlying133 b _ _ rfl HA.out.2 y rfl hsm.out ?_; intro w2 hm2 hg2 _)
      have hh : Aside0 (AtomIs w2 g b (drops (f, n) (l.take (x + 1).toNat)).2 (drops (f, n) (l.take (x + 1).toNat)).1 ∧ w.grownBy w2 (some b)) := ⟨by
        have e : (x + 1).toNat = x.toNat + 1 := by omega
        rw [e, drops_snoc (f, n) l x.toNat hlt, ← HX.out]
        exact ⟨HA.out.step hg2 hm2, HG.out.trans hg2⟩⟩
      clear hm2 hg2
      go_roundg k1
      case measure => omega
      case rel => exact ⟨x + 1, rfl, ⟨by have := HK.out.2; omega⟩, ⟨hh.out.1⟩, ⟨hh.out.2⟩⟩
    · have HE : Aside0 (l.take x.toNat = l) := ⟨List.take_of_length_le (by omega)⟩
      go_wp2
      go_end0
      rw [HE.out] at HA
      exact ⟨rfl, HA.out, HG.out⟩

/-! ### Get -/
def getF (f : ByteArray → Option Answer) (k : ByteArray) : Answer := ⟨k, ((f k).getD zAnswer).f1, ((f k).getD zAnswer).f2, ((f k).getD zAnswer).f3⟩

set_option maxHeartbeats 1000000 in
set_option maxRecDepth 100000 in
/-- Get: what the keys have. -/
theorem atomGet_any (w : World) (g b n : Nat) (f : ByteArray → Option Answer) (A : Option Addr) (c : Nat) (l : List ByteArray) (hC : Kd.C Kd.string w A l.length l) (h : AtomIs w g b n f) (hs : ∀ x ∈ l, x.size ≤ maxLen) (hl : l.length ≤ 1000000000) :
    Calls Tryd.prog 24 #[.pointer (some ⟨g, 0, none⟩), .slice A l.length c] w fun e w' =>
      ∃ v, e = .returned v ∧ Kd.R kAnswer 101 w' w.heap.size (fun _ => True) v (l.map (getF f)) ∧ Below w.heap.size w w' := by
  have hcell := h.cell
  have hgl := h.lt
  have H := Aside0.mk h
  have HC := Aside0.mk hC
  have HS := Aside0.mk hs
  have HL := Aside0.mk hl
  have hml := hC.2.1
  clear h hC hs hl
  go_enter Tryd.func24, Tryd.ntmps24
  go_wp2
  go_loopg [5, 13] l.length (fun kq v5 v13 w' => ∃ x : Int, v13 = .int .i64 x ∧ Aside0 (0 ≤ x ∧ x.toNat + kq = l.length) ∧ Aside0 (Kd.R kAnswer 101 w' w.heap.size (fun _ => True) v5 ((l.take x.toNat).map (getF f))) ∧ Aside0 (Below w.heap.size w w'))
  case atStart => exact ⟨0, rfl, ⟨by simp⟩, ⟨by simpa using Kd.R_nil _ _ _ _ _⟩, ⟨Below.refl _ _⟩⟩
  case round =>
    obtain ⟨x, rfl, HK, HR, HB⟩ := hrel
    have p := HK.out.1
    by_cases q : x < (l.length : Int)
    · obtain ⟨k1, rfl⟩ : ∃ k1, gk = k1 + 1 := ⟨gk - 1, by have := HK.out.2; omega⟩
      obtain ⟨ad, e, c0⟩ := Kd.at_string HC.out x p q
      cases e
      replace c0 := pw_cell_below HB.out c0
      replace hcell := (HB.out.cell (p := ⟨g, 0, none⟩) hgl).trans hcell
      have hgw : g < wr.heap.size := Nat.lt_of_lt_of_le hgl HB.out.size
      have hlt : x.toNat < l.length := by omega
      have HX : Aside0 (rdOf ByteArray.empty l x = l[x.toNat]'hlt) := ⟨rdOf_get _⟩
      generalize rdOf ByteArray.empty l x = y at *
      have hsm : Aside0 (y.size ≤ maxLen) := ⟨by rw [HX.out]; exact HS.out _ (List.getElem_mem _)⟩
      have hMl : Aside0 ((l.take x.toNat).length ≤ 1000000000) := ⟨by rw [List.length_take]; have := HL.out; omega⟩
      obtain ⟨u, HU⟩ : ∃ u, Aside0 ((f y).getD zAnswer = u) := ⟨_, ⟨rfl⟩⟩
      go_wp2_with (first | (at_lookup; refine wp_look _ rfl (.tmp 20) (.tmp 21) 133 rfl eAnswer keyedS Tryd.underlying9 Tryd.underlying133 zAnswer (zeroAnswer _) b n f rfl (H.out.2.below HB.out) y rfl hsm.out ?_; rw [HU.out]; show wpList _ _ _ _ (Act.put _ _ (.agg #[.string u.f0, .bool u.f1, .string u.f2, .int .u32 u.f3])) _) | (at_builtin; refine appAnswer (w0 := w) w.heap.size rfl (.tmp 25) (.tmp 27) (wr.heap.size + 1) rfl u5 ((l.take x.toNat).map (getF f)) ⟨y, u.f1, u.f2, u.f3⟩ rfl rfl ?aX ?aO ?aB ?aS ?aL ?_; (case aX => simp); (case aO => exact Kd.R_alloc HR.out _); (case aB => exact below_alloc HB.out _); (case aS => exact below_size (below_alloc HB.out _)); (case aL => rw [List.length_map]; exact hMl.out); intro v1 w5 ho hb hg hat; have HR1 := Aside0.mk ho; have HB1 := Aside0.mk hb; clear ho hb hg hat))
      have hh : Aside0 (Kd.R kAnswer 101 w5 w.heap.size (fun _ => True) v1 ((l.take (x + 1).toNat).map (getF f))) := ⟨by
        have e : (x + 1).toNat = x.toNat + 1 := by omega
        rw [e, List.take_succ_eq_append_getElem hlt, List.map_append, List.map_cons, List.map_nil, ← HX.out, getF, HU.out]
        exact HR1.out⟩
      go_roundg k1
      case measure => omega
      case rel => exact ⟨x + 1, rfl, ⟨by have := HK.out.2; omega⟩, hh, HB1⟩
    · have HE : Aside0 (l.take x.toNat = l) := ⟨List.take_of_length_le (by omega)⟩
      go_wp2
      go_ret
      rw [HE.out] at HR
      exact ⟨_, rfl, HR.out, HB.out⟩

/-! ### a map that is none -/
theorem atomCommit_nil (w : World) (seq : Int) (v : Value) : Calls Tryd.prog 27 #[.pointer none, .int .u32 seq, v] w fun e w' => e = .returned (.tuple #[]) ∧ w = w' := by
  go_enter Tryd.func27, Tryd.ntmps27
  go_wp2
  exact bodyPost_ret (v := .tuple #[]) (by simp [results, Tryd.results27, go_sem]) rfl ⟨rfl, rfl⟩
theorem atomForget_nil (w : World) (v : Value) : Calls Tryd.prog 20 #[.pointer none, v] w fun e w' => e = .returned (.tuple #[]) ∧ w = w' := by
  go_enter Tryd.func20, Tryd.ntmps20
  go_wp2
  go_end0
  exact ⟨rfl, rfl⟩
theorem atomKeys_nil (w : World) : Calls Tryd.prog 30 #[.pointer none] w fun e w' => e = .returned (.slice none 0 0) ∧ w = w' := by
  go_enter Tryd.func30, Tryd.ntmps30
  go_wp2
  go_ret
  exact ⟨rfl, rfl⟩

end Go.Proofs.YtmionoghpjpbaaaDoor
