/-
  The package shelf: what New, Apply, Get, Len and Top do.
-/
import Derived.Test.YtmionoghpjpbaaaDoorAtom
namespace Go.Proofs.YtmionoghpjpbaaaDoor
open Go.RowKit Go.Proofs.YtmionoghpjpbaaaDoorW.PrintWords Go.Proofs.YtmionoghpjpbaaaDoorW.PrintLast Go.Proofs.YtmionoghpjpbaaaDoorW.PrintMore
open Go.Proofs.YtmionoghpjpbaaaDoorM
set_option linter.unusedVariables false
set_option linter.unusedSimpArgs false

theorem zeroCell (w : World) : (zeroValue 57).run Tryd.prog w = .ok (eCell.enc zCell) w := by kernel_rfl

/-- A shelf lies in block g, its entries in block b. -/
def ShelfIs (w : World) (g b n : Nat) (f : ByteArray → Option Cell) : Prop :=
  w.heap[g]? = some (.cells #[.map (some b)] 143 (0, 0)) ∧ MapIs Tryd.prog 9 eCell w b n f

theorem ShelfIs.cell {w : World} {g b n : Nat} {f : ByteArray → Option Cell} (h : ShelfIs w g b n f) : w.cell? ⟨g, 0, none⟩ = some (.map (some b)) := by
  simp [World.cell?, h.1]
theorem ShelfIs.ne {w : World} {g b n : Nat} {f : ByteArray → Option Cell} (h : ShelfIs w g b n f) : g ≠ b := by
  rintro rfl
  obtain ⟨D, ⟨es, clock, hb, _⟩, _⟩ := h.2
  rw [h.1] at hb
  cases hb
theorem ShelfIs.lt {w : World} {g b n : Nat} {f : ByteArray → Option Cell} (h : ShelfIs w g b n f) : g < w.heap.size := (Array.getElem?_eq_some_iff.1 h.1).1
theorem ShelfIs.kept {w w' : World} {g b n : Nat} {f : ByteArray → Option Cell} (h : ShelfIs w g b n f) {row : Option Nat} (hg : w.grownBy w' row) (h1 : some g ≠ row) (h2 : some b ≠ row) : ShelfIs w' g b n f :=
  ⟨(hg.block g h.lt h1).trans h.1, h.2.kept hg h2⟩
theorem ShelfIs.below {w w' : World} {g b n : Nat} {f : ByteArray → Option Cell} (h : ShelfIs w g b n f) (hb : Below w.heap.size w w') : ShelfIs w' g b n f :=
  ⟨(hb.block g h.lt).trans h.1, h.2.below hb⟩
theorem ShelfIs.alloc {w : World} {g b n : Nat} {f : ByteArray → Option Cell} (h : ShelfIs w g b n f) (o : Obj) : ShelfIs (w.alloc o) g b n f := h.below (below_alloc (Below.refl _ _) o)
theorem ShelfIs.drew {w : World} {g b n : Nat} {f : ByteArray → Option Cell} (h : ShelfIs w g b n f) : ShelfIs w.drew g b n f := h
theorem ShelfIs.step {w w' : World} {g b n n' : Nat} {f f' : ByteArray → Option Cell} (h : ShelfIs w g b n f) (hg : w.grownBy w' (some b)) (hm : MapIs Tryd.prog 9 eCell w' b n' f') : ShelfIs w' g b n' f' :=
  ⟨(hg.block g h.lt (by simpa using h.ne)).trans h.1, hm⟩

theorem shelfNew_any (w : World) : Calls Tryd.prog 44 #[] w fun e w' =>
    e = .returned (.pointer (some ⟨w.heap.size + 1, 0, none⟩)) ∧ w' = (w.alloc (.map #[] 0)).alloc (.cells #[.map (some w.heap.size)] 143) := by
  have hmm := @run_makeMap Tryd.prog
  go_enter Tryd.func44, Tryd.ntmps44
  go_wp2
  go_ret
  exact ⟨rfl, rfl⟩
theorem shelfNew_is (w : World) : ShelfIs ((w.alloc (.map #[] 0)).alloc (.cells #[.map (some w.heap.size)] 143)) (w.heap.size + 1) w.heap.size 0 (fun _ => none) :=
  ⟨by simpa using heap_alloc_new (w.alloc (.map #[] 0)) _, (MapIs.made _ _ _ w).alloc _⟩

def lay1 (seq from_ : Int) (s : (ByteArray → Option Cell) × Nat) (x : Write) : (ByteArray → Option Cell) × Nat :=
  if x.f1 then (del s.1 x.f0, delN s.1 x.f0 s.2) else (put s.1 x.f0 ⟨x.f0, seq, from_⟩, putN s.1 x.f0 s.2)
def lays (seq from_ : Int) (s : (ByteArray → Option Cell) × Nat) (l : List Write) : (ByteArray → Option Cell) × Nat := l.foldl (lay1 seq from_) s
theorem lay1_le (seq from_ : Int) (s : (ByteArray → Option Cell) × Nat) (x : Write) : (lay1 seq from_ s x).2 ≤ s.2 + 1 := by
  unfold lay1 delN putN
  split <;> split <;> simp <;> omega
theorem lays_le (seq from_ : Int) (s : (ByteArray → Option Cell) × Nat) (l : List Write) : (lays seq from_ s l).2 ≤ s.2 + l.length := by
  induction l generalizing s with
  | nil => exact Nat.le_refl _
  | cons x r ih =>
    have := ih (lay1 seq from_ s x)
    have := lay1_le seq from_ s x
    show (lays seq from_ (lay1 seq from_ s x) r).2 ≤ _
    simp only [List.length_cons]
    omega
theorem lays_snoc (seq from_ : Int) (s : (ByteArray → Option Cell) × Nat) (l : List Write) (i : Nat) (h : i < l.length) : lays seq from_ s (l.take (i + 1)) = lay1 seq from_ (lays seq from_ s (l.take i)) l[i] := by
  unfold lays
  rw [List.take_succ_eq_append_getElem h, List.foldl_append]
  rfl

theorem apply_step {w wr w2 : World} {g b n : Nat} {f : ByteArray → Option Cell} {seq from_ : Int} {l : List Write} {x : Int} (p : 0 ≤ x) (hlt : x.toNat < l.length)
    (hA : ShelfIs wr g b (lays seq from_ (f, n) (l.take x.toNat)).2 (lays seq from_ (f, n) (l.take x.toNat)).1) (hG : w.grownBy wr (some b)) {y : Write} (hy : y = l[x.toNat]) (hg : wr.grownBy w2 (some b))
    (hm : MapIs Tryd.prog 9 eCell w2 b (lay1 seq from_ (lays seq from_ (f, n) (l.take x.toNat)) y).2 (lay1 seq from_ (lays seq from_ (f, n) (l.take x.toNat)) y).1) :
    ShelfIs w2 g b (lays seq from_ (f, n) (l.take (x + 1).toNat)).2 (lays seq from_ (f, n) (l.take (x + 1).toNat)).1 ∧ w.grownBy w2 (some b) := by
  have e : (x + 1).toNat = x.toNat + 1 := by omega
  rw [e, lays_snoc seq from_ (f, n) l x.toNat hlt, ← hy]
  exact ⟨hA.step hg hm, hG.trans hg⟩

/-- The parameter's box. -/
def groupBox (seq prev from_ : Int) (v : Value) : Obj := .cells #[.int .u32 seq, .int .u32 prev, .int .u32 from_, v] 74

set_option maxHeartbeats 1000000 in
set_option maxRecDepth 100000 in
/-- Apply: the writes, one behind the other; nothing else that was there turns. -/
theorem shelfApply_any (w : World) (g b n : Nat) (f : ByteArray → Option Cell) (seq prev from_ : Int) (A : Option Addr) (c : Nat) (l : List Write) (hC : Kd.C kWrite w A l.length l) (h : ShelfIs w g b n f)
    (hn : n + l.length < maxLen) (hs : ∀ x ∈ l, x.f0.size ≤ maxLen) :
    Calls Tryd.prog 45 #[.pointer (some ⟨g, 0, none⟩), .agg #[.int .u32 seq, .int .u32 prev, .int .u32 from_, .slice A l.length c]] w fun e w' =>
      e = .returned (.tuple #[]) ∧ ShelfIs w' g b (lays seq from_ (f, n) l).2 (lays seq from_ (f, n) l).1 ∧ w.grownBy w' (some b) := by
  have hcell := h.cell
  have hgl := h.lt
  have h0 := h.alloc (groupBox seq prev from_ (.slice A l.length c))
  have H := Aside0.mk h0
  have HC : Aside0 (Kd.C kWrite (w.alloc (groupBox seq prev from_ (.slice A l.length c))) A l.length l) := ⟨Kd.C_alloc hC _⟩
  have HN := Aside0.mk hn
  have HS := Aside0.mk hs
  have hml := hC.2.1
  clear h hC hn hs h0
  have hnil := fun (w : World) (r : Option Nat) => run_eql_map_nil w _ _ _ r Tryd.underlying141
  go_enter Tryd.func45, Tryd.ntmps45
  go_wp2
  go_loopg [20] l.length (fun kq v20 w' => ∃ x : Int, v20 = .int .i64 x ∧ Aside0 (0 ≤ x ∧ x.toNat + kq = l.length) ∧ Aside0 (ShelfIs w' g b (lays seq from_ (f, n) (l.take x.toNat)).2 (lays seq from_ (f, n) (l.take x.toNat)).1) ∧ Aside0 ((w.alloc (groupBox seq prev from_ (.slice A l.length c))).grownBy w' (some b)))
  case atStart => exact ⟨0, rfl, ⟨by simp⟩, ⟨H.out⟩, ⟨World.grownBy.refl _ _⟩⟩
  case round =>
    obtain ⟨x, rfl, HK, HA, HG⟩ := hrel
    have p := HK.out.1
    by_cases q : x < (l.length : Int)
    · obtain ⟨k1, rfl⟩ : ∃ k1, gk = k1 + 1 := ⟨gk - 1, by have := HK.out.2; omega⟩
      obtain ⟨ad, e, c0, c1, c2⟩ := atWrite HC.out x p q
      cases e
      replace c0 := MapIs_cell H.out.2 HG.out c0
      replace c1 := MapIs_cell H.out.2 HG.out c1
      replace c2 := MapIs_cell H.out.2 HG.out c2
      have b0 : wr.cell? ⟨w.heap.size, 0, none⟩ = some (.int .u32 seq) := MapIs_cell H.out.2 HG.out (World.cell?_alloc_new (w := w) _ _ 0)
      have b2 : wr.cell? ⟨w.heap.size, 2, none⟩ = some (.int .u32 from_) := MapIs_cell H.out.2 HG.out (World.cell?_alloc_new (w := w) _ _ 2)
      have bl : w.heap.size < wr.heap.size := World.block_lt_of_cell? _ _ b0
      replace hcell := HA.out.cell
      replace hgl := HA.out.lt
      have hlt : x.toNat < l.length := by omega
      have HX : Aside0 (rdWrite l x = l[x.toNat]'hlt) := ⟨rdWrite_get _⟩
      generalize rdWrite l x = y at *
      have hsm : Aside0 (y.f0.size ≤ maxLen) := ⟨by rw [HX.out]; exact HS.out _ (List.getElem_mem _)⟩
      have hnn : Aside0 ((lays seq from_ (f, n) (l.take x.toNat)).2 < maxLen) := ⟨by
        have := lays_le seq from_ (f, n) (l.take x.toNat)
        have := HN.out
        simp only [List.length_take] at *
        omega⟩
      cases hd : y.f1
      · rw [hd] at c1
        have HD := Aside0.mk hd
        clear hd
        go_wp2
        refine region_tail 13 (by kernel_rfl) (by kernel_rfl) ?_
        simp only [List.take_succ_cons, List.take_zero, List.drop_succ_cons, List.drop_zero]
        repeat still_step
        refine wpStill_nil ?_
        refine wp_store _ rfl (.tmp 35) (.tmp 37) (.tmp 44) 141 rfl eCell keyedS Tryd.underlying9 Tryd.underlying141 b _ _ rfl (HA.out.2.alloc _).drew hnn.out y.f0 rfl hsm.out ⟨y.f0, seq, from_⟩ rfl ?_
        intro w2 hm2 hg2 _
        have hh := Aside0.mk (apply_step p hlt HA.out HG.out HX.out (grown_alloc (grown_drew hg2)) (by rw [lay1, HD.out]; exact hm2))
        clear hm2 hg2
        go_wp2
        go_roundg k1
        case measure => omega
        case rel => exact ⟨x + 1, rfl, ⟨by have := HK.out.2; omega⟩, ⟨hh.out.1⟩, ⟨hh.out.2⟩⟩
      · rw [hd] at c1
        have HD := Aside0.mk hd
        clear hd
        go_wp2
        refine region_tail 6 (by kernel_rfl) (by kernel_rfl) ?_
        simp only [List.take_succ_cons, List.take_zero, List.drop_succ_cons, List.drop_zero]
        repeat still_step
        refine wpStill_nil ?_
        refine wp_drop _ rfl (.tmp 29) (.tmp 31) 141 9 rfl eCell keyedS Tryd.underlying9 Tryd.underlying141 b _ _ rfl (HA.out.2.alloc _).drew y.f0 rfl hsm.out ?_
        intro w2 hm2 hg2 _
        have hh := Aside0.mk (apply_step p hlt HA.out HG.out HX.out (grown_alloc (grown_drew hg2)) (by rw [lay1, HD.out]; exact hm2))
        clear hm2 hg2
        go_wp2
        go_roundg k1
        case measure => omega
        case rel => exact ⟨x + 1, rfl, ⟨by have := HK.out.2; omega⟩, ⟨hh.out.1⟩, ⟨hh.out.2⟩⟩
    · have HE : Aside0 (l.take x.toNat = l) := ⟨List.take_of_length_le (by omega)⟩
      go_wp2
      go_end0
      rw [HE.out] at HA
      exact ⟨rfl, HA.out, grown_alloc HG.out⟩

/-! ### Get, Len -/
set_option maxRecDepth 100000 in
theorem shelfGet_any (w : World) (g b n : Nat) (f : ByteArray → Option Cell) (k : ByteArray) (h : ShelfIs w g b n f) (hk : k.size ≤ maxLen) :
    Calls Tryd.prog 39 #[.pointer (some ⟨g, 0, none⟩), .string k] w fun e w' =>
      e = .returned (.tuple #[eCell.enc ((f k).getD zCell), .bool (f k).isSome]) ∧ Below w.heap.size w w' := by
  have hcell := h.cell
  have hgl := h.lt
  have H := Aside0.mk h
  have HK := Aside0.mk hk
  clear h hk
  obtain ⟨u, HU⟩ : ∃ u, Aside0 ((f k).getD zCell = u) := ⟨_, ⟨rfl⟩⟩
  go_enter Tryd.func39, Tryd.ntmps39
  go_wp2_with (at_lookup; refine wp_look_ok _ rfl (.tmp 15) (.tmp 16) 141 rfl eCell keyedS Tryd.underlying9 Tryd.underlying141 zCell (zeroCell _) b n f rfl (H.out.2.alloc _) k rfl HK.out ?_; rw [HU.out]; show wpList _ _ _ _ (Act.put _ _ (.tuple #[.agg #[.string u.f0, .int .u32 u.f1, .int .u32 u.f2], .bool _])) _)
  rw [HU.out]
  exact bodyPost_ret (v := .tuple #[.agg #[.string u.f0, .int .u32 u.f1, .int .u32 u.f2], .bool (f k).isSome]) (by simp [results, Tryd.results39, go_sem]) rfl ⟨rfl, ((Below.refl _ _).alloc (by simp) _).alloc (by simp) _⟩
theorem shelfGet_nil (w : World) (k : Value) : Calls Tryd.prog 39 #[.pointer none, k] w fun e w' =>
      e = .returned (.tuple #[eCell.enc zCell, .bool false]) ∧ Below w.heap.size w w' := by
  go_enter Tryd.func39, Tryd.ntmps39
  go_wp2
  exact bodyPost_ret (v := .tuple #[.agg #[.string ⟨#[]⟩, .int .u32 0, .int .u32 0], .bool false]) (by simp [results, Tryd.results39, go_sem]) rfl ⟨rfl, (Below.refl _ _).alloc (by simp) _⟩
theorem shelfLen_any (w : World) (g b n : Nat) (f : ByteArray → Option Cell) (h : ShelfIs w g b n f) :
    Calls Tryd.prog 42 #[.pointer (some ⟨g, 0, none⟩)] w fun e w' => e = .returned (.int .i64 n) ∧ w = w' := by
  have hcell := h.cell
  have hlen := fun ty => h.2.len Tryd.underlying141 ty
  clear h
  go_enter Tryd.func42, Tryd.ntmps42
  go_wp2
  go_ret
  exact ⟨rfl, rfl⟩
theorem shelfLen_nil (w : World) : Calls Tryd.prog 42 #[.pointer none] w fun e w' => e = .returned (.int .i64 0) ∧ w = w' := by
  go_enter Tryd.func42, Tryd.ntmps42
  go_wp2
  go_ret
  exact ⟨rfl, rfl⟩

end Go.Proofs.YtmionoghpjpbaaaDoor
