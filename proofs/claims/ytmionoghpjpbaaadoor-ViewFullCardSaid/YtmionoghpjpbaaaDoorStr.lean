/-
  Ranging over a string while other blocks are written; how many draws there have been; a world that has only grown. No program in sight.
-/
import Derived.Test.YtmionoghpjpbaaaDoorWMore
import Derived.Test.YtmionoghpjpbaaaDoorMap
import Derived.Laws.RangeAny
import Derived.Lib.RuneCount
import Derived.Lib.Bytealg
import Derived.Sort.Grow
import Derived.Maps.AppendAt
namespace Go.Proofs.YtmionoghpjpbaaaDoorM
open Go.RowKit Go.ChangeMaps
open Go.Sort (grow)
open Go.Proofs.YtmionoghpjpbaaaDoorW.PrintWords

/-! ### the step of a range over a string -/
section
variable {P : Program} (w : World) {ops : Array Oper} {rest : List Oper} {o : Oper} {a : Act} {Q : Exit → Act → World → Prop}

theorem wp_nextS (hg : o.guard = none) (it : Operand) (hop : o.op = Op.next it true) (r : Nat) (s : ByteArray) (pos : Nat) (hit : a.eval it = .pointer (some ⟨r, 0, none⟩)) (hb : w.heap[r]? = some (.stringIter s pos))
    (hDone : ¬ pos < s.size → wpList P ops Q rest (a.put o.dst (.tuple #[.bool false])) w)
    (hMore : pos < s.size → ∀ w', w'.heap[r]? = some (.stringIter s (pos + (Utf8.decode s pos).2)) → w.grownBy w' (some r) → w'.heap.size = w.heap.size → w'.drawn = w.drawn →
      wpList P ops Q rest (a.put o.dst (.tuple #[.bool true, .int .i64 pos, .int .i32 (Utf8.decode s pos).1])) w') :
    wpList P ops Q (o :: rest) a w := by
  refine wpList_plain hg fun K' hK' => ?_
  unfold Oper.wp
  by_cases h : pos < s.size
  · have hrun : (Instr.next (.pointer (some ⟨r, 0, none⟩)) true o.type).run P w = .ok (.tuple #[.bool true, .int .i64 pos, .int .i32 (Utf8.decode s pos).1]) (setBlock w r (.stringIter s (pos + (Utf8.decode s pos).2))) := by
      simp only [Instr.next, getObj, setObj, Sem.run_bind, Sem.run, hb, Result.andThen, h, if_true]
      simp [goInt, setBlock]
    simp [execOp, hop, hit, hrun, Result.andThen]
    exact hK' _ _ (hMore h _ (Array.getElem?_setIfInBounds_self_of_lt (Array.getElem?_eq_some_iff.1 hb).1) ⟨rfl, rfl, rfl, by simp [setBlock], fun i _ hi => Array.getElem?_setIfInBounds_ne (fun e => hi (by rw [e]))⟩ (by simp [setBlock]) rfl)
  · have hrun : (Instr.next (.pointer (some ⟨r, 0, none⟩)) true o.type).run P w = .ok (.tuple #[.bool false]) w := by
      simp [Instr.next, getObj, Sem.run, hb, h]
    simp [execOp, hop, hit, hrun, Result.andThen]
    exact hK' _ _ (hDone h)

/-- append of one number, and no draw is taken back. -/
theorem app_num_drawn {w0 W : World} (base : Nat) (hgd : o.guard = none) (s x : Operand) (B : Nat) (t e : TypeId) (k : IntKind) (bytes : Nat)
    (ho : o.op = .call { callee := .builtin .append, args := #[s, x], argTypes := #[t, t] })
    (ht : P.underlying t = some (.slice e)) (hinfo : (P.info? e).map (fun i => (i.zero, i.size, i.bytes)) = some (some (.int k 0), 1, bytes)) (hb0 : 0 < bytes)
    (v : Value) (xs : List Int) (y : Int) (hs : a.eval s = v) (hx : a.eval x = .slice (some ⟨B, 0, none⟩) 1 1) (hB : B = W.heap.size)
    (HO : W.ownsRow base e 1 v xs.length (nums k xs)) (HB : Below base w0 W) (hbase : base ≤ W.heap.size) (hl : (xs.length + 1) * bytes ≤ 140737488355328)
    (h : ∀ v1 w1, w1.ownsRow base e 1 v1 (xs ++ [y]).length (nums k (xs ++ [y])) → Below base w0 w1 → W.grownBy w1 v.ownBlock → W.drawn ≤ w1.drawn → wpList P ops Q rest (a.put o.dst v1) w1) :
    wpList P ops Q (o :: rest) a (W.alloc (.cells #[.int k y] e)) := by
  subst hB
  refine wpList_plain hgd fun K hK => ?_
  obtain ⟨i0, hi, hzz⟩ := Option.map_eq_some_iff.1 hinfo
  simp only [Prod.mk.injEq] at hzz
  obtain ⟨hz0, hz1, hz2⟩ := hzz
  have hlen : xs.length + 1 ≤ 140737488355328 := Nat.le_trans (Nat.le_mul_of_pos_right _ hb0) hl
  have hby : bytes ≤ 140737488355328 := Nat.le_trans (Nat.le_mul_of_pos_left _ (Nat.succ_pos _)) hl
  obtain ⟨W', hW'⟩ : ∃ W', W' = W.alloc (.cells #[.int k y] e) := ⟨_, rfl⟩
  have hnews : ∀ j u, ([.int k y] : List Value)[j]? = some u → W'.cell? ((⟨W.heap.size, 0, none⟩ : Addr).add j) = some u := by
    rw [hW']
    exact World.news_of_block (cs := #[.int k y]) (t := e) (fr := (0, 0)) (heap_alloc_new W _)
  have HO' : W'.ownsRow base e 1 v xs.length (nums k xs) := by rw [hW']; exact HO.alloc _
  have h1 : ∀ u ∈ ([.int k y] : List Value), u.oneCell' = true := by intro u hu; simp at hu; rw [hu]; rfl
  have hl1 : ([.int k y] : List Value).length = 1 * i0.size := by rw [hz1]; rfl
  obtain ⟨v1, w1, hr, hown, hg, _, hat⟩ := run_append_own_at (P := P) W' base t o.type e i0 (.int k 0) 1 bytes ht hi hz0 hz1 hz2 rfl (by omega) v xs.length (nums k xs) HO' ⟨W.heap.size, 0, none⟩ 1 1 [.int k y] rfl hnews h1
    (by simp only [maxLen]; omega) hl (by rw [hW']; simp; omega)
  have hd : W'.drawn ≤ w1.drawn := by
    rcases HO'.2 with ⟨rfl, h0⟩ | ⟨g, cap, cur, rfl, _, hgg, hnc, _, hcs, _⟩
    · have hr2 := run_append_nil (P := P) W' t o.type e i0 (.int k 0) ht hi hz0 ⟨W.heap.size, 0, none⟩ 1 1 [.int k y] hl1 hnews (by omega) (by omega) (by rw [hz2]; omega)
      rw [hr] at hr2
      injection hr2 with _ e2
      rw [e2]
      exact Nat.le_succ _
    · by_cases hroom : xs.length + 1 ≤ cap
      · have hfit : xs.length * i0.size + ([.int k y] : List Value).length ≤ cur.size := by
          rw [hz1, hcs]
          simp
          omega
        have hr2 := run_append_room (P := P) W' t o.type e i0 ht hi g xs.length cap cur hgg ⟨W.heap.size, 0, none⟩ 1 1 [.int k y] hl1 hnews h1 hroom hfit
        rw [hr] at hr2
        injection hr2 with _ e2
        rw [e2]
        exact Nat.le_refl _
      · have holds : ∀ j u, (nums k xs)[j]? = some u → W'.cell? ((⟨g, 0, none⟩ : Addr).add j) = some u := HO'.cells (g := g) rfl
        have hr2 := run_append_grow (P := P) W' t o.type e i0 (.int k 0) ht hi hz0 ⟨g, 0, none⟩ xs.length cap (nums k xs) (by rw [nums_length, hz1]; omega) holds ⟨W.heap.size, 0, none⟩ 1 1 [.int k y] hl1 hnews (by omega) (by omega)
          (growslice_fits (by omega) (by rw [hz2]; exact hl))
        rw [hr] at hr2
        injection hr2 with _ e2
        rw [e2]
        exact Nat.le_succ _
  have hdr : W.drawn ≤ w1.drawn := by rw [hW'] at hd; exact hd
  unfold Oper.wp execOp
  rw [← hW']
  simp only [ho, resolve, invoke, builtin, Sem.run_bind, Sem.run_pure, Result.andThen_ok, List.map_toArray, List.map_cons, List.map_nil, hs, hx, hr]
  refine hK _ _ (h v1 w1 (by simpa [nums] using hown) ((HB.alloc hbase _).grown (by rw [← hW']; exact hg) (by simp; omega) (own_base HO)) ?_ hdr)
  rw [hW'] at hg
  exact World.grownBy.trans (World.grownBy_alloc W _ _) hg
end

/-- What lay there lies there as it did, and no draw is taken back: so the world is the old one, grown. -/
theorem grow_of_below {w w' : World} (h : Below w.heap.size w w') (hd : w.drawn ≤ w'.drawn) : ∃ q os, w' = grow (w.drewN q) os := by
  refine ⟨w'.drawn - w.drawn, w'.heap.extract w.heap.size w'.heap.size, ?_⟩
  have hh : w'.heap = w.heap ++ w'.heap.extract w.heap.size w'.heap.size := by
    apply Array.ext_getElem?
    intro i
    rcases Nat.lt_or_ge i w.heap.size with hi | hi
    · rw [h.block i hi, Array.getElem?_append_left hi]
    · rw [Array.getElem?_append_right hi, Array.getElem?_extract]
      have hs := h.size
      split
      · congr 1; omega
      · rename_i hn
        exact Array.getElem?_eq_none (by omega)
  obtain ⟨h1, h2, h3, h4, _⟩ := h
  cases w
  cases w'
  simp only at *
  subst h1 h2 h3
  unfold grow World.drewN
  simp only
  rw [← hh]
  congr 1
  omega

/-! ### the runes of a string -/
def runesFrom (s : ByteArray) : Nat → Nat → List Int
  | 0, _ => []
  | b + 1, pos => if pos < s.size then ((Utf8.decode s pos).1 : Int) :: runesFrom s b (pos + (Utf8.decode s pos).2) else []
def runesOf (s : ByteArray) : List Int := runesFrom s s.size 0
theorem runesFrom_len (s : ByteArray) : ∀ b pos, (runesFrom s b pos).length ≤ b
  | 0, _ => Nat.le_refl _
  | b + 1, pos => by
    unfold runesFrom
    split
    · simp only [List.length_cons]
      have := runesFrom_len s b (pos + (Utf8.decode s pos).2)
      omega
    · simp
theorem runesFrom_end (s : ByteArray) (b pos : Nat) (h : ¬ pos < s.size) : runesFrom s b pos = [] := by
  cases b with
  | zero => rfl
  | succ b => rw [runesFrom, if_neg h]
/-- More rounds than bytes tell nothing more. -/
theorem runesFrom_more (s : ByteArray) : ∀ b c pos, s.size ≤ pos + b → s.size ≤ pos + c → runesFrom s b pos = runesFrom s c pos
  | 0, c, pos, h, _ => by rw [runesFrom_end s c pos (by omega)]; rfl
  | b + 1, 0, pos, _, h => by rw [runesFrom_end s (b + 1) pos (by omega)]; rfl
  | b + 1, c + 1, pos, hb, hc => by
    unfold runesFrom
    split
    · rename_i hp
      have := Lib.decode_width_pos s pos hp
      rw [runesFrom_more s b c _ (by omega) (by omega)]
    · rfl

end Go.Proofs.YtmionoghpjpbaaaDoorM
