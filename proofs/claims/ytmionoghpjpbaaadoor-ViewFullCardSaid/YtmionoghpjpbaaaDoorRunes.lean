/-
  keys.runes tells the runes of a string.
-/
import Derived.Test.YtmionoghpjpbaaaDoorStr
import Derived.Test.YtmionoghpjpbaaaDoorTypes
import Derived.Outline
namespace Go.Proofs.YtmionoghpjpbaaaDoor
open Go.RowKit Go.Proofs.YtmionoghpjpbaaaDoorW.PrintWords Go.Proofs.YtmionoghpjpbaaaDoorW.PrintLast Go.Proofs.YtmionoghpjpbaaaDoorW.PrintMore
open Go.Proofs.YtmionoghpjpbaaaDoorM
set_option linter.unusedVariables false
set_option linter.unusedSimpArgs false

theorem infoRune : (Tryd.prog.info? 21).map (fun i => (i.zero, i.size, i.bytes)) = some (some (.int .i32 0), 1, 4) := by kernel_rfl

set_option maxHeartbeats 1000000 in
set_option maxRecDepth 100000 in
theorem runes_any (s : ByteArray) (hs : s.size ≤ 1000000000) (w : World) : Calls Tryd.prog 128 #[.string s] w fun e w' =>
    ∃ v, e = .returned v ∧ w'.ownsRow w.heap.size 21 1 v (runesOf s).length (nums .i32 (runesOf s)) ∧ Below w.heap.size w w' ∧ w.drawn ≤ w'.drawn := by
  have HS := Aside0.mk hs
  clear hs
  go_enter Tryd.func128, Tryd.ntmps128
  go_wp2
  go_loopg [3] s.size (fun kq v3 w' => ∃ (pos : Nat) (acc : List Int), Aside0 (w'.ownsRow (w.heap.size + 1) 21 1 v3 acc.length (nums .i32 acc)) ∧ Aside0 (w'.heap[w.heap.size]? = some (.stringIter s pos)) ∧ Aside0 (acc ++ runesFrom s kq pos = runesOf s) ∧ Aside0 (s.size ≤ pos + kq ∧ acc.length + kq ≤ s.size) ∧ Aside0 (Below w.heap.size w w' ∧ w.drawn ≤ w'.drawn))
  case atStart => exact ⟨0, [], ⟨own_nil _ _ _ _⟩, ⟨World.iter_heap w s 0⟩, ⟨by simp [runesOf]⟩, ⟨by simp⟩, ⟨(Below.refl _ _).alloc (Nat.le_refl _) _, Nat.le_refl _⟩⟩
  case round =>
    obtain ⟨pos, acc, HO, HI, HA, HK, HB⟩ := hrel
    go_wp2_with (at_next; refine wp_nextS _ rfl (.tmp 7) rfl w.heap.size s pos rfl HI.out ?_ ?_)
    · intro hdone
      have HD := Aside0.mk hdone
      clear hdone
      go_wp2
      go_ret
      have e1 : acc = runesOf s := by
        have := HA.out
        rwa [runesFrom_end s _ _ (by have := HD.out; omega), List.append_nil] at this
      rw [← e1]
      exact ⟨_, rfl, own_weaken HO.out (by omega), HB.out.1, HB.out.2⟩
    · intro hlt w2 hit hgr hsz hdr
      obtain ⟨k1, rfl⟩ : ∃ k1, gk = k1 + 1 := ⟨gk - 1, by have := HK.out; omega⟩
      have hne : ∀ k, u3.ownBlock = some k → k ≠ w.heap.size := fun k hk e => by have := own_base HO.out k hk; omega
      have HO2 : Aside0 (w2.ownsRow (w.heap.size + 1) 21 1 u3 acc.length (nums .i32 acc)) := ⟨own_other HO.out hgr (by
        cases h : u3.ownBlock with
        | none => exact .inl rfl
        | some k => exact .inr (fun e => hne k h (by cases e; rfl)))⟩
      have HI2 := Aside0.mk hit
      have HB2 : Aside0 (Below w.heap.size w w2 ∧ w.drawn ≤ w2.drawn) := ⟨HB.out.1.grown hgr HB.out.1.size (fun k hk => by cases hk; exact Nat.le_refl _), by rw [hdr]; exact HB.out.2⟩
      have HA2 : Aside0 ((acc ++ [((Utf8.decode s pos).1 : Int)]) ++ runesFrom s k1 (pos + (Utf8.decode s pos).2) = runesOf s) := ⟨by
        have h := HA.out
        rw [runesFrom, if_pos hlt] at h
        rw [← h]
        simp⟩
      have hwd := Lib.decode_width_pos s pos hlt
      have HK2 : Aside0 (s.size ≤ pos + (Utf8.decode s pos).2 + k1 ∧ acc.length + 1 + k1 ≤ s.size) := ⟨by have := HK.out; omega⟩
      have HN := Aside0.mk hne
      have HL2 : Aside0 (w.heap.size < w2.heap.size) := ⟨(Array.getElem?_eq_some_iff.1 hit).1⟩
      generalize ((Utf8.decode s pos).1 : Int) = r at *
      generalize (Utf8.decode s pos).2 = wd at *
      clear hit hgr hsz hdr hne HO HI HB HA HK hwd hlt
      go_wp2_with (at_builtin; refine app_num_drawn (w0 := w2) (w.heap.size + 1) rfl (.tmp 11) (.tmp 13) w2.heap.size 174 21 .i32 4 rfl Tryd.underlying174 infoRune (by decide) u3 acc r rfl rfl rfl ?aO ?aB ?aS ?aL ?_; (case aO => exact HO2.out); (case aB => exact Below.refl _ _); (case aS => have := HL2.out; omega); (case aL => have := HK2.out; have := HS.out; omega); intro v1 w3 ho hb hg hdr; have HO3 := Aside0.mk ho; have HG3 := Aside0.mk (And.intro hb (And.intro hg hdr)); clear ho hb hg hdr)
      have HI3 : Aside0 (w3.heap[w.heap.size]? = some (.stringIter s (pos + wd))) := ⟨(HG3.out.1.block _ (by omega)).trans HI2.out⟩
      have HB3 : Aside0 (Below w.heap.size w w3 ∧ w.drawn ≤ w3.drawn) := ⟨HB2.out.1.trans (HG3.out.1.mono (by omega)), Nat.le_trans HB2.out.2 HG3.out.2.2⟩
      go_roundg k1
      case measure => omega
      case rel => exact ⟨pos + wd, acc ++ [r], HO3, HI3, HA2, ⟨by have := HK2.out; simp only [List.length_append, List.length_singleton]; omega⟩, HB3⟩

end Go.Proofs.YtmionoghpjpbaaaDoor
