/-
  cachepot/batch: Find, Keys, Make.
-/
import Derived.Test.YtmionoghpjpbaaaDoorHand
import Derived.Test.YtmionoghpjpbaaaDoorPrV0
namespace Go.Proofs.YtmionoghpjpbaaaDoor
open Go.RowKit Go.Proofs.YtmionoghpjpbaaaDoorW.PrintWords Go.Proofs.YtmionoghpjpbaaaDoorW.PrintLast Go.Proofs.YtmionoghpjpbaaaDoorW.PrintMore
open Go.Proofs.YtmionoghpjpbaaaDoorM
set_option linter.unusedVariables false
set_option linter.unusedSimpArgs false
attribute [local go_sem ↓] Go.wp_at_zero Go.wp_at_succ

theorem findP_at (l : List Write) (k : ByteArray) (hl : l.length ≤ 1000000) (d : Nat) : ∀ i : Nat, i ≤ l.length → Pr.batch_Find.l0 (i + d + 1) l k ((i : Int) - 1) = some (ofLast (lastW (l.take i) k))
  | 0, h => by
    unfold Pr.batch_Find.l0
    rw [if_neg (by omega)]
    rfl
  | i + 1, h => by
    rw [show i + 1 + d + 1 = (i + d + 1) + 1 by omega]
    unfold Pr.batch_Find.l0
    have e1 : (((i + 1 : Nat) : Int) - 1) = (i : Int) := by omega
    have hi : i < l.length := by omega
    have e2 : Pr.rd_T44 l (i : Int) = l[i] := by
      have := rdWrite_get (xs := l) (i := (i : Int)) (by simpa using hi)
      simpa using this
    rw [e1, if_pos (by omega), if_pos (by omega), if_pos (by omega), e2, List.take_succ_eq_append_getElem hi, lastW_snoc]
    by_cases hk : l[i].f0 = k
    · rw [if_pos (by rw [hk]), if_pos hk]
      rfl
    · rw [if_neg (fun h => hk (bytes_ext (by rwa [Lib.toList_data, Lib.toList_data] at h))), if_neg hk]
      have e3 : wrap64 ((i : Int) - 1) = (i : Int) - 1 := by unfold wrap64; omega
      rw [e3, findP_at l k hl d i (by omega)]
theorem findP_f (l : List Write) (k : ByteArray) (hl : l.length ≤ 1000000) : Pr.batch_Find.f (l.length + 1) l k = some (ofLast (lastW l k)) := by
  unfold Pr.batch_Find.f
  have e3 : wrap64 ((l.length : Int) - 1) = (l.length : Int) - 1 := by unfold wrap64; omega
  have := findP_at l k hl 0 l.length (Nat.le_refl _)
  rw [List.take_length] at this
  rw [e3]
  exact this
theorem findP_any (A : Option Addr) (c : Nat) (l : List Write) (k : ByteArray) (w : World) (hC : Kd.C kWrite w A l.length l) (hc : l.length ≤ c) (hl : l.length ≤ 1000000) :
    Calls Tryd.prog 102 #[.slice A l.length c, .string k] w fun e w' =>
      e = .returned (.tuple #[aggW ((lastW l k).getD zWrite), .bool (lastW l k).isSome]) ∧ Below w.heap.size w w' := by
  have h := findP_f l k hl
  cases hk : lastW l k with
  | none =>
    rw [hk] at h
    exact Pr.batch_Find.calls _ A c l k _ _ _ _ w hC hc h
  | some y =>
    rw [hk] at h
    exact Pr.batch_Find.calls _ A c l k _ _ _ _ w hC hc h

set_option maxHeartbeats 2000000 in
set_option maxRecDepth 100000 in
theorem batchKeysP_any (A : Option Addr) (c : Nat) (l : List Write) (w : World) (hC : Kd.C kWrite w A l.length l) (hl : l.length ≤ 1000000) (hs : ∀ x ∈ l, x.f0.size ≤ 1000000000) :
    Calls Tryd.prog 117 #[.slice A l.length c] w (SortedOf w (l.map (·.f0))) := by
  have HC := Aside0.mk hC
  have HL := Aside0.mk hl
  have HS := Aside0.mk hs
  clear hC hl hs
  go_enter Tryd.func117, Tryd.ntmps117
  go_wp2
  go_loopg [3, 8] l.length (fun kq v3 v8 w' => ∃ (x : Nat), v8 = .int .i64 x ∧ Aside0 (x + kq = l.length) ∧ Aside0 (Kd.R Kd.string 9 w' w.heap.size (fun _ => True) v3 ((l.take x).map (·.f0))) ∧ Aside0 (Below w.heap.size w w'))
  case atStart => exact ⟨0, rfl, ⟨by simp⟩, ⟨by simpa using Kd.R_nil _ _ _ _ _⟩, ⟨Below.refl _ _⟩⟩
  case round =>
    obtain ⟨x, rfl, HK, HO, HB⟩ := hrel
    by_cases q : x < l.length
    · have q' : (x : Int) < (l.length : Int) := by omega
      have p1 : (0 : Int) ≤ (x : Int) := by omega
      obtain ⟨g1, rfl⟩ : ∃ g1, gk = g1 + 1 := ⟨gk - 1, by have := HK.out; omega⟩
      obtain ⟨ad, e, c0, c1', c2'⟩ := atWrite (Kd.C_below HC.out HB.out) (x : Int) p1 q'
      cases e
      rw [Int.toNat_natCast] at c0 c1' c2'
      have HX : Aside0 (rdWrite l (x : Int) = l[x]) := ⟨by rw [rdWrite_get (by simpa using q)]; simp⟩
      generalize rdWrite l (x : Int) = y at *
      have HMl : Aside0 (((l.take x).map (·.f0)).length ≤ 1000000000) := ⟨by rw [List.length_map, List.length_take]; have := HL.out; omega⟩
      go_wp2_with (at_builtin; refine appStr (w0 := w) w.heap.size rfl (.tmp 12) (.tmp 15) (wr.heap.size + 1) rfl u3 ((l.take x).map (·.f0)) y.f0 rfl rfl ?aX ?aO ?aB ?aS ?aL ?_; (case aX => simp); (case aO => exact Kd.R_alloc HO.out _); (case aB => exact below_alloc HB.out _); (case aS => exact below_size (below_alloc HB.out _)); (case aL => exact HMl.out); intro v1 w3 ho hb hg hat; have HO3 := Aside0.mk ho; have HB3 := Aside0.mk hb; clear ho hb hg hat)
      go_roundg g1
      case measure => omega
      case rel =>
        refine ⟨x + 1, by rw [wsucc x (by have := HL.out; omega)], ⟨by have := HK.out; omega⟩, ⟨?_⟩, HB3⟩
        rw [List.take_succ_eq_append_getElem q, List.map_append, List.map_cons, List.map_nil, ← HX.out]
        exact HO3.out
    · have e : l.take x = l := List.take_of_length_le (by omega)
      rw [e] at HO
      have HSZ : Aside0 (∀ s, s ∈ l.map (·.f0) → s.size ≤ 1000000000) := ⟨fun s hm => by
        obtain ⟨y, hy, rfl⟩ := List.mem_map.1 hm
        exact HS.out y hy⟩
      have HLn : Aside0 ((l.map (·.f0)).length ≤ 1000000) := ⟨by rw [List.length_map]; exact HL.out⟩
      clear e
      obtain ⟨ks, hks⟩ : ∃ ks, Aside0 (l.map (·.f0) = ks) := ⟨_, ⟨rfl⟩⟩
      rw [hks.out] at HO HSZ HLn
      obtain ⟨A1, c1, rfl, hc1, hr1⟩ := Kd.R_reads HO.out
      have HRd := Aside0.mk hr1
      clear hc1 hr1
      go_wp2_with fail
      refine (sorted_any A1 c1 ks _ HRd.out (by have := HLn.out; omega) HSZ.out).mono ?_
      intro e w3 hso
      obtain ⟨v, out, rfl, h2, h3, h4, h5⟩ := hso
      have HK3 : Aside0 (SortedOf w ks (.returned v) w3) := ⟨⟨v, out, rfl, Kd.R_lower h2 HB.out.size, h3, h4, below_then HB.out HB.out.size h5⟩⟩
      clear h2 h3 h4 h5
      go_wp2_with fail
      go_ret
      show SortedOf w (l.map (·.f0)) _ _
      rw [hks.out]
      exact HK3.out

set_option maxHeartbeats 2000000 in
set_option maxRecDepth 100000 in
theorem batchMakeP_any (A : Option Addr) (c : Nat) (l : List Write) (w : World) (hC : Kd.C kWrite w A l.length l) (hcc : l.length ≤ c) (hl : l.length ≤ 1000000) (hs : ∀ x ∈ l, x.f0.size ≤ 1000000000) :
    Calls Tryd.prog 95 #[.slice A l.length c] w fun e w' => ∃ v ws, e = .returned v ∧ Kd.R kWrite 44 w' w.heap.size (fun _ => True) v ws ∧ IsMade l ws ∧ Below w.heap.size w w' := by
  have HC := Aside0.mk hC
  have HL := Aside0.mk (And.intro hl hcc)
  have HS := Aside0.mk hs
  clear hC hl hs hcc
  go_enter Tryd.func95, Tryd.ntmps95
  go_wp2_with fail
  refine (batchKeysP_any A c l w HC.out HL.out.1 HS.out).mono ?_
  rintro e w1 ⟨v3, ks, rfl, hR, hri, hm, hb⟩
  have hlk : ks.length ≤ l.length := by
    have := nodup_le ks _ hri.nodup (fun s hs => (hm s).1 hs)
    simpa using this
  obtain ⟨A3, c3, rfl, hc3, hr3⟩ := Kd.R_reads hR
  have HR3 := Aside0.mk hr3
  have HM := Aside0.mk (And.intro hri (And.intro hm hlk))
  have HB1 := Aside0.mk hb
  clear hR hri hm hb hlk hr3 hc3
  go_wp2
  go_loopg [3, 11] ks.length (fun kq v3 v11 w' => ∃ (x : Nat) (ws : List Write), v11 = .int .i64 x ∧ Aside0 (x + kq = ks.length) ∧ Aside0 (Kd.R kWrite 44 w' w1.heap.size (fun _ => True) v3 ws) ∧ Aside0 (ws.map (·.f0) = ks.take x ∧ ∀ z ∈ ws, ∃ y, lastW l z.f0 = some y ∧ z = fixW y) ∧ Aside0 (Below w1.heap.size w1 w'))
  case atStart => exact ⟨0, [], rfl, ⟨by simp⟩, ⟨Kd.R_nil _ _ _ _ _⟩, ⟨by simp, by simp⟩, ⟨Below.refl _ _⟩⟩
  case round =>
    obtain ⟨x, ws, rfl, HK, HO, HP, HB⟩ := hrel
    by_cases q : x < ks.length
    · have q' : (x : Int) < (ks.length : Int) := by omega
      have p1 : (0 : Int) ≤ (x : Int) := by omega
      obtain ⟨g1, rfl⟩ : ∃ g1, gk = g1 + 1 := ⟨gk - 1, by have := HK.out; omega⟩
      obtain ⟨ad, e, c0⟩ := Kd.at_string (Kd.C_below HR3.out HB.out) (x : Int) p1 q'
      cases e
      rw [Int.toNat_natCast] at c0
      have HX : Aside0 (rdOf ByteArray.empty ks (x : Int) = ks[x]) := ⟨by rw [rdOf_get (by simpa using q)]; simp⟩
      generalize rdOf ByteArray.empty ks (x : Int) = key at *
      obtain ⟨y, hy⟩ : ∃ y, lastW l key = some y := Option.isSome_iff_exists.1 (lastW_isSome.2 ((HM.out.2.1 _).1 (by rw [HX.out]; exact List.getElem_mem q)))
      have HY := Aside0.mk hy
      have HYK : Aside0 (y.f0 = key) := ⟨(lastW_mem hy).2⟩
      have HCW : Aside0 (Kd.C kWrite wr A l.length l) := ⟨Kd.C_below (Kd.C_below HC.out HB1.out) HB.out⟩
      have HWL : Aside0 (ws.length ≤ 1000000000) := ⟨by
        have h1 := congrArg List.length HP.out.1
        rw [List.length_map, List.length_take] at h1
        have := HM.out.2.2
        have := HL.out.1
        omega⟩
      have HST : ∀ z, z = fixW y → (ws ++ [z]).map (·.f0) = ks.take (x + 1) ∧ ∀ u ∈ ws ++ [z], ∃ y, lastW l u.f0 = some y ∧ u = fixW y := by
        intro z hz
        constructor
        · rw [List.map_append, HP.out.1, List.take_succ_eq_append_getElem q, List.map_cons, List.map_nil, hz, fixW_key, HYK.out, HX.out]
        · intro u hu
          rcases List.mem_append.1 hu with hu | hu
          · exact HP.out.2 u hu
          · rw [List.mem_singleton.1 hu, hz]
            exact ⟨y, by rw [fixW_key, HYK.out]; exact HY.out, rfl⟩
      have HS2 := Aside0.mk HST
      clear hy HST
      go_wp2_with fail
      refine (findP_any A c l key wr HCW.out HL.out.2 HL.out.1).mono ?_
      rintro e w2 ⟨rfl, hb2⟩
      rw [HY.out]
      rw [show aggW ((some y).getD zWrite) = .agg #[.string y.f0, .bool y.f1, .string y.f2] from rfl, show (some y).isSome = true from rfl]
      have HB2 : Aside0 (Below w1.heap.size w1 w2) := ⟨below_then HB.out HB.out.size hb2⟩
      have HO2 : Aside0 (Kd.R kWrite 44 w2 w1.heap.size (fun _ => True) u3 ws) := ⟨Kd.R_below HO.out hb2⟩
      clear hb2 HB HO HCW HY
      cases hd : y.f1
      · have HZ : Aside0 ((⟨y.f0, false, y.f2⟩ : Write) = fixW y) := ⟨by unfold fixW; rw [if_neg (by rw [hd]; simp), ← hd]⟩
        clear hd
        go_wp2_with (at_builtin; refine appWrite (w0 := w1) w1.heap.size rfl (.tmp 24) (.tmp 26) (w2.heap.size + 1) rfl u3 ws ⟨y.f0, false, y.f2⟩ rfl rfl ?aX ?aO ?aB ?aS ?aL ?_; (case aX => simp); (case aO => exact Kd.R_alloc HO2.out _); (case aB => exact below_alloc HB2.out _); (case aS => exact below_size (below_alloc HB2.out _)); (case aL => exact HWL.out); intro v1 w5 ho hb hg hat; have HR1 := Aside0.mk ho; have HB5 := Aside0.mk hb; clear ho hb hg hat)
        go_roundg g1
        case measure => omega
        case rel => exact ⟨x + 1, ws ++ [⟨y.f0, false, y.f2⟩], by rw [wsucc x (by have := HM.out.2.2; have := HL.out.1; omega)], ⟨by have := HK.out; omega⟩, HR1, ⟨HS2.out _ HZ.out⟩, HB5⟩
      · have HZ : Aside0 ((⟨y.f0, true, ByteArray.empty⟩ : Write) = fixW y) := ⟨by unfold fixW; rw [if_pos hd, ← hd]⟩
        clear hd
        go_wp2_with (at_builtin; refine appWrite (w0 := w1) w1.heap.size rfl (.tmp 24) (.tmp 26) (w2.heap.size + 1) rfl u3 ws ⟨y.f0, true, ByteArray.empty⟩ rfl rfl ?aX ?aO ?aB ?aS ?aL ?_; (case aX => simp); (case aO => exact Kd.R_alloc HO2.out _); (case aB => exact below_alloc HB2.out _); (case aS => exact below_size (below_alloc HB2.out _)); (case aL => exact HWL.out); intro v1 w5 ho hb hg hat; have HR1 := Aside0.mk ho; have HB5 := Aside0.mk hb; clear ho hb hg hat)
        go_roundg g1
        case measure => omega
        case rel => exact ⟨x + 1, ws ++ [⟨y.f0, true, ByteArray.empty⟩], by rw [wsucc x (by have := HM.out.2.2; have := HL.out.1; omega)], ⟨by have := HK.out; omega⟩, HR1, ⟨HS2.out _ HZ.out⟩, HB5⟩
    · have e : ks.take x = ks := List.take_of_length_le (by omega)
      rw [e] at HP
      go_wp2
      go_ret
      exact ⟨_, ws, rfl, Kd.R_lower HO.out HB1.out.size, ⟨by rw [HP.out.1]; exact HM.out.1, fun s => by rw [HP.out.1]; exact HM.out.2.1 s, HP.out.2⟩, below_then HB1.out HB1.out.size HB.out⟩
end Go.Proofs.YtmionoghpjpbaaaDoor
