/- The walks of sandtableref26.Start, .Writes and sandtablelaw26.same. -/
import Derived.Test.YtnohhpinigkccaaRefRun
import Derived.Test.YtnohhpinigkccaaRef05S
import Derived.Test.YtnohhpinigkccaaKeepsP
namespace Go.Proofs.Ytnohhpinigkccaa.Mo
open Go Go.RowKit Go.Proofs.Ytnohhpinigkccaa.Lb
set_option linter.unusedVariables false
set_option linter.unusedSimpArgs false

set_option maxHeartbeats 2000000 in
theorem RefStart_is (p : Pr) (w : World) (hr : RProc w p) (hl : p.vs.length ≤ 100000) : Calls Try.prog 15 #[p.val] w fun e w' => ∃ v, e = .returned v ∧ w'.ownsRow w.heap.size 2 1 v p.vs.length ((p.vs.map V.init).map (Value.int .i64)) ∧ Kept Nil w w' := by
  obtain ⟨j0, hjnf, hy0, hy1, hy2⟩ := info_parts infoI64
  have HR := Lib.hid hr
  clear hr
  obtain ⟨pn, pw, va, vs, vc, sa, ss, pc_⟩ := p
  unfold Pr.val
  simp only at *
  obtain ⟨W0, hW0⟩ : ∃ W0, w.alloc (.cells #[.string pn, .int .i64 pw, .slice va vs.length vc, .slice sa ss.length pc_] 25) = W0 := ⟨_, rfl⟩
  have hk0 : Kept Nil w W0 := by rw [← hW0]; exact (Kept.refl Nil w).alloc _
  have p2 : W0.cell? ⟨w.heap.size, 2, none⟩ = some (.slice va vs.length vc) := by rw [← hW0]; simp
  have hsz : W0.heap.size = w.heap.size + 1 := by rw [← hW0]; simp
  have HW0 := Lib.hid hW0
  have HK0 := Lib.hid hk0
  have G2 := Lib.hid p2
  have HSZ := Lib.hid hsz
  clear hW0 hk0 p2 hsz
  go_enter Try.func15, Try.ntmps15
  go_wp2_with fail
  rw [HW0.out]
  go_loopw [3, 4] (fun r i wr => ∃ k : Nat, k ≤ vs.length ∧ i = .int .i64 k ∧ wr.ownsRow W0.heap.size 2 1 r k (((vs.take k).map V.init).map (Value.int .i64)) ∧ Kept Nil W0 wr) (fun _ i _ => vs.length - (intOf i).toNat)
  case atStart => exact ⟨0, Nat.zero_le _, rfl, by rw [← HSZ.out]; exact World.ownsRow_lit W0 #[] 0 (Nat.le_refl _) (by decide) rfl, (Kept.refl Nil W0).alloc _⟩
  case round =>
    obtain ⟨k, hk, rfl, hO, hK⟩ := hrel
    have HO := Lib.hid hO
    have HK := Lib.hid hK
    have hzz := hK.size
    have q2 := hK.cell G2.out (fun h => h)
    clear hO hK
    by_cases hlt : k < vs.length
    · obtain ⟨v, ev⟩ : ∃ v, vs[k]? = some v := ⟨_, List.getElem?_eq_getElem hlt⟩
      obtain ⟨b, off, e1, c0, c1⟩ := (HR.out.nil (HK0.out.step HK.out)).v.at ev
      simp only at e1
      subst e1
      have hbs : b < wr.heap.size := World.block_lt_of_cell? _ _ c0
      have HEV := Lib.hid ev
      clear ev
      go_wp2_with (at_builtin; refine stop_append _ _ _ rfl ?_)
      unfold StopA
      refine wpList_append_own _ rfl _ _ 26 rfl W0.heap.size 2 j0 (.int .i64 0) 1 8 Try.underlying26 hjnf hy0 hy1 hy2 rfl (by decide) _ _ _ rfl (HO.out.alloc _) ⟨wr.heap.size, 0, none⟩ 1 1 [.int .i64 v.init] rfl rfl (cells_new _ _ _) (by simp [Value.oneCell']) (by unfold maxLen; omega) (by omega) (by simp; omega) ?_
      intro r' w5 hown' hgrow _
      have HO5 := Lib.hid (show w5.ownsRow W0.heap.size 2 1 r' (k + 1) (((vs.take (k + 1)).map V.init).map (Value.int .i64)) from by
        rw [List.take_add_one, HEV.out, Option.toList_some]
        simpa using hown')
      have HK5 := Lib.hid ((HK.out.alloc (.cells #[.int .i64 v.init] 2)).grown hgrow (fun j e => .inr (HO.out.lt j e).1))
      clear hown' hgrow
      go_wp2_with fail
      go_round
      case measure => (simp [intOf] <;> omega)
      exact ⟨k + 1, by omega, by go_num, HO5.out, HK5.out⟩
    · obtain rfl : k = vs.length := by omega
      rw [List.take_length] at HO
      go_wp2_with fail
      go_ret
      exact ⟨_, rfl, own_lower HO.out (fun i e => by have := (HO.out.lt i e).1; have := HSZ.out; omega), HK0.out.step HK.out⟩
set_option maxHeartbeats 2000000 in
theorem RefWrites_is (p : Pr) (w : World) (hr : RProc w p) (hl : p.ss.length ≤ 100000) : Calls Try.prog 11 #[p.val] w fun e w' => ∃ v, e = .returned v ∧ w'.ownsRow w.heap.size 9 1 v (dist (wNames p.ss)).length ((dist (wNames p.ss)).map Value.string) ∧ Kept Nil w w' := by
  obtain ⟨j0, hjnf, hy0, hy1, hy2⟩ := info_parts infoStr
  have HR := Lib.hid hr
  clear hr
  obtain ⟨pn, pw, va, vs, vc, sa, ss, pc_⟩ := p
  unfold Pr.val
  simp only at *
  obtain ⟨W0, hW0⟩ : ∃ W0, w.alloc (.cells #[.string pn, .int .i64 pw, .slice va vs.length vc, .slice sa ss.length pc_] 25) = W0 := ⟨_, rfl⟩
  have hk0 : Kept Nil w W0 := by rw [← hW0]; exact (Kept.refl Nil w).alloc _
  have p3 : W0.cell? ⟨w.heap.size, 3, none⟩ = some (.slice sa ss.length pc_) := by rw [← hW0]; simp
  have hsz : W0.heap.size = w.heap.size + 1 := by rw [← hW0]; simp
  have HW0 := Lib.hid hW0
  have HK0 := Lib.hid hk0
  have G3 := Lib.hid p3
  have HSZ := Lib.hid hsz
  clear hW0 hk0 p3 hsz
  go_enter Try.func11, Try.ntmps11
  go_wp2_with fail
  rw [HW0.out]
  go_loopw [3, 4] (fun r i wr => ∃ k : Nat, k ≤ ss.length ∧ i = .int .i64 k ∧ wr.ownsRow W0.heap.size 9 1 r (wNames (ss.take k)).length ((wNames (ss.take k)).map Value.string) ∧ Kept Nil W0 wr) (fun _ i _ => ss.length - (intOf i).toNat)
  case atStart => exact ⟨0, Nat.zero_le _, rfl, by rw [← HSZ.out]; exact World.ownsRow_lit W0 #[] 0 (Nat.le_refl _) (by decide) rfl, (Kept.refl Nil W0).alloc _⟩
  case round =>
    obtain ⟨k, hk, rfl, hO, hK⟩ := hrel
    have HO := Lib.hid hO
    have HK := Lib.hid hK
    have hzz := hK.size
    have q3 := hK.cell G3.out (fun h => h)
    clear hO hK
    by_cases hlt : k < ss.length
    · obtain ⟨s, es⟩ : ∃ v, ss[k]? = some v := ⟨_, List.getElem?_eq_getElem hlt⟩
      obtain ⟨b, off, e1, c0, c1, c2, c3, c4⟩ := (HR.out.nil (HK0.out.step HK.out)).s.at es
      simp only at e1
      subst e1
      have hbs : b < wr.heap.size := World.block_lt_of_cell? _ _ c0
      have htk := wNames_take ss es
      have hln : (wNames (ss.take k)).length ≤ k := Nat.le_trans (wNames_len _) (by rw [List.length_take]; omega)
      clear es
      by_cases h1 : 1 ≤ s.kind
      · have h1b : decide (1 ≤ s.kind) = true := decide_eq_true h1
        by_cases h3 : s.kind ≤ 3
        · have h3b : decide (s.kind ≤ 3) = true := decide_eq_true h3
          rw [if_pos (by simp [wrote, h1, h3])] at htk
          have HTK := Lib.hid htk
          clear htk
          go_wp2_with (at_builtin; refine stop_append _ _ _ rfl ?_)
          unfold StopA
          refine wpList_append_own _ rfl _ _ 36 rfl W0.heap.size 9 j0 (.string ⟨#[]⟩) 1 16 Try.underlying36 hjnf hy0 hy1 hy2 rfl (by decide) _ _ _ rfl (HO.out.alloc _) ⟨wr.heap.size, 0, none⟩ 1 1 [.string s.name] rfl rfl (cells_new _ _ _) (by simp [Value.oneCell']) (by unfold maxLen; omega) (by omega) (by simp; omega) ?_
          intro r' w5 hown' hgrow _
          have HO5 := Lib.hid (show w5.ownsRow W0.heap.size 9 1 r' (wNames (ss.take (k + 1))).length ((wNames (ss.take (k + 1))).map Value.string) from by
            rw [HTK.out]
            simpa using hown')
          have HK5 := Lib.hid ((HK.out.alloc (.cells #[.string s.name] 9)).grown hgrow (fun j e => .inr (HO.out.lt j e).1))
          clear hown' hgrow
          go_wp2_with fail
          go_round
          case measure => (simp [intOf] <;> omega)
          exact ⟨k + 1, by omega, by go_num, HO5.out, HK5.out⟩
        · have h3b : decide (s.kind ≤ 3) = false := decide_eq_false h3
          rw [if_neg (by simp [wrote, h1, h3])] at htk
          have HTK := Lib.hid htk
          clear htk
          go_wp2_with fail
          go_round
          case measure => (simp [intOf] <;> omega)
          exact ⟨k + 1, by omega, by go_num, by rw [HTK.out]; exact HO.out, HK.out⟩
      · have h1b : decide (1 ≤ s.kind) = false := decide_eq_false h1
        rw [if_neg (by simp [wrote, h1])] at htk
        have HTK := Lib.hid htk
        clear htk
        go_wp2_with fail
        go_round
        case measure => (simp [intOf] <;> omega)
        exact ⟨k + 1, by omega, by go_num, by rw [HTK.out]; exact HO.out, HK.out⟩
    · obtain rfl : k = ss.length := by omega
      rw [List.take_length] at HO
      obtain ⟨_, A, cp, rfl, hS, hB⟩ := strs_of_own HO.out
      have hwl := wNames_len ss
      have HS := Lib.hid hS
      clear hS hB
      go_wp2_with fail
      refine (DistinctR_is (wNames ss) A cp wr HS.out (by omega)).mono ?_
      rintro e w2 ⟨v2, rfl, hO2, hk2⟩
      have HO2 := Lib.hid hO2
      have HK2 := Lib.hid (HK.out.step hk2)
      clear hO2 hk2
      go_wp2_with fail
      go_ret
      exact ⟨_, rfl, own_lower HO2.out (fun i e => by have := (HO2.out.lt i e).1; have := HSZ.out; omega), HK0.out.step HK2.out⟩
/-- Sends in a row. -/
def RSends (w : World) (A : Option Addr) (l : List Se) : Prop :=
  l = [] ∨ ∃ b off, A = some ⟨b, off, none⟩ ∧ ∀ (j : Nat) (e : Se), l[j]? = some e → w.cell? ⟨b, off + j * 2, none⟩ = some (.string e.1) ∧ w.cell? ⟨b, off + j * 2 + 1, none⟩ = some (.int .i64 e.2)
theorem RSends.at {w : World} {A : Option Addr} {l : List Se} (h : RSends w A l) {k : Nat} {e : Se} (hv : l[k]? = some e) : ∃ b off, A = some ⟨b, off, none⟩ ∧ w.cell? ⟨b, off + k * 2, none⟩ = some (.string e.1) ∧ w.cell? ⟨b, off + k * 2 + 1, none⟩ = some (.int .i64 e.2) := by
  rcases h with rfl | ⟨b, off, h, hc⟩
  · simp at hv
  · exact ⟨b, off, h, hc k e hv⟩
theorem RSends.nil {w w' : World} {A : Option Addr} {l : List Se} (h : RSends w A l) (hk : Kept Nil w w') : RSends w' A l := by
  rcases h with h | ⟨b, off, h, hc⟩
  · exact .inl h
  · exact .inr ⟨b, off, h, fun j s hj => ⟨hk.cell (hc j s hj).1 (fun h => h), hk.cell (hc j s hj).2 (fun h => h)⟩⟩
theorem rsends_of_own {w : World} {base n : Nat} {t : TypeId} {v : Value} {l : List Se} (h : w.ownsRow base t 2 v n (l.flatMap sc)) : ∃ A cap, v = .slice A l.length cap ∧ RSends w A l := by
  have hl := h.1
  rw [flat_len sc_len] at hl
  have hn : n = l.length := by omega
  subst hn
  rcases own_form h with ⟨h1, h2, h3⟩ | ⟨g, cap, h1, h2, h3, h4, h5⟩
  · exact ⟨none, 0, by rw [h1, h2], .inl (List.eq_nil_of_length_eq_zero h2)⟩
  · subst h1
    refine ⟨some ⟨g, 0, none⟩, cap, rfl, .inr ⟨g, 0, rfl, fun j s hj => ?_⟩⟩
    have h0 := own_cell (j := j * 2 + 0) h (by rw [flat_get sc_len hj (by decide)]; rfl)
    have h1 := own_cell (j := j * 2 + 1) h (by rw [flat_get sc_len hj (by decide)]; rfl)
    rw [Nat.zero_add]
    exact ⟨h0, h1⟩
set_option maxHeartbeats 2000000 in
theorem same_is (l : List Se) (A B : Option Addr) (capA capB : Nat) (w : World) (hr : RSends w A l) (hr2 : RSends w B l) (hn : l.length ≤ 4294967296) :
    Calls Try.prog 13 #[.slice A l.length capA, .slice B l.length capB] w fun e w' => e = .returned (.bool true) ∧ Kept Nil w w' := by
  have HR := Lib.hid hr
  have HR2 := Lib.hid hr2
  clear hr hr2
  go_enter Try.func13, Try.ntmps13
  go_wp2
  go_loopw [13] (fun i wr => ∃ k : Nat, k ≤ l.length ∧ i = .int .i64 k ∧ Kept Nil w wr) (fun i _ => l.length - (intOf i).toNat)
  case atStart => exact ⟨0, Nat.zero_le _, rfl, Kept.refl _ _⟩
  case round =>
    obtain ⟨k, hk, rfl, hK⟩ := hrel
    have HK := Lib.hid hK
    clear hK
    by_cases hlt : k < l.length
    · obtain ⟨z, ez⟩ : ∃ x, l[k]? = some x := ⟨_, List.getElem?_eq_getElem hlt⟩
      obtain ⟨b, off, rfl, c0, c1⟩ := (HR.out.nil HK.out).at ez
      obtain ⟨b2, off2, rfl, d0, d1⟩ := (HR2.out.nil HK.out).at ez
      clear ez
      go_wp2_with fail
      go_big_quiet (fail)
      go_wp2_with fail
      go_round
      case rel => exact ⟨k + 1, by omega, by go_num, HK.out.drewN _⟩
      case measure => (simp [intOf] <;> omega)
    · obtain rfl : k = l.length := by omega
      go_wp2
      go_ret
      exact ⟨rfl, HK.out⟩
end Go.Proofs.Ytnohhpinigkccaa.Mo
