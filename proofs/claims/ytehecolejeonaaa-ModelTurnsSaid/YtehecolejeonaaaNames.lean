/- The walk of sandtableref15.Names. -/
import Derived.Test.YtehecolejeonaaaModels
import Derived.Test.YtehecolejeonaaaBasics
namespace Go.Proofs.Ytehecolejeonaaa.Mo
open Go Go.RowKit Go.Proofs.Ytehecolejeonaaa.Lb
set_option linter.unusedVariables false
set_option linter.unusedSimpArgs false


set_option maxHeartbeats 4000000 in
theorem Names_is (m : Md) (w : World) (hr : RModel w m) (hn : (mdNames m).length ≤ 100000) (hpl : m.ps.length ≤ 1000) (hll : m.ls.length ≤ 1000) (hvl : ∀ q ∈ m.ps, q.vs.length ≤ 1000) :
    Calls Try.prog 14 #[m.val] w fun e w' => ∃ v, e = .returned v ∧ w'.ownsRow w.heap.size 9 1 v (mdNames m).length ((mdNames m).map Value.string) ∧ Kept Nil w w' := by
  obtain ⟨j0, hjnf, hy0, hy1, hy2⟩ := info_parts infoStr
  obtain ⟨ver, pa, ps, pc, la, ls, lc, ea, es, ec⟩ := m
  simp only at *
  have HR := Lib.hid hr
  have HN := Lib.hid hn
  have HVL := Lib.hid hvl
  clear hr hn hvl
  obtain ⟨W0, hW0⟩ : ∃ W0, w.alloc (.cells #[.int .i64 ver, .slice pa ps.length pc, .slice la ls.length lc, .slice ea es.length ec] 26) = W0 := ⟨_, rfl⟩
  have hk0 : Kept Nil w W0 := by rw [← hW0]; exact (Kept.refl Nil w).alloc _
  have p1 : W0.cell? ⟨w.heap.size, 1, none⟩ = some (.slice pa ps.length pc) := by rw [← hW0]; simp
  have p2 : W0.cell? ⟨w.heap.size, 2, none⟩ = some (.slice la ls.length lc) := by rw [← hW0]; simp
  have hsz : W0.heap.size = w.heap.size + 1 := by rw [← hW0]; simp
  have HW0 := Lib.hid hW0
  have HK0 := Lib.hid hk0
  have G1 := Lib.hid p1
  have G2 := Lib.hid p2
  have HSZ := Lib.hid hsz
  clear hW0 hk0 p1 p2
  unfold Md.val
  go_enter Try.func14, Try.ntmps14
  go_wp2_with fail
  rw [HW0.out]
  have hW1 : Kept Nil W0 (W0.alloc (.cells #[] 9)) := (Kept.refl Nil W0).alloc _
  have HO1 := Lib.hid (World.ownsRow_lit (base := w.heap.size + 1) (e := 9) (size := 1) W0 #[] 0 (by omega) (by decide) rfl)
  have HW1 := Lib.hid hW1
  clear hW1
  go_loopw [3, 4] (fun r i wr => ∃ k : Nat, k ≤ ps.length ∧ i = .int .i64 k ∧ wr.ownsRow (w.heap.size + 1) 9 1 r ((ps.take k).flatMap prNames).length (((ps.take k).flatMap prNames).map Value.string) ∧ Kept Nil W0 wr) (fun _ i _ => ps.length - (intOf i).toNat)
  case atStart => exact ⟨0, Nat.zero_le _, rfl, (by have h9 := HO1.out; rw [HSZ.out] at h9; simpa using h9), HW1.out⟩
  case round =>
    obtain ⟨k, hk, rfl, hO, hK⟩ := hrel
    have HO := Lib.hid hO
    have hKn := hK
    have HK := Lib.hid hKn
    have q1 := hKn.cell G1.out (fun h => h)
    have q2 := hKn.cell G2.out (fun h => h)
    have hzz := hK.size
    have hbx : w.heap.size < wr.heap.size := by omega
    clear hO hK hKn
    by_cases hlt : k < ps.length
    · obtain ⟨p, ep⟩ : ∃ p, ps[k]? = some p := ⟨_, List.getElem?_eq_getElem hlt⟩
      have hRM := HR.out.nil (HK0.out.step HK.out)
      obtain ⟨b, off, e1, c0, c1, c2, c3⟩ := hRM.p.at ep
      simp only at e1
      subst e1
      have hbs : b < wr.heap.size := World.block_lt_of_cell? _ _ c0
      have hpv := HVL.out p (List.mem_of_getElem? ep)
      have hnm : ((ps.take k).flatMap prNames).length + (prNames p).length ≤ 100000 := by
        have h9 := HN.out
        have e9 : ps = ps.take k ++ (p :: ps.drop (k + 1)) := by
          rw [← List.getElem?_eq_some_iff.1 ep |>.2, ← List.drop_eq_getElem_cons hlt, List.take_append_drop]
        unfold mdNames at h9
        simp only at h9
        rw [e9] at h9
        simp only [List.flatMap_append, List.flatMap_cons, List.length_append] at h9
        omega
      have hnm2 : (prNames p).length = p.vs.length + 1 := by simp [prNames]
      have HEP := Lib.hid ep
      have HRM := Lib.hid hRM
      clear ep hRM
      go_wp2_with (at_builtin; refine stop_append _ _ _ rfl ?_)
      unfold StopA
      refine wpList_append_own _ rfl _ _ 40 rfl (w.heap.size + 1) 9 j0 (.string ⟨#[]⟩) 1 16 Try.underlying40 hjnf hy0 hy1 hy2 rfl (by decide) _ _ _ rfl (HO.out.alloc _) ⟨wr.heap.size, 0, none⟩ 1 1 [.string p.name] rfl rfl (cells_new _ _ _) (by simp [Value.oneCell']) (by unfold maxLen; omega) (by omega) (by simp; omega) ?_
      intro r' w5 hown' hgrow _
      have HO5 := Lib.hid (show w5.ownsRow (w.heap.size + 1) 9 1 r' ((ps.take k).flatMap prNames ++ (p.name :: (p.vs.take 0).map V.name)).length (((ps.take k).flatMap prNames ++ (p.name :: (p.vs.take 0).map V.name)).map Value.string) from by simpa using hown')
      have hk5 : Kept Nil W0 w5 := (HK.out.alloc (.cells #[.string p.name] 9)).grown hgrow (fun j e => .inr (by have := (HO.out.lt j e).1; omega))
      have HK5 := Lib.hid hk5
      have hs5 := hk5.size
      have g1 := hk5.cell G1.out (fun h => h)
      obtain ⟨b', off', e', d0, d1, d2, d3⟩ := (HR.out.nil (HK0.out.step hk5)).p.at HEP.out
      simp only at e'
      cases e'
      obtain ⟨wa, hwa⟩ : ∃ x, x = wr := ⟨_, rfl⟩
      subst hwa
      clear hown' hgrow hk5 d0 d1 d3 c0 c1 c2 c3 q1 q2
      go_wp2_with fail
      go_loopw [3, 5] (fun r i wr => ∃ j : Nat, j ≤ p.vs.length ∧ i = .int .i64 j ∧ wr.ownsRow (w.heap.size + 1) 9 1 r ((ps.take k).flatMap prNames ++ (p.name :: (p.vs.take j).map V.name)).length (((ps.take k).flatMap prNames ++ (p.name :: (p.vs.take j).map V.name)).map Value.string) ∧ Kept Nil W0 wr) (fun _ i _ => p.vs.length - (intOf i).toNat)
      case atStart => exact ⟨0, Nat.zero_le _, rfl, HO5.out, HK5.out⟩
      case round =>
        obtain ⟨j, hj, rfl, hO, hK⟩ := hrel
        have HOj := Lib.hid hO
        have HKj := Lib.hid hK
        have q1 := hK.cell G1.out (fun h => h)
        have g2 := hK.cell G2.out (fun h => h)
        obtain ⟨b3, off3, e3, _, _, q2, _⟩ := (HR.out.nil (HK0.out.step hK)).p.at HEP.out
        simp only at e3
        cases e3
        have hzj := hK.size
        have hbx : w.heap.size < wr.heap.size := by omega
        have hbs : b < wr.heap.size := World.block_lt_of_cell? _ _ q2
        clear hO hK d2 g1
        by_cases hltj : j < p.vs.length
        · obtain ⟨v, ev⟩ : ∃ v, p.vs[j]? = some v := ⟨_, List.getElem?_eq_getElem hltj⟩
          obtain ⟨b2, off2, e2, v0, v1⟩ := ((HR.out.pp p (List.mem_of_getElem? HEP.out)).nil (HK0.out.step HKj.out)).v.at ev
          have hb2 : b2 < wr.heap.size := World.block_lt_of_cell? _ _ v0
          have hlj : ((ps.take k).flatMap prNames ++ (p.name :: (p.vs.take j).map V.name)).length = ((ps.take k).flatMap prNames).length + (j + 1) := by
            simp; omega
          have HEV := Lib.hid ev
          have HLJ := Lib.hid hlj
          have HE2 := Lib.hid e2
          clear ev hlj
          rw [e2] at q2
          clear e2
          have hlb : ((ps.take k).flatMap prNames ++ (p.name :: (p.vs.take j).map V.name)).length ≤ 100000 := by rw [HLJ.out]; omega
          go_wp2_with (at_builtin; refine stop_append _ _ _ rfl ?_)
          unfold StopA
          refine wpList_append_own _ rfl _ _ 40 rfl (w.heap.size + 1) 9 j0 (.string ⟨#[]⟩) 1 16 Try.underlying40 hjnf hy0 hy1 hy2 rfl (by decide) _ _ _ rfl (HOj.out.alloc _) ⟨wr.heap.size, 0, none⟩ 1 1 [.string v.name] rfl rfl (cells_new _ _ _) (by simp [Value.oneCell']) (by unfold maxLen; omega) (by omega) (by simp; omega) ?_
          intro r'' w6 hown' hgrow _
          have HO6 := Lib.hid (show w6.ownsRow (w.heap.size + 1) 9 1 r'' ((ps.take k).flatMap prNames ++ (p.name :: (p.vs.take (j + 1)).map V.name)).length (((ps.take k).flatMap prNames ++ (p.name :: (p.vs.take (j + 1)).map V.name)).map Value.string) from by
            rw [List.take_add_one, HEV.out, Option.toList_some]
            have h9 := hown'
            rw [HLJ.out] at h9
            have e9 : ((ps.take k).flatMap prNames ++ (p.name :: (p.vs.take j ++ [v]).map V.name)).length = ((ps.take k).flatMap prNames).length + (j + 1) + 1 := by simp; omega
            rw [e9]
            simpa using h9)
          have HK6 := Lib.hid ((HKj.out.alloc (.cells #[.string v.name] 9)).grown hgrow (fun i e => .inr (by have := (HOj.out.lt i e).1; omega)))
          clear hown' hgrow
          go_wp2_with fail
          go_round
          case measure => (simp [intOf] <;> omega)
          exact ⟨j + 1, by omega, by go_num, HO6.out, HK6.out⟩
        · obtain rfl : j = p.vs.length := by omega
          have HO6 := Lib.hid (show wr.ownsRow (w.heap.size + 1) 9 1 _ ((ps.take (k + 1)).flatMap prNames).length (((ps.take (k + 1)).flatMap prNames).map Value.string) from by
            have h9 := HOj.out
            rw [List.take_length] at h9
            rw [List.take_add_one, HEP.out, Option.toList_some, List.flatMap_append]
            simpa [prNames] using h9)
          clear hltj hj
          go_wp2_with fail
          go_round
          case measure => (simp [intOf] <;> omega)
          exact ⟨k + 1, by omega, by go_num, HO6.out, HKj.out⟩
    · obtain rfl : k = ps.length := by omega
      rw [List.take_length] at HO
      have hnl : (ps.flatMap prNames).length + ls.length ≤ 100000 := by
        have h9 := HN.out
        unfold mdNames at h9
        simpa using h9
      obtain ⟨wa, hwa⟩ : ∃ x, x = wr := ⟨_, rfl⟩
      subst hwa
      clear hlt hk
      go_wp2_with fail
      go_loopw [3, 6] (fun r i wr => ∃ j : Nat, j ≤ ls.length ∧ i = .int .i64 j ∧ wr.ownsRow (w.heap.size + 1) 9 1 r (ps.flatMap prNames ++ (ls.take j).map Lk.name).length ((ps.flatMap prNames ++ (ls.take j).map Lk.name).map Value.string) ∧ Kept Nil W0 wr) (fun _ i _ => ls.length - (intOf i).toNat)
      case atStart => exact ⟨0, Nat.zero_le _, rfl, by simpa using HO.out, HK.out⟩
      case round =>
        obtain ⟨j, hj, rfl, hO, hK⟩ := hrel
        have HOj := Lib.hid hO
        have HKj := Lib.hid hK
        have g2 := hK.cell G2.out (fun h => h)
        have hzj := hK.size
        have hbx : w.heap.size < wr.heap.size := by omega
        clear hO hK q1 q2
        by_cases hltj : j < ls.length
        · obtain ⟨l, el⟩ : ∃ l, ls[j]? = some l := ⟨_, List.getElem?_eq_getElem hltj⟩
          obtain ⟨b2, off2, e2, v0, v1, v2, v3, v4⟩ := (HR.out.nil (HK0.out.step HKj.out)).l.at el
          simp only at e2
          subst e2
          have hb2 : b2 < wr.heap.size := World.block_lt_of_cell? _ _ v0
          have hlj : (ps.flatMap prNames ++ (ls.take j).map Lk.name).length = (ps.flatMap prNames).length + j := by
            simp; omega
          have HEL := Lib.hid el
          have HLJ := Lib.hid hlj
          have hlb : (ps.flatMap prNames ++ (ls.take j).map Lk.name).length ≤ 100000 := by omega
          clear el hlj
          go_wp2_with (at_builtin; refine stop_append _ _ _ rfl ?_)
          unfold StopA
          refine wpList_append_own _ rfl _ _ 40 rfl (w.heap.size + 1) 9 j0 (.string ⟨#[]⟩) 1 16 Try.underlying40 hjnf hy0 hy1 hy2 rfl (by decide) _ _ _ rfl (HOj.out.alloc _) ⟨wr.heap.size, 0, none⟩ 1 1 [.string l.name] rfl rfl (cells_new _ _ _) (by simp [Value.oneCell']) (by unfold maxLen; omega) (by omega) (by simp; omega) ?_
          intro r'' w6 hown' hgrow _
          have HO6 := Lib.hid (show w6.ownsRow (w.heap.size + 1) 9 1 r'' (ps.flatMap prNames ++ (ls.take (j + 1)).map Lk.name).length ((ps.flatMap prNames ++ (ls.take (j + 1)).map Lk.name).map Value.string) from by
            rw [List.take_add_one, HEL.out, Option.toList_some]
            have h9 := hown'
            rw [HLJ.out] at h9
            have e9 : (ps.flatMap prNames ++ (ls.take j ++ [l]).map Lk.name).length = (ps.flatMap prNames).length + j + 1 := by simp; omega
            rw [e9]
            simpa using h9)
          have HK6 := Lib.hid ((HKj.out.alloc (.cells #[.string l.name] 9)).grown hgrow (fun i e => .inr (by have := (HOj.out.lt i e).1; omega)))
          clear hown' hgrow
          go_wp2_with fail
          go_round
          case measure => (simp [intOf] <;> omega)
          exact ⟨j + 1, by omega, by go_num, HO6.out, HK6.out⟩
        · obtain rfl : j = ls.length := by omega
          rw [List.take_length] at HOj
          go_wp2_with fail
          go_ret
          refine ⟨_, rfl, ?_, HK0.out.step HKj.out⟩
          have h9 := own_lower (base' := w.heap.size) HOj.out (fun i e => by have := (HOj.out.lt i e).1; omega)
          exact h9
end Go.Proofs.Ytehecolejeonaaa.Mo
