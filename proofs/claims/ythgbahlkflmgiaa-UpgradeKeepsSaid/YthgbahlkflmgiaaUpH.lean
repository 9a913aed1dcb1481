/- What the statements of sandtablelaw20 call: alive, Few, Names, Same; and the plain laws. -/
import Derived.Test.YthgbahlkflmgiaaModels
import Derived.Test.YthgbahlkflmgiaaBasics
import Derived.Test.YthgbahlkflmgiaaCkSmall
import Derived.Laws.StructEq
import Derived.Test.YthgbahlkflmgiaaRefUp
import Derived.Test.YthgbahlkflmgiaaUpP
import Derived.Test.YthgbahlkflmgiaaLat
import Derived.Test.YthgbahlkflmgiaaModelO
section
namespace Go.Proofs.Ythgbahlkflmgiaa.Mo
open Go Go.RowKit Go.Proofs.Ythgbahlkflmgiaa.Lb
set_option linter.unusedVariables false
set_option linter.unusedSimpArgs false


set_option maxHeartbeats 4000000 in
theorem Names_is (m : Md) (w : World) (hr : RModel w m) (hn : (mdNames m).length ≤ 100000) (hpl : m.ps.length ≤ 1000) (hll : m.ls.length ≤ 1000) (hvl : ∀ q ∈ m.ps, q.vs.length ≤ 1000) :
    Calls Try.prog 19 #[m.val] w fun e w' => ∃ v, e = .returned v ∧ w'.ownsRow w.heap.size 9 1 v (mdNames m).length ((mdNames m).map Value.string) ∧ Kept Nil w w' := by
  obtain ⟨j0, hjnf, hy0, hy1, hy2⟩ := info_parts infoStr
  obtain ⟨ver, pa, ps, pc, la, ls, lc, ea, es, ec⟩ := m
  simp only at *
  have HR := Lib.hid hr
  have HN := Lib.hid hn
  have HVL := Lib.hid hvl
  clear hr hn hvl
  obtain ⟨W0, hW0⟩ : ∃ W0, w.alloc (.cells #[.int .i64 ver, .slice pa ps.length pc, .slice la ls.length lc, .slice ea es.length ec] 26) = W0 := ⟨_, rfl⟩
  have hk0 : Kept Nil w W0 := by rw [← hW0]; exact (Kept.refl Nil w).alloc _
  have p1 : W0.cell? ⟨w.heap.size, 1, none⟩ = some (.slice pa ps.length pc) := by rw [← hW0]; simp
  have p2 : W0.cell? ⟨w.heap.size, 2, none⟩ = some (.slice la ls.length lc) := by rw [← hW0]; simp
  have hsz : W0.heap.size = w.heap.size + 1 := by rw [← hW0]; simp
  have HW0 := Lib.hid hW0
  have HK0 := Lib.hid hk0
  have G1 := Lib.hid p1
  have G2 := Lib.hid p2
  have HSZ := Lib.hid hsz
  clear hW0 hk0 p1 p2
  unfold Md.val
  go_enter Try.func19, Try.ntmps19
  go_wp2_with fail
  rw [HW0.out]
  have hW1 : Kept Nil W0 (W0.alloc (.cells #[] 9)) := (Kept.refl Nil W0).alloc _
  have HO1 := Lib.hid (World.ownsRow_lit (base := w.heap.size + 1) (e := 9) (size := 1) W0 #[] 0 (by omega) (by decide) rfl)
  have HW1 := Lib.hid hW1
  clear hW1
  go_loopw [3, 4] (fun r i wr => ∃ k : Nat, k ≤ ps.length ∧ i = .int .i64 k ∧ wr.ownsRow (w.heap.size + 1) 9 1 r ((ps.take k).flatMap prNames).length (((ps.take k).flatMap prNames).map Value.string) ∧ Kept Nil W0 wr) (fun _ i _ => ps.length - (intOf i).toNat)
  case atStart => exact ⟨0, Nat.zero_le _, rfl, (by have h9 := HO1.out; rw [HSZ.out] at h9; simpa using h9), HW1.out⟩
  case round =>
    obtain ⟨k, hk, rfl, hO, hK⟩ := hrel
    have HO := Lib.hid hO
    have hKn := hK
    have HK := Lib.hid hKn
    have q1 := hKn.cell G1.out (fun h => h)
    have q2 := hKn.cell G2.out (fun h => h)
    have hzz := hK.size
    have hbx : w.heap.size < wr.heap.size := by omega
    clear hO hK hKn
    by_cases hlt : k < ps.length
    · obtain ⟨p, ep⟩ : ∃ p, ps[k]? = some p := ⟨_, List.getElem?_eq_getElem hlt⟩
      have hRM := HR.out.nil (HK0.out.step HK.out)
      obtain ⟨b, off, e1, c0, c1, c2, c3⟩ := hRM.p.at ep
      simp only at e1
      subst e1
      have hbs : b < wr.heap.size := World.block_lt_of_cell? _ _ c0
      have hpv := HVL.out p (List.mem_of_getElem? ep)
      have hnm : ((ps.take k).flatMap prNames).length + (prNames p).length ≤ 100000 := by
        have h9 := HN.out
        have e9 : ps = ps.take k ++ (p :: ps.drop (k + 1)) := by
          rw [← List.getElem?_eq_some_iff.1 ep |>.2, ← List.drop_eq_getElem_cons hlt, List.take_append_drop]
        unfold mdNames at h9
        simp only at h9
        rw [e9] at h9
        simp only [List.flatMap_append, List.flatMap_cons, List.length_append] at h9
        omega
      have hnm2 : (prNames p).length = p.vs.length + 1 := by simp [prNames]
      have HEP := Lib.hid ep
      have HRM := Lib.hid hRM
      clear ep hRM
      go_wp2_with (at_builtin; refine stop_append _ _ _ rfl ?_)
      unfold StopA
      refine wpList_append_own _ rfl _ _ 45 rfl (w.heap.size + 1) 9 j0 (.string ⟨#[]⟩) 1 16 Try.underlying45 hjnf hy0 hy1 hy2 rfl (by decide) _ _ _ rfl (HO.out.alloc _) ⟨wr.heap.size, 0, none⟩ 1 1 [.string p.name] rfl rfl (cells_new _ _ _) (by simp [Value.oneCell']) (by unfold maxLen; omega) (by omega) (by simp; omega) ?_
      intro r' w5 hown' hgrow _
      have HO5 := Lib.hid (show w5.ownsRow (w.heap.size + 1) 9 1 r' ((ps.take k).flatMap prNames ++ (p.name :: (p.vs.take 0).map V.name)).length (((ps.take k).flatMap prNames ++ (p.name :: (p.vs.take 0).map V.name)).map Value.string) from by simpa using hown')
      have hk5 : Kept Nil W0 w5 := (HK.out.alloc (.cells #[.string p.name] 9)).grown hgrow (fun j e => .inr (by have := (HO.out.lt j e).1; omega))
      have HK5 := Lib.hid hk5
      have hs5 := hk5.size
      have g1 := hk5.cell G1.out (fun h => h)
      obtain ⟨b', off', e', d0, d1, d2, d3⟩ := (HR.out.nil (HK0.out.step hk5)).p.at HEP.out
      simp only at e'
      cases e'
      obtain ⟨wa, hwa⟩ : ∃ x, x = wr := ⟨_, rfl⟩
      subst hwa
      clear hown' hgrow hk5 d0 d1 d3 c0 c1 c2 c3 q1 q2
      go_wp2_with fail
      go_loopw [3, 5] (fun r i wr => ∃ j : Nat, j ≤ p.vs.length ∧ i = .int .i64 j ∧ wr.ownsRow (w.heap.size + 1) 9 1 r ((ps.take k).flatMap prNames ++ (p.name :: (p.vs.take j).map V.name)).length (((ps.take k).flatMap prNames ++ (p.name :: (p.vs.take j).map V.name)).map Value.string) ∧ Kept Nil W0 wr) (fun _ i _ => p.vs.length - (intOf i).toNat)
      case atStart => exact ⟨0, Nat.zero_le _, rfl, HO5.out, HK5.out⟩
      case round =>
        obtain ⟨j, hj, rfl, hO, hK⟩ := hrel
        have HOj := Lib.hid hO
        have HKj := Lib.hid hK
        have q1 := hK.cell G1.out (fun h => h)
        have g2 := hK.cell G2.out (fun h => h)
        obtain ⟨b3, off3, e3, _, _, q2, _⟩ := (HR.out.nil (HK0.out.step hK)).p.at HEP.out
        simp only at e3
        cases e3
        have hzj := hK.size
        have hbx : w.heap.size < wr.heap.size := by omega
        have hbs : b < wr.heap.size := World.block_lt_of_cell? _ _ q2
        clear hO hK d2 g1
        by_cases hltj : j < p.vs.length
        · obtain ⟨v, ev⟩ : ∃ v, p.vs[j]? = some v := ⟨_, List.getElem?_eq_getElem hltj⟩
          obtain ⟨b2, off2, e2, v0, v1⟩ := ((HR.out.pp p (List.mem_of_getElem? HEP.out)).nil (HK0.out.step HKj.out)).v.at ev
          have hb2 : b2 < wr.heap.size := World.block_lt_of_cell? _ _ v0
          have hlj : ((ps.take k).flatMap prNames ++ (p.name :: (p.vs.take j).map V.name)).length = ((ps.take k).flatMap prNames).length + (j + 1) := by
            simp; omega
          have HEV := Lib.hid ev
          have HLJ := Lib.hid hlj
          have HE2 := Lib.hid e2
          clear ev hlj
          rw [e2] at q2
          clear e2
          have hlb : ((ps.take k).flatMap prNames ++ (p.name :: (p.vs.take j).map V.name)).length ≤ 100000 := by rw [HLJ.out]; omega
          go_wp2_with (at_builtin; refine stop_append _ _ _ rfl ?_)
          unfold StopA
          refine wpList_append_own _ rfl _ _ 45 rfl (w.heap.size + 1) 9 j0 (.string ⟨#[]⟩) 1 16 Try.underlying45 hjnf hy0 hy1 hy2 rfl (by decide) _ _ _ rfl (HOj.out.alloc _) ⟨wr.heap.size, 0, none⟩ 1 1 [.string v.name] rfl rfl (cells_new _ _ _) (by simp [Value.oneCell']) (by unfold maxLen; omega) (by omega) (by simp; omega) ?_
          intro r'' w6 hown' hgrow _
          have HO6 := Lib.hid (show w6.ownsRow (w.heap.size + 1) 9 1 r'' ((ps.take k).flatMap prNames ++ (p.name :: (p.vs.take (j + 1)).map V.name)).length (((ps.take k).flatMap prNames ++ (p.name :: (p.vs.take (j + 1)).map V.name)).map Value.string) from by
            rw [List.take_add_one, HEV.out, Option.toList_some]
            have h9 := hown'
            rw [HLJ.out] at h9
            have e9 : ((ps.take k).flatMap prNames ++ (p.name :: (p.vs.take j ++ [v]).map V.name)).length = ((ps.take k).flatMap prNames).length + (j + 1) + 1 := by simp; omega
            rw [e9]
            simpa using h9)
          have HK6 := Lib.hid ((HKj.out.alloc (.cells #[.string v.name] 9)).grown hgrow (fun i e => .inr (by have := (HOj.out.lt i e).1; omega)))
          clear hown' hgrow
          go_wp2_with fail
          go_round
          case measure => (simp [intOf] <;> omega)
          exact ⟨j + 1, by omega, by go_num, HO6.out, HK6.out⟩
        · obtain rfl : j = p.vs.length := by omega
          have HO6 := Lib.hid (show wr.ownsRow (w.heap.size + 1) 9 1 _ ((ps.take (k + 1)).flatMap prNames).length (((ps.take (k + 1)).flatMap prNames).map Value.string) from by
            have h9 := HOj.out
            rw [List.take_length] at h9
            rw [List.take_add_one, HEP.out, Option.toList_some, List.flatMap_append]
            simpa [prNames] using h9)
          clear hltj hj
          go_wp2_with fail
          go_round
          case measure => (simp [intOf] <;> omega)
          exact ⟨k + 1, by omega, by go_num, HO6.out, HKj.out⟩
    · obtain rfl : k = ps.length := by omega
      rw [List.take_length] at HO
      have hnl : (ps.flatMap prNames).length + ls.length ≤ 100000 := by
        have h9 := HN.out
        unfold mdNames at h9
        simpa using h9
      obtain ⟨wa, hwa⟩ : ∃ x, x = wr := ⟨_, rfl⟩
      subst hwa
      clear hlt hk
      go_wp2_with fail
      go_loopw [3, 6] (fun r i wr => ∃ j : Nat, j ≤ ls.length ∧ i = .int .i64 j ∧ wr.ownsRow (w.heap.size + 1) 9 1 r (ps.flatMap prNames ++ (ls.take j).map Lk.name).length ((ps.flatMap prNames ++ (ls.take j).map Lk.name).map Value.string) ∧ Kept Nil W0 wr) (fun _ i _ => ls.length - (intOf i).toNat)
      case atStart => exact ⟨0, Nat.zero_le _, rfl, by simpa using HO.out, HK.out⟩
      case round =>
        obtain ⟨j, hj, rfl, hO, hK⟩ := hrel
        have HOj := Lib.hid hO
        have HKj := Lib.hid hK
        have g2 := hK.cell G2.out (fun h => h)
        have hzj := hK.size
        have hbx : w.heap.size < wr.heap.size := by omega
        clear hO hK q1 q2
        by_cases hltj : j < ls.length
        · obtain ⟨l, el⟩ : ∃ l, ls[j]? = some l := ⟨_, List.getElem?_eq_getElem hltj⟩
          obtain ⟨b2, off2, e2, v0, v1, v2, v3, v4⟩ := (HR.out.nil (HK0.out.step HKj.out)).l.at el
          simp only at e2
          subst e2
          have hb2 : b2 < wr.heap.size := World.block_lt_of_cell? _ _ v0
          have hlj : (ps.flatMap prNames ++ (ls.take j).map Lk.name).length = (ps.flatMap prNames).length + j := by
            simp; omega
          have HEL := Lib.hid el
          have HLJ := Lib.hid hlj
          have hlb : (ps.flatMap prNames ++ (ls.take j).map Lk.name).length ≤ 100000 := by omega
          clear el hlj
          go_wp2_with (at_builtin; refine stop_append _ _ _ rfl ?_)
          unfold StopA
          refine wpList_append_own _ rfl _ _ 45 rfl (w.heap.size + 1) 9 j0 (.string ⟨#[]⟩) 1 16 Try.underlying45 hjnf hy0 hy1 hy2 rfl (by decide) _ _ _ rfl (HOj.out.alloc _) ⟨wr.heap.size, 0, none⟩ 1 1 [.string l.name] rfl rfl (cells_new _ _ _) (by simp [Value.oneCell']) (by unfold maxLen; omega) (by omega) (by simp; omega) ?_
          intro r'' w6 hown' hgrow _
          have HO6 := Lib.hid (show w6.ownsRow (w.heap.size + 1) 9 1 r'' (ps.flatMap prNames ++ (ls.take (j + 1)).map Lk.name).length ((ps.flatMap prNames ++ (ls.take (j + 1)).map Lk.name).map Value.string) from by
            rw [List.take_add_one, HEL.out, Option.toList_some]
            have h9 := hown'
            rw [HLJ.out] at h9
            have e9 : (ps.flatMap prNames ++ (ls.take j ++ [l]).map Lk.name).length = (ps.flatMap prNames).length + j + 1 := by simp; omega
            rw [e9]
            simpa using h9)
          have HK6 := Lib.hid ((HKj.out.alloc (.cells #[.string l.name] 9)).grown hgrow (fun i e => .inr (by have := (HOj.out.lt i e).1; omega)))
          clear hown' hgrow
          go_wp2_with fail
          go_round
          case measure => (simp [intOf] <;> omega)
          exact ⟨j + 1, by omega, by go_num, HO6.out, HK6.out⟩
        · obtain rfl : j = ls.length := by omega
          rw [List.take_length] at HOj
          go_wp2_with fail
          go_ret
          refine ⟨_, rfl, ?_, HK0.out.step HKj.out⟩
          have h9 := own_lower (base' := w.heap.size) HOj.out (fun i e => by have := (HOj.out.lt i e).1; omega)
          exact h9
end Go.Proofs.Ythgbahlkflmgiaa.Mo
end
section
namespace Go.Proofs.Ythgbahlkflmgiaa.Mo
open Go Go.RowKit Go.Proofs.Ythgbahlkflmgiaa.Lb
set_option linter.unusedVariables false
set_option linter.unusedSimpArgs false

/-- A model with few parts, of short names. -/
structure FewP (m : Md) : Prop where
  pl : m.ps.length ≤ 12
  ll : m.ls.length ≤ 24
  el : m.es.length ≤ 24
  vs : ∀ q ∈ m.ps, q.vs.length ≤ 70 ∧ q.ss.length ≤ 300
  short : ∀ s ∈ mdNames m, s.size ≤ 80
theorem names_le {m : Md} (h1 : m.ps.length ≤ 12) (h2 : m.ls.length ≤ 24) (h3 : ∀ q ∈ m.ps, q.vs.length ≤ 70) : (mdNames m).length ≤ 100000 := by
  unfold mdNames
  rw [List.length_append, List.length_map, List.length_flatMap]
  have hf : (fun a => (prNames a).length) = (fun a : Pr => a.vs.length + 1) := by funext a; simp [prNames]
  rw [hf]
  have : (m.ps.map (fun a : Pr => a.vs.length + 1)).sum ≤ m.ps.length * 71 := by
    have h3' := h3
    generalize m.ps = l at *
    induction l with
    | nil => simp
    | cons p l ih =>
      have := ih (by simp at h1; omega) (fun q hq => h3 q (List.mem_cons_of_mem _ hq)) (fun q hq => h3 q (List.mem_cons_of_mem _ hq))
      have := h3 p (List.mem_cons_self ..)
      simp only [List.map_cons, List.sum_cons, List.length_cons]
      omega
  omega
theorem own_slice {w : World} {base e size n : Nat} {v : Value} {xs : List Value} (h : w.ownsRow base e size v n xs) : ∃ A cap, v = .slice A n cap := by
  rcases own_form h with ⟨h1, h2, _⟩ | ⟨g, cap, h1, _⟩
  · exact ⟨none, 0, by rw [h1, h2]⟩
  · exact ⟨_, _, h1⟩
structure FewEnd (m : Md) (w : World) (e : Ending) (w' : World) : Prop where
  ex : ∃ b, e = .returned (.bool b) ∧ (b = true → FewP m) ∧ Kept Nil w w'
set_option maxHeartbeats 4000000 in
theorem Few_is (m : Md) (w : World) (hr : RModel w m) : Calls Try.prog 8 #[m.val] w fun e w' => FewEnd m w e w' := by
  have HM := Lib.hid hr
  obtain ⟨ver, pa, ps, pc, la, ls, lc, ea, es, ec⟩ := m
  have hpl := hr.pl
  have hll := hr.ll
  have hel := hr.el
  unfold maxLen at hpl hll hel
  simp only at *
  have HR := Lib.hid hr
  clear hr
  obtain ⟨W0, hW0⟩ : ∃ W0, w.alloc (.cells #[.int .i64 ver, .slice pa ps.length pc, .slice la ls.length lc, .slice ea es.length ec] 26) = W0 := ⟨_, rfl⟩
  have hk0 : Kept Nil w W0 := by rw [← hW0]; exact (Kept.refl Nil w).alloc _
  have p0 : W0.cell? ⟨w.heap.size, 0, none⟩ = some (.int .i64 ver) := by rw [← hW0]; simp
  have p1 : W0.cell? ⟨w.heap.size, 1, none⟩ = some (.slice pa ps.length pc) := by rw [← hW0]; simp
  have p2 : W0.cell? ⟨w.heap.size, 2, none⟩ = some (.slice la ls.length lc) := by rw [← hW0]; simp
  have p3 : W0.cell? ⟨w.heap.size, 3, none⟩ = some (.slice ea es.length ec) := by rw [← hW0]; simp
  have hsz : W0.heap.size = w.heap.size + 1 := by rw [← hW0]; simp
  have HW0 := Lib.hid hW0
  have HK0 := Lib.hid hk0
  have G0 := Lib.hid p0
  have G1 := Lib.hid p1
  have G2 := Lib.hid p2
  have G3 := Lib.hid p3
  have HSZ := Lib.hid hsz
  clear hW0 hk0 p0 p1 p2 p3
  unfold Md.val
  simp only
  by_cases h0 : 12 < ps.length
  · go_enter Try.func8, Try.ntmps8
    go_wp2_with fail
    go_ret
    exact ⟨⟨false, rfl, (fun h => by cases h), (by (repeat (first | exact Kept.refl _ _ | refine Kept.drew ?_ | refine Kept.alloc ?_ _)))⟩⟩
  by_cases h1 : 24 < ls.length
  · go_enter Try.func8, Try.ntmps8
    go_wp2_with fail
    go_ret
    exact ⟨⟨false, rfl, (fun h => by cases h), (by (repeat (first | exact Kept.refl _ _ | refine Kept.drew ?_ | refine Kept.alloc ?_ _)))⟩⟩
  by_cases h2 : 24 < es.length
  · go_enter Try.func8, Try.ntmps8
    go_wp2_with fail
    go_ret
    exact ⟨⟨false, rfl, (fun h => by cases h), (by (repeat (first | exact Kept.refl _ _ | refine Kept.drew ?_ | refine Kept.alloc ?_ _)))⟩⟩
  go_enter Try.func8, Try.ntmps8
  go_wp2_with fail
  rw [HW0.out]
  go_loopw [3] (fun i wr => ∃ k : Nat, k ≤ ps.length ∧ i = .int .i64 k ∧ (∀ (j : Nat) (q : Pr), j < k → ps[j]? = some q → q.vs.length ≤ 70 ∧ q.ss.length ≤ 300) ∧ Kept Nil W0 wr) (fun i _ => ps.length - (intOf i).toNat)
  case atStart => exact ⟨0, Nat.zero_le _, rfl, fun j s h => by omega, Kept.refl _ _⟩
  case round =>
    obtain ⟨k, hk, rfl, hall, hK⟩ := hrel
    have HALL := Lib.hid hall
    have HK := Lib.hid hK
    have q0 := hK.cell G0.out (fun h => h)
    have q1 := hK.cell G1.out (fun h => h)
    have q2 := hK.cell G2.out (fun h => h)
    have q3 := hK.cell G3.out (fun h => h)
    have hzz := hK.size
    have hbx : w.heap.size < wr.heap.size := by omega
    clear hall hK
    by_cases hlt : k < ps.length
    · obtain ⟨p, ep⟩ : ∃ p, ps[k]? = some p := ⟨_, List.getElem?_eq_getElem hlt⟩
      have hRM := HR.out.nil (HK0.out.step HK.out)
      obtain ⟨b, off, e1, c0, c1, c2, c3⟩ := hRM.p.at ep
      simp only at e1
      subst e1
      have hbs : b < wr.heap.size := World.block_lt_of_cell? _ _ c0
      have HEP := Lib.hid ep
      have hv1 := (HR.out.pp p (List.mem_of_getElem? ep)).vl
      have hv2 := (HR.out.pp p (List.mem_of_getElem? ep)).sl
      unfold maxLen at hv1 hv2
      clear ep hRM
      by_cases hv : 70 < p.vs.length
      · go_wp2_with fail
        go_ret
        exact ⟨⟨false, rfl, (fun h => by cases h), HK0.out.step HK.out⟩⟩
      · by_cases hs : 300 < p.ss.length
        · go_wp2_with fail
          go_ret
          exact ⟨⟨false, rfl, (fun h => by cases h), HK0.out.step HK.out⟩⟩
        · go_wp2_with fail
          go_round
          case measure => (simp [intOf] <;> omega)
          refine ⟨k + 1, by omega, by go_num, fun j u hj hu => ?_, HK.out⟩
          by_cases e : j = k
          · subst e; rw [HEP.out] at hu; cases hu; exact ⟨by omega, by omega⟩
          · exact HALL.out j u (by omega) hu
    · obtain rfl : k = ps.length := by omega
      have hqs : ∀ q ∈ ps, q.vs.length ≤ 70 ∧ q.ss.length ≤ 300 := fun q hq => by
        obtain ⟨j, hj, rfl⟩ := List.mem_iff_getElem.1 hq
        exact HALL.out j _ hj (List.getElem?_eq_getElem hj)
      have HQS := Lib.hid hqs
      clear hlt hk hqs
      go_wp2_with fail
      refine (Names_is ⟨ver, pa, ps, pc, la, ls, lc, ea, es, ec⟩ wr (HR.out.nil (HK0.out.step HK.out)) (names_le (by simp only; omega) (by simp only; omega) (fun q hq => (HQS.out q hq).1)) (by simp only; omega) (by simp only; omega) (fun q hq => by have := (HQS.out q hq).1; omega)).mono ?_
      rintro e w3 ⟨v3, rfl, O3, hk3⟩
      obtain ⟨ns, hns⟩ : ∃ ns, mdNames ⟨ver, pa, ps, pc, la, ls, lc, ea, es, ec⟩ = ns := ⟨_, rfl⟩
      have hnl : ns.length ≤ 100000 := by rw [← hns]; exact names_le (by simp only; omega) (by simp only; omega) (fun q hq => (HQS.out q hq).1)
      rw [hns] at O3
      have HNS := Lib.hid hns
      obtain ⟨A3, c3, rfl⟩ := own_slice O3
      have HO3 := Lib.hid O3
      have HK3 := Lib.hid ((HK0.out.step HK.out).step hk3)
      clear hns O3 hk3 q0 q1 q2 q3
      go_wp2_with fail
      obtain ⟨wa, hwa⟩ : ∃ x, x = wr := ⟨_, rfl⟩
      subst hwa
      go_loopw [5] (fun i wr => ∃ k : Nat, k ≤ ns.length ∧ i = .int .i64 k ∧ (∀ (j : Nat) (s : ByteArray), j < k → ns[j]? = some s → s.size ≤ 80) ∧ Kept Nil w3 wr) (fun i _ => ns.length - (intOf i).toNat)
      case atStart => exact ⟨0, Nat.zero_le _, rfl, fun j s h => by omega, Kept.refl _ _⟩
      case round =>
        obtain ⟨k, hk, rfl, hall, hK⟩ := hrel
        have HALLs := Lib.hid hall
        have HKs := Lib.hid hK
        clear hall hK
        by_cases hlt : k < ns.length
        · obtain ⟨s, es'⟩ : ∃ s, ns[k]? = some s := ⟨_, List.getElem?_eq_getElem hlt⟩
          have HES := Lib.hid es'
          obtain ⟨g3, rfl⟩ : ∃ g3, A3 = some ⟨g3, 0, none⟩ := by
            rcases own_form HO3.out with ⟨h1, h2, _⟩ | ⟨g, cap, h1, _⟩
            · omega
            · cases h1; exact ⟨g, rfl⟩
          have c0 := (HKs.out.own HO3.out (fun _ _ h => h))
          have c1 := own_cell c0 (j := k) (u := .string s) (by rw [List.getElem?_map, HES.out]; rfl)
          clear es' c0
          by_cases hs : 80 < s.size
          · go_wp2_with fail
            go_ret
            exact ⟨⟨false, rfl, (fun h => by cases h), HK3.out.step HKs.out⟩⟩
          · go_wp2_with fail
            go_round
            case measure => (simp [intOf] <;> omega)
            refine ⟨k + 1, by omega, by go_num, fun j u hj hu => ?_, HKs.out⟩
            by_cases e : j = k
            · subst e; rw [HES.out] at hu; cases hu; omega
            · exact HALLs.out j u (by omega) hu
        · obtain rfl : k = ns.length := by omega
          go_wp2_with fail
          go_ret
          refine ⟨⟨true, rfl, fun _ => ⟨by simp only; omega, by simp only; omega, by simp only; omega, HQS.out, fun s hs => ?_⟩, HK3.out.step HKs.out⟩⟩
          rw [HNS.out] at hs
          obtain ⟨j, hj, rfl⟩ := List.mem_iff_getElem.1 hs
          exact HALLs.out j _ hj (List.getElem?_eq_getElem hj)
end Go.Proofs.Ythgbahlkflmgiaa.Mo
end
section
namespace Go.Proofs.Ythgbahlkflmgiaa.Mo
set_option linter.unusedSimpArgs false
set_option linter.unusedVariables false
open Go Go.RowKit
theorem fault_eq (a b c d : Int) (w : World) : (binOp .eql 32 (.agg #[.int .i64 a, .int .i64 b]) (.agg #[.int .i64 c, .int .i64 d])).run Try.prog w = .ok (.bool ((a == c) && (b == d))) w := by
  have hf : Try.prog.fieldsOf 32 = #[Try.prog.fieldsOf 32 |>.getD 0 default, Try.prog.fieldsOf 32 |>.getD 1 default] := by kernel_rfl
  rw [run_eql_struct, run_equalIn_struct (d := 9999) w _ _ _ (by kernel_rfl) (by kernel_rfl)]
  have h0 : ∀ x y : Int, (Go.part ((Try.prog.fieldsOf 32).getD 0 default).type #[.int .i64 x, .int .i64 y] ((Try.prog.fieldsOf 32).getD 0 default).offset).run Try.prog w = .ok (.int .i64 x) w := fun _ _ => by kernel_rfl
  have h1 : ∀ x y : Int, (Go.part ((Try.prog.fieldsOf 32).getD 1 default).type #[.int .i64 x, .int .i64 y] ((Try.prog.fieldsOf 32).getD 1 default).offset).run Try.prog w = .ok (.int .i64 y) w := fun _ _ => by kernel_rfl
  have n0 : ((Try.prog.fieldsOf 32).getD 0 default).name ≠ "_" := by decide +kernel
  have n1 : ((Try.prog.fieldsOf 32).getD 1 default).name ≠ "_" := by decide +kernel
  have u0 : Try.prog.underlying ((Try.prog.fieldsOf 32).getD 0 default).type = some (.int .i64) := by kernel_rfl
  have u1 : Try.prog.underlying ((Try.prog.fieldsOf 32).getD 1 default).type = some (.int .i64) := by kernel_rfl
  rw [hf]
  generalize (Try.prog.fieldsOf 32).getD 0 default = f0 at *
  generalize (Try.prog.fieldsOf 32).getD 1 default = f1 at *
  simp only [Op.eqFields, n0, n1, ne_eq, not_false_eq_true, if_true, Sem.run_bind, h0, Result.andThen_ok, run_equalIn_int w 9998 _ .i64 .i64 _ _ u0]
  have e1 := fun x y : Int => run_equalIn_int w 9998 _ .i64 .i64 x y u1
  have e0 := fun x y : Int => run_equalIn_int w 9998 _ .i64 .i64 x y u0
  cases h2 : (a == c)
  · simp [h2]
  · cases h3 : (b == d) <;> simp [h2, h3, Op.eqFields, n0, n1, h1, e1, Sem.run_bind, Result.andThen_ok]
theorem fault_ne (a b c d : Int) (w : World) : (binOp .neq 32 (.agg #[.int .i64 a, .int .i64 b]) (.agg #[.int .i64 c, .int .i64 d])).run Try.prog w = .ok (.bool (!((a == c) && (b == d)))) w := by
  have h := fault_eq a b c d w
  rw [run_eql_struct] at h
  rw [run_neq_struct]
  revert h
  generalize (Op.equalIn 10000 32 (.agg #[.int .i64 a, .int .i64 b]) (.agg #[.int .i64 c, .int .i64 d])).run Try.prog w = r
  intro h
  cases r with
  | ok x w1 => simp only [Result.andThen_ok, Result.ok.injEq, Value.bool.injEq] at h ⊢; rw [h.1, h.2]; exact ⟨rfl, rfl⟩
  | halt x w1 => simp [Result.andThen] at h
end Go.Proofs.Ythgbahlkflmgiaa.Mo
end
section
namespace Go.Proofs.Ythgbahlkflmgiaa.Mo
open Go Go.RowKit Go.Proofs.Ythgbahlkflmgiaa.Lb
set_option linter.unusedVariables false
set_option linter.unusedSimpArgs false

set_option maxHeartbeats 2000000 in
theorem Same_is (xs : List ByteArray) (A B : Option Addr) (capA capB : Nat) (w : World) (hr : RStrs w A xs) (hr2 : RStrs w B xs) (hn : xs.length ≤ 4294967296) :
    Calls Try.prog 18 #[.slice A xs.length capA, .slice B xs.length capB] w fun e w' => e = .returned (.bool true) ∧ Kept Nil w w' := by
  have HR := Lib.hid hr
  have HR2 := Lib.hid hr2
  clear hr hr2
  go_enter Try.func18, Try.ntmps18
  go_wp2
  go_loopw [5] (fun i wr => ∃ k : Nat, k ≤ xs.length ∧ i = .int .i64 k ∧ Kept Nil w wr) (fun i _ => xs.length - (intOf i).toNat)
  case atStart => exact ⟨0, Nat.zero_le _, rfl, Kept.refl _ _⟩
  case round =>
    obtain ⟨k, hk, rfl, hK⟩ := hrel
    have HK := Lib.hid hK
    clear hK
    by_cases hlt : k < xs.length
    · obtain ⟨z, ez⟩ : ∃ x, xs[k]? = some x := ⟨_, List.getElem?_eq_getElem hlt⟩
      obtain ⟨b, off, rfl, c0⟩ := (HR.out.kept HK.out (fun _ _ _ _ h => h)).at ez
      obtain ⟨b2, off2, rfl, d0⟩ := (HR2.out.kept HK.out (fun _ _ _ _ h => h)).at ez
      clear ez
      go_wp2_with fail
      go_big_quiet (fail)
      go_wp2_with fail
      go_round
      case rel => exact ⟨k + 1, by omega, by go_num, HK.out.drewN _⟩
      case measure => (simp [intOf] <;> omega)
    · obtain rfl : k = xs.length := by omega
      go_wp2
      go_ret
      exact ⟨rfl, HK.out⟩
end Go.Proofs.Ythgbahlkflmgiaa.Mo
end
section
namespace Go.Proofs.Ythgbahlkflmgiaa.Mo
open Go Go.RowKit Go.Proofs.Ythgbahlkflmgiaa.Lb
set_option linter.unusedVariables false
set_option linter.unusedSimpArgs false
set_option maxRecDepth 8000
def smp (d : Int) (b : Nat) : Md := ⟨1, some ⟨b + 1, 0, none⟩, [⟨⟨#[97]⟩, 0, none, [], 0, none, [], 0⟩], 1, some ⟨b + 1 + 1, 0, none⟩, [⟨⟨#[108]⟩, ⟨#[97]⟩, ⟨#[97]⟩, d, 0⟩], 1, none, [], 0⟩
set_option maxHeartbeats 4000000 in
theorem sample_is (d : Int) (w : World) (hd : Sc.I64 d) : Calls Try.prog 20 #[.int .i64 d] w fun e w' => e = .returned (.agg #[.int .i64 1, .slice (some ⟨w.heap.size + 1, 0, none⟩) 1 1, .slice (some ⟨w.heap.size + 1 + 1, 0, none⟩) 1 1, .slice none 0 0]) ∧ HeldM w' (smp d w.heap.size) ∧ Kept Nil w w' := by
  go_enter Try.func20, Try.ntmps20
  go_wp2
  refine bodyPost_ret (v := .agg #[.int .i64 1, .slice (some ⟨w.heap.size + 1, 0, none⟩) 1 1, .slice (some ⟨w.heap.size + 1 + 1, 0, none⟩) 1 1, .slice none 0 0]) (by simp [results, Try.results20, go_sem]) rfl ?_
  have h1 : ((((w.alloc (.cells #[.int .i64 1, .slice (some ⟨w.heap.size + 1, 0, none⟩) 1 1, .slice (some ⟨w.heap.size + 1 + 1, 0, none⟩) 1 1, .slice none 0 0] 26)).alloc (.cells #[.string ⟨#[97]⟩, .int .i64 0, .slice none 0 0, .slice none 0 0] 52)).alloc (.cells #[.string ⟨#[108]⟩, .string ⟨#[97]⟩, .string ⟨#[97]⟩, .int .i64 d, .int .i64 0] 48))).heap[w.heap.size + 1]? = some (.cells #[.string ⟨#[97]⟩, .int .i64 0, .slice none 0 0, .slice none 0 0] 52 (0, 0)) := by
    rw [heap_old _ _ (by simp only [World.size_alloc]; omega)]
    have h9 := heap_new (w.alloc (.cells #[.int .i64 1, .slice (some ⟨w.heap.size + 1, 0, none⟩) 1 1, .slice (some ⟨w.heap.size + 1 + 1, 0, none⟩) 1 1, .slice none 0 0] 26)) (.cells #[.string ⟨#[97]⟩, .int .i64 0, .slice none 0 0, .slice none 0 0] 52)
    simp only [World.size_alloc] at h9
    exact h9
  have h2 : ((((w.alloc (.cells #[.int .i64 1, .slice (some ⟨w.heap.size + 1, 0, none⟩) 1 1, .slice (some ⟨w.heap.size + 1 + 1, 0, none⟩) 1 1, .slice none 0 0] 26)).alloc (.cells #[.string ⟨#[97]⟩, .int .i64 0, .slice none 0 0, .slice none 0 0] 52)).alloc (.cells #[.string ⟨#[108]⟩, .string ⟨#[97]⟩, .string ⟨#[97]⟩, .int .i64 d, .int .i64 0] 48))).heap[w.heap.size + 1 + 1]? = some (.cells #[.string ⟨#[108]⟩, .string ⟨#[97]⟩, .string ⟨#[97]⟩, .int .i64 d, .int .i64 0] 48 (0, 0)) := by
    have h9 := heap_new ((w.alloc (.cells #[.int .i64 1, .slice (some ⟨w.heap.size + 1, 0, none⟩) 1 1, .slice (some ⟨w.heap.size + 1 + 1, 0, none⟩) 1 1, .slice none 0 0] 26)).alloc (.cells #[.string ⟨#[97]⟩, .int .i64 0, .slice none 0 0, .slice none 0 0] 52)) (.cells #[.string ⟨#[108]⟩, .string ⟨#[97]⟩, .string ⟨#[97]⟩, .int .i64 d, .int .i64 0] 48)
    simp only [World.size_alloc] at h9
    exact h9
  refine ⟨rfl, ⟨⟨.inr ⟨_, _, rfl, fun j q hj => ?_⟩, fun q hq => ?_, .inr ⟨_, _, rfl, fun j q hj => ?_⟩, .inl rfl, by simp [smp, maxLen], by simp [smp, maxLen], by simp [smp, maxLen]⟩, ⟨by simp [smp, Sc.I64], fun p hp => ?_, fun l hl => ?_, fun l hl => ?_, by simp [smp], by simp [smp], by simp [smp], by simp [smp], by simp [smp], by simp [smp]⟩, ⟨by simp [smp], by simp [smp], by simp [smp], fun p hp => ?_⟩⟩, (((Kept.refl Nil w).alloc _).alloc _).alloc _⟩
  · match j with
    | 0 => simp [smp] at hj; subst hj; exact ⟨by rw [cell_of h1]; rfl, by rw [cell_of h1]; rfl, by rw [cell_of h1]; rfl, by rw [cell_of h1]; rfl⟩
    | j + 1 => simp [smp] at hj
  · simp [smp] at hq; subst hq; exact ⟨.inl rfl, .inl rfl, by simp [maxLen], by simp [maxLen], by simp⟩
  · match j with
    | 0 => simp [smp] at hj; subst hj; exact ⟨by rw [cell_of h2]; rfl, by rw [cell_of h2]; rfl, by rw [cell_of h2]; rfl, by rw [cell_of h2]; rfl, by rw [cell_of h2]; rfl⟩
    | j + 1 => simp [smp] at hj
  · simp [smp] at hp; subst hp; exact ⟨by decide, by simp [Sc.I64], by simp, by simp, by simp, by simp, by simp, by simp⟩
  · simp [smp] at hl; subst hl; exact ⟨show (ByteArray.mk #[108]).size ≤ maxLen by decide, show (ByteArray.mk #[97]).size ≤ maxLen by decide, show (ByteArray.mk #[97]).size ≤ maxLen by decide, hd, by simp [Sc.I64]⟩
  · simp [smp] at hl
  · simp [smp] at hp; subst hp; simp
theorem smp5_latF (b : Nat) : latF (smp 5 b) = (0, 0) := by kernel_rfl
theorem smp5_latM (b : Nat) : (latM (smp 5 b)).ps = [⟨⟨#[97]⟩, 1, none, [], 0, none, [], 0⟩] ∧ (latM (smp 5 b)).ls = [⟨⟨#[108]⟩, ⟨#[97]⟩, ⟨#[97]⟩, 5000, 1⟩] ∧ (latM (smp 5 b)).es = [] := ⟨by kernel_rfl, by kernel_rfl, by kernel_rfl⟩
theorem smp5_upF (b : Nat) : upF (smp 5 b) = (0, 0) := by kernel_rfl
theorem smp5_upM (b : Nat) : (upM (smp 5 b)).version = 2 ∧ (upM (smp 5 b)).ps.length = 1 ∧ (upM (smp 5 b)).ls = [⟨⟨#[108]⟩, ⟨#[97]⟩, ⟨#[97]⟩, 5000, 0⟩] ∧ (upM (smp 5 b)).es = [] := ⟨by kernel_rfl, by kernel_rfl, by kernel_rfl, by kernel_rfl⟩
theorem smpB_latF (b : Nat) : latF (smp 1099511627776 b) = (30, 2) := by kernel_rfl
theorem zero_upF : upF ⟨3, none, [], 0, none, [], 0, none, [], 0⟩ = (43, 0) := by kernel_rfl
theorem smp5_ways (b : Nat) : (waysL (smp 5 b)).length = 3 := by kernel_rfl
theorem zero_held (v : Int) (w : World) (hv : Sc.I64 v) : HeldM w ⟨v, none, [], 0, none, [], 0, none, [], 0⟩ := ⟨⟨.inl rfl, by simp, .inl rfl, .inl rfl, by simp [maxLen], by simp [maxLen], by simp [maxLen]⟩, ⟨hv, by simp, by simp, by simp, by simp, by simp, by simp, by simp, by simp, by simp⟩, ⟨by simp, by simp, by simp, by simp⟩⟩
theorem LatS5_at (b : Nat) (w : World) (h : HeldM w (smp 5 b)) : Calls Try.prog 12 #[.agg #[.int .i64 1, .slice (some ⟨b + 1, 0, none⟩) 1 1, .slice (some ⟨b + 1 + 1, 0, none⟩) 1 1, .slice none 0 0]] w fun e w' => ∃ gp op pc gl ol lc ea ec, e = .returned (.tuple #[.agg #[.int .i64 3, .slice (some ⟨gp, op, none⟩) 1 pc, .slice (some ⟨gl, ol, none⟩) 1 lc, .slice ea 0 ec], .agg #[.int .i64 0, .int .i64 0]]) ∧ w'.cell? ⟨gp, op + 1, none⟩ = some (.int .i64 1) ∧ w'.cell? ⟨gl, ol + 3, none⟩ = some (.int .i64 5000) ∧ w'.cell? ⟨gl, ol + 4, none⟩ = some (.int .i64 1) ∧ Kept Nil w w' := by
  have h9 := Latest_is 1 (smp 5 b).ps (smp 5 b).ls (smp 5 b).es (smp 5 b).pa (smp 5 b).la (smp 5 b).ea (smp 5 b).pc (smp 5 b).lc (smp 5 b).ec w h
  refine Calls.mono h9 ?_
  intro e w' hE
  obtain ⟨m', e1, hh, hs, _, hv, _⟩ := hE.ok (show (latF (smp 5 b)).1 = 0 by rw [smp5_latF])
  have hs2 : SameM (latM (smp 5 b)) m' := hs
  obtain ⟨f1, f2, f3⟩ := smp5_latM b
  obtain ⟨v, pa, ps, pc, la, ls, lc, ea, es, ec⟩ := m'
  have e2 : ls = _ := hs2.l.symm.trans f2
  have e3 : es = _ := hs2.e.symm.trans f3
  have e4 := hs2.p.l
  rw [f1] at e4
  simp only at hv
  subst e2 e3 hv e1
  obtain ⟨p, hp⟩ : ∃ p, ps = [p] := by
    match ps, e4 with
    | [p], _ => exact ⟨p, rfl⟩
  subst hp
  have h5 := hs2.p.p 0 ⟨⟨#[97]⟩, 1, none, [], 0, none, [], 0⟩ p (by rw [f1]; rfl) rfl
  obtain ⟨gp, op, g1, c0, c1, c2, c3⟩ := hh.r.p.at (k := 0) rfl
  obtain ⟨gl, ol, g2, d0, d1, d2, d3, d4⟩ := hh.r.l.at (k := 0) rfl
  simp only at g1 g2
  subst g1 g2
  have h6 := h5.w
  simp only at h6
  rw [← h6] at c1
  exact ⟨gp, op, _, gl, ol, _, _, _, rfl, by simpa using c1, by simpa using d3, by simpa using d4, hE.k⟩
theorem UpS5_at (b : Nat) (w : World) (h : HeldM w (smp 5 b)) : Calls Try.prog 10 #[.agg #[.int .i64 1, .slice (some ⟨b + 1, 0, none⟩) 1 1, .slice (some ⟨b + 1 + 1, 0, none⟩) 1 1, .slice none 0 0]] w fun e w' => ∃ pa pc gl ol lc ea ec, e = .returned (.tuple #[.agg #[.int .i64 2, .slice pa 1 pc, .slice (some ⟨gl, ol, none⟩) 1 lc, .slice ea 0 ec], .agg #[.int .i64 0, .int .i64 0]]) ∧ w'.cell? ⟨gl, ol + 4, none⟩ = some (.int .i64 0) ∧ Kept Nil w w' := by
  have h9 := Up_is 1 (smp 5 b).ps (smp 5 b).ls (smp 5 b).es (smp 5 b).pa (smp 5 b).la (smp 5 b).ea (smp 5 b).pc (smp 5 b).lc (smp 5 b).ec w h
  refine Calls.mono h9 ?_
  intro e w' hE
  obtain ⟨m', e1, hh, hs, _⟩ := hE.ok (show (upF (smp 5 b)).1 = 0 by rw [smp5_upF])
  have hs2 : SameM (upM (smp 5 b)) m' := hs
  obtain ⟨f0, f1, f2, f3⟩ := smp5_upM b
  obtain ⟨v, pa, ps, pc, la, ls, lc, ea, es, ec⟩ := m'
  have e2 : ls = _ := hs2.l.symm.trans f2
  have e3 : es = _ := hs2.e.symm.trans f3
  have hv : v = _ := hs2.v.symm.trans f0
  have e4 := hs2.p.l
  rw [f1] at e4
  simp only at e4
  subst e2 e3 hv e1
  rw [← e4]
  obtain ⟨gl, ol, g2, d0, d1, d2, d3, d4⟩ := hh.r.l.at (k := 0) rfl
  simp only at g2
  subst g2
  exact ⟨pa, _, gl, ol, _, _, _, rfl, by simpa using d4, hE.k⟩
theorem LatSB_at (b : Nat) (w : World) (h : HeldM w (smp 1099511627776 b)) : Calls Try.prog 12 #[.agg #[.int .i64 1, .slice (some ⟨b + 1, 0, none⟩) 1 1, .slice (some ⟨b + 1 + 1, 0, none⟩) 1 1, .slice none 0 0]] w fun e w' => e = .returned (.tuple #[.agg #[.int .i64 0, .slice none 0 0, .slice none 0 0, .slice none 0 0], .agg #[.int .i64 30, .int .i64 2]]) ∧ Kept Nil w w' := by
  have h9 := Latest_is 1 (smp 1099511627776 b).ps (smp 1099511627776 b).ls (smp 1099511627776 b).es (smp 1099511627776 b).pa (smp 1099511627776 b).la (smp 1099511627776 b).ea (smp 1099511627776 b).pc (smp 1099511627776 b).lc (smp 1099511627776 b).ec w h
  refine Calls.mono h9 ?_
  intro e w' hE
  have e1 := hE.bad (show (latF (smp 1099511627776 b)).1 ≠ 0 by rw [smpB_latF]; decide)
  have e2 : e = .returned (.tuple #[.agg #[.int .i64 0, .slice none 0 0, .slice none 0 0, .slice none 0 0], .agg #[.int .i64 (latF (smp 1099511627776 b)).1, .int .i64 (latF (smp 1099511627776 b)).2]]) := e1
  rw [smpB_latF] at e2
  exact ⟨e2, hE.k⟩
theorem UpZ_at (w : World) : Calls Try.prog 10 #[.agg #[.int .i64 3, .slice none 0 0, .slice none 0 0, .slice none 0 0]] w fun e w' => e = .returned (.tuple #[.agg #[.int .i64 0, .slice none 0 0, .slice none 0 0, .slice none 0 0], .agg #[.int .i64 43, .int .i64 0]]) ∧ Kept Nil w w' := by
  have h9 := Up_is 3 [] [] [] none none none 0 0 0 w (zero_held 3 w (by simp [Sc.I64]))
  refine Calls.mono h9 ?_
  intro e w' hE
  have e1 := hE.bad (by rw [zero_upF]; decide)
  rw [zero_upF] at e1
  exact ⟨e1, hE.k⟩
theorem waysS_at (b : Nat) (w : World) (h : HeldM w (smp 5 b)) : Calls Try.prog 15 #[.agg #[.int .i64 1, .slice (some ⟨b + 1, 0, none⟩) 1 1, .slice (some ⟨b + 1 + 1, 0, none⟩) 1 1, .slice none 0 0], .int .i64 9] w fun e w' => ∃ A c, e = .returned (.slice A 3 c) ∧ Kept Nil w w' := by
  have h9 := ways_is 1 (smp 5 b).ps (smp 5 b).ls (smp 5 b).es (smp 5 b).pa (smp 5 b).la (smp 5 b).ea (smp 5 b).pc (smp 5 b).lc (smp 5 b).ec 9 w h
  refine Calls.mono h9 ?_
  intro e w' hE
  obtain ⟨ws, v, e1, ho, hs, _, _⟩ := hE.ok
  have hl := hs.l
  have h3 : (waysL (smp 5 b)).length = 3 := smp5_ways b
  have h4 : ((waysL (smp 5 b)).take (9 : Int).toNat).length = ws.length := hl
  rw [List.length_take, h3] at h4
  have h5 : ws.length = 3 := h4.symm
  rw [h5] at ho
  obtain ⟨A, c, rfl⟩ := own_slice ho
  exact ⟨A, c, e1, hE.k⟩
set_option maxHeartbeats 16000000 in
theorem alive_is (w : World) : Calls Try.prog 7 #[] w fun e w' => e = .returned (.bool true) ∧ Kept Nil w w' := by
  have hfe := fault_eq
  have i5 : Sc.I64 5 := by unfold Sc.I64; omega
  have iB : Sc.I64 1099511627776 := by unfold Sc.I64; omega
  go_enter Try.func7, Try.ntmps7
  go_wp2_with fail
  refine (sample_is 5 w i5).mono ?_
  rintro e wa1 ⟨rfl, hS1, hk1a⟩
  have HS1 := Lib.hid hS1
  have HKa1 := Lib.hid hk1a
  clear hS1 hk1a
  go_wp2_with fail
  refine (LatS5_at w.heap.size wa1 HS1.out).mono ?_
  rintro e wb1 ⟨gp, op, pc, gl, ol, lc, ea, ec, rfl, r1, r2, r3, hk1⟩
  have R1 := Lib.hid r1
  have R2 := Lib.hid r2
  have R3 := Lib.hid r3
  have HKb1 := Lib.hid hk1
  clear r1 r2 r3 hk1
  obtain ⟨W1, hW⟩ : ∃ W, ((wb1.alloc (.cells #[.int .i64 3, .slice (some ⟨gp, op, none⟩) 1 pc, .slice (some ⟨gl, ol, none⟩) 1 lc, .slice ea 0 ec] 26)).alloc (.cells #[.int .i64 0, .int .i64 0] 32)) = W := ⟨_, rfl⟩
  have hk : Kept Nil wb1 W1 := by rw [← hW]; exact (((Kept.refl Nil wb1).alloc _).alloc _)
  have hsz : W1.heap.size = wb1.heap.size + 2 := by rw [← hW]; simp
  have hb : W1.heap[wb1.heap.size]? = some (.cells #[.int .i64 3, .slice (some ⟨gp, op, none⟩) 1 pc, .slice (some ⟨gl, ol, none⟩) 1 lc, .slice ea 0 ec] 26 (0, 0)) := by
    rw [← hW]
    rw [heap_old _ _ (by simp only [World.size_alloc]; omega)]
    have h9 := heap_new wb1 (.cells #[.int .i64 3, .slice (some ⟨gp, op, none⟩) 1 pc, .slice (some ⟨gl, ol, none⟩) 1 lc, .slice ea 0 ec] 26)
    exact h9
  have A0 := Lib.hid (show W1.cell? ⟨wb1.heap.size, 0, none⟩ = some (.int .i64 3) by rw [cell_of hb]; rfl)
  have A1 := Lib.hid (show W1.cell? ⟨wb1.heap.size, 1, none⟩ = some (.slice (some ⟨gp, op, none⟩) 1 pc) by rw [cell_of hb]; rfl)
  have A2 := Lib.hid (show W1.cell? ⟨wb1.heap.size, 2, none⟩ = some (.slice (some ⟨gl, ol, none⟩) 1 lc) by rw [cell_of hb]; rfl)
  have A3 := Lib.hid (show W1.cell? ⟨wb1.heap.size, 3, none⟩ = some (.slice ea 0 ec) by rw [cell_of hb]; rfl)
  have AB := Lib.hid hb
  have hza : wb1.heap.size < W1.heap.size := by omega
  clear hb
  have hb : W1.heap[wb1.heap.size + 1]? = some (.cells #[.int .i64 0, .int .i64 0] 32 (0, 0)) := by
    rw [← hW]
    have h9 := heap_new (wb1.alloc (.cells #[.int .i64 3, .slice (some ⟨gp, op, none⟩) 1 pc, .slice (some ⟨gl, ol, none⟩) 1 lc, .slice ea 0 ec] 26)) (.cells #[.int .i64 0, .int .i64 0] 32)
    simp only [World.size_alloc] at h9
    exact h9
  have B0 := Lib.hid (show W1.cell? ⟨wb1.heap.size + 1, 0, none⟩ = some (.int .i64 0) by rw [cell_of hb]; rfl)
  have B1 := Lib.hid (show W1.cell? ⟨wb1.heap.size + 1, 1, none⟩ = some (.int .i64 0) by rw [cell_of hb]; rfl)
  have BB := Lib.hid hb
  have hzb : wb1.heap.size + 1 < W1.heap.size := by omega
  clear hb
  have HW1 := Lib.hid hW
  have HK1 := Lib.hid hk
  have HSZ1 := Lib.hid hsz
  clear hW hk hsz
  go_upto_region 2 with fail
  rw [HW1.out]
  have HKK1 := Lib.hid (show Kept Nil w W1 from (HKa1.out.step HKb1.out).step HK1.out)
  go_wp2_with fail
  refine (sample_is 5 W1 i5).mono ?_
  rintro e wa2 ⟨rfl, hS2, hk2a⟩
  have HS2 := Lib.hid hS2
  have HKa2 := Lib.hid hk2a
  clear hS2 hk2a
  go_wp2_with fail
  refine (UpS5_at W1.heap.size wa2 HS2.out).mono ?_
  rintro e wb2 ⟨pa2, pc2, gl2, ol2, lc2, ea2, ec2, rfl, t1, hk2⟩
  have T1 := Lib.hid t1
  have HKb2 := Lib.hid hk2
  clear t1 hk2
  obtain ⟨W2, hW⟩ : ∃ W, ((wb2.alloc (.cells #[.int .i64 2, .slice pa2 1 pc2, .slice (some ⟨gl2, ol2, none⟩) 1 lc2, .slice ea2 0 ec2] 26)).alloc (.cells #[.int .i64 0, .int .i64 0] 32)) = W := ⟨_, rfl⟩
  have hk : Kept Nil wb2 W2 := by rw [← hW]; exact (((Kept.refl Nil wb2).alloc _).alloc _)
  have hsz : W2.heap.size = wb2.heap.size + 2 := by rw [← hW]; simp
  have hb : W2.heap[wb2.heap.size]? = some (.cells #[.int .i64 2, .slice pa2 1 pc2, .slice (some ⟨gl2, ol2, none⟩) 1 lc2, .slice ea2 0 ec2] 26 (0, 0)) := by
    rw [← hW]
    rw [heap_old _ _ (by simp only [World.size_alloc]; omega)]
    have h9 := heap_new wb2 (.cells #[.int .i64 2, .slice pa2 1 pc2, .slice (some ⟨gl2, ol2, none⟩) 1 lc2, .slice ea2 0 ec2] 26)
    exact h9
  have C0 := Lib.hid (show W2.cell? ⟨wb2.heap.size, 0, none⟩ = some (.int .i64 2) by rw [cell_of hb]; rfl)
  have C1 := Lib.hid (show W2.cell? ⟨wb2.heap.size, 1, none⟩ = some (.slice pa2 1 pc2) by rw [cell_of hb]; rfl)
  have C2 := Lib.hid (show W2.cell? ⟨wb2.heap.size, 2, none⟩ = some (.slice (some ⟨gl2, ol2, none⟩) 1 lc2) by rw [cell_of hb]; rfl)
  have C3 := Lib.hid (show W2.cell? ⟨wb2.heap.size, 3, none⟩ = some (.slice ea2 0 ec2) by rw [cell_of hb]; rfl)
  have CB := Lib.hid hb
  have hzc : wb2.heap.size < W2.heap.size := by omega
  clear hb
  have hb : W2.heap[wb2.heap.size + 1]? = some (.cells #[.int .i64 0, .int .i64 0] 32 (0, 0)) := by
    rw [← hW]
    have h9 := heap_new (wb2.alloc (.cells #[.int .i64 2, .slice pa2 1 pc2, .slice (some ⟨gl2, ol2, none⟩) 1 lc2, .slice ea2 0 ec2] 26)) (.cells #[.int .i64 0, .int .i64 0] 32)
    simp only [World.size_alloc] at h9
    exact h9
  have D0 := Lib.hid (show W2.cell? ⟨wb2.heap.size + 1, 0, none⟩ = some (.int .i64 0) by rw [cell_of hb]; rfl)
  have D1 := Lib.hid (show W2.cell? ⟨wb2.heap.size + 1, 1, none⟩ = some (.int .i64 0) by rw [cell_of hb]; rfl)
  have DB := Lib.hid hb
  have hzd : wb2.heap.size + 1 < W2.heap.size := by omega
  clear hb
  have HW2 := Lib.hid hW
  have HK2 := Lib.hid hk
  have HSZ2 := Lib.hid hsz
  clear hW hk hsz
  go_upto_region 3 with fail
  rw [HW2.out]
  have HKK2 := Lib.hid (show Kept Nil W1 W2 from (HKa2.out.step HKb2.out).step HK2.out)
  go_wp2_with fail
  refine (sample_is 1099511627776 W2 iB).mono ?_
  rintro e wa3 ⟨rfl, hS3, hk3a⟩
  have HS3 := Lib.hid hS3
  have HKa3 := Lib.hid hk3a
  clear hS3 hk3a
  go_wp2_with fail
  refine (LatSB_at W2.heap.size wa3 HS3.out).mono ?_
  rintro e wb3 ⟨rfl, hk3⟩
  have HKb3 := Lib.hid hk3
  clear hk3
  obtain ⟨W3, hW⟩ : ∃ W, ((wb3.alloc (.cells #[.int .i64 0, .slice none 0 0, .slice none 0 0, .slice none 0 0] 26)).alloc (.cells #[.int .i64 30, .int .i64 2] 32)) = W := ⟨_, rfl⟩
  have hk : Kept Nil wb3 W3 := by rw [← hW]; exact (((Kept.refl Nil wb3).alloc _).alloc _)
  have hsz : W3.heap.size = wb3.heap.size + 2 := by rw [← hW]; simp
  have hb : W3.heap[wb3.heap.size]? = some (.cells #[.int .i64 0, .slice none 0 0, .slice none 0 0, .slice none 0 0] 26 (0, 0)) := by
    rw [← hW]
    rw [heap_old _ _ (by simp only [World.size_alloc]; omega)]
    have h9 := heap_new wb3 (.cells #[.int .i64 0, .slice none 0 0, .slice none 0 0, .slice none 0 0] 26)
    exact h9
  have X0 := Lib.hid (show W3.cell? ⟨wb3.heap.size, 0, none⟩ = some (.int .i64 0) by rw [cell_of hb]; rfl)
  have X1 := Lib.hid (show W3.cell? ⟨wb3.heap.size, 1, none⟩ = some (.slice none 0 0) by rw [cell_of hb]; rfl)
  have X2 := Lib.hid (show W3.cell? ⟨wb3.heap.size, 2, none⟩ = some (.slice none 0 0) by rw [cell_of hb]; rfl)
  have X3 := Lib.hid (show W3.cell? ⟨wb3.heap.size, 3, none⟩ = some (.slice none 0 0) by rw [cell_of hb]; rfl)
  have XB := Lib.hid hb
  have hzx : wb3.heap.size < W3.heap.size := by omega
  clear hb
  have hb : W3.heap[wb3.heap.size + 1]? = some (.cells #[.int .i64 30, .int .i64 2] 32 (0, 0)) := by
    rw [← hW]
    have h9 := heap_new (wb3.alloc (.cells #[.int .i64 0, .slice none 0 0, .slice none 0 0, .slice none 0 0] 26)) (.cells #[.int .i64 30, .int .i64 2] 32)
    simp only [World.size_alloc] at h9
    exact h9
  have Y0 := Lib.hid (show W3.cell? ⟨wb3.heap.size + 1, 0, none⟩ = some (.int .i64 30) by rw [cell_of hb]; rfl)
  have Y1 := Lib.hid (show W3.cell? ⟨wb3.heap.size + 1, 1, none⟩ = some (.int .i64 2) by rw [cell_of hb]; rfl)
  have YB := Lib.hid hb
  have hzy : wb3.heap.size + 1 < W3.heap.size := by omega
  clear hb
  have HW3 := Lib.hid hW
  have HK3 := Lib.hid hk
  have HSZ3 := Lib.hid hsz
  clear hW hk hsz
  go_upto_region 4 with fail
  rw [HW3.out]
  have HKK3 := Lib.hid (show Kept Nil W2 W3 from (HKa3.out.step HKb3.out).step HK3.out)
  go_wp2_with fail
  refine (UpZ_at W3).mono ?_
  rintro e wb4 ⟨rfl, hk4⟩
  have HKb4 := Lib.hid hk4
  clear hk4
  obtain ⟨W4, hW⟩ : ∃ W, ((wb4.alloc (.cells #[.int .i64 0, .slice none 0 0, .slice none 0 0, .slice none 0 0] 26)).alloc (.cells #[.int .i64 43, .int .i64 0] 32)) = W := ⟨_, rfl⟩
  have hk : Kept Nil wb4 W4 := by rw [← hW]; exact (((Kept.refl Nil wb4).alloc _).alloc _)
  have hsz : W4.heap.size = wb4.heap.size + 2 := by rw [← hW]; simp
  have hb : W4.heap[wb4.heap.size]? = some (.cells #[.int .i64 0, .slice none 0 0, .slice none 0 0, .slice none 0 0] 26 (0, 0)) := by
    rw [← hW]
    rw [heap_old _ _ (by simp only [World.size_alloc]; omega)]
    have h9 := heap_new wb4 (.cells #[.int .i64 0, .slice none 0 0, .slice none 0 0, .slice none 0 0] 26)
    exact h9
  have U0 := Lib.hid (show W4.cell? ⟨wb4.heap.size, 0, none⟩ = some (.int .i64 0) by rw [cell_of hb]; rfl)
  have U1 := Lib.hid (show W4.cell? ⟨wb4.heap.size, 1, none⟩ = some (.slice none 0 0) by rw [cell_of hb]; rfl)
  have U2 := Lib.hid (show W4.cell? ⟨wb4.heap.size, 2, none⟩ = some (.slice none 0 0) by rw [cell_of hb]; rfl)
  have U3 := Lib.hid (show W4.cell? ⟨wb4.heap.size, 3, none⟩ = some (.slice none 0 0) by rw [cell_of hb]; rfl)
  have UB := Lib.hid hb
  have hzu : wb4.heap.size < W4.heap.size := by omega
  clear hb
  have hb : W4.heap[wb4.heap.size + 1]? = some (.cells #[.int .i64 43, .int .i64 0] 32 (0, 0)) := by
    rw [← hW]
    have h9 := heap_new (wb4.alloc (.cells #[.int .i64 0, .slice none 0 0, .slice none 0 0, .slice none 0 0] 26)) (.cells #[.int .i64 43, .int .i64 0] 32)
    simp only [World.size_alloc] at h9
    exact h9
  have V0 := Lib.hid (show W4.cell? ⟨wb4.heap.size + 1, 0, none⟩ = some (.int .i64 43) by rw [cell_of hb]; rfl)
  have V1 := Lib.hid (show W4.cell? ⟨wb4.heap.size + 1, 1, none⟩ = some (.int .i64 0) by rw [cell_of hb]; rfl)
  have VB := Lib.hid hb
  have hzv : wb4.heap.size + 1 < W4.heap.size := by omega
  clear hb
  have HW4 := Lib.hid hW
  have HK4 := Lib.hid hk
  have HSZ4 := Lib.hid hsz
  clear hW hk hsz
  go_upto_region 5 with fail
  rw [HW4.out]
  have HKK4 := Lib.hid (show Kept Nil W3 W4 from HKb4.out.step HK4.out)
  have k14 := HKK2.out.step (HKK3.out.step HKK4.out)
  have k24 := HKK3.out.step HKK4.out
  have k34 := HKK4.out
  have K14 := Lib.hid k14
  have K24 := Lib.hid k24
  have K34 := Lib.hid k34
  clear k14 k24 k34
  have a0 := (K14.out).cell A0.out (fun h => h)
  have a1 := (K14.out).cell A1.out (fun h => h)
  have a2 := (K14.out).cell A2.out (fun h => h)
  have a3 := (K14.out).cell A3.out (fun h => h)
  have b0 := (K14.out).cell B0.out (fun h => h)
  have b1 := (K14.out).cell B1.out (fun h => h)
  have c0 := (K24.out).cell C0.out (fun h => h)
  have c1 := (K24.out).cell C1.out (fun h => h)
  have c2 := (K24.out).cell C2.out (fun h => h)
  have c3 := (K24.out).cell C3.out (fun h => h)
  have d0 := (K24.out).cell D0.out (fun h => h)
  have d1 := (K24.out).cell D1.out (fun h => h)
  have x0 := (K34.out).cell X0.out (fun h => h)
  have x1 := (K34.out).cell X1.out (fun h => h)
  have x2 := (K34.out).cell X2.out (fun h => h)
  have x3 := (K34.out).cell X3.out (fun h => h)
  have y0 := (K34.out).cell Y0.out (fun h => h)
  have y1 := (K34.out).cell Y1.out (fun h => h)
  have u0 := ((Kept.refl Nil W4)).cell U0.out (fun h => h)
  have u1 := ((Kept.refl Nil W4)).cell U1.out (fun h => h)
  have u2 := ((Kept.refl Nil W4)).cell U2.out (fun h => h)
  have u3 := ((Kept.refl Nil W4)).cell U3.out (fun h => h)
  have v0 := ((Kept.refl Nil W4)).cell V0.out (fun h => h)
  have v1 := ((Kept.refl Nil W4)).cell V1.out (fun h => h)
  have r1 := (HK1.out.step K14.out).cell R1.out (fun h => h)
  have r2 := (HK1.out.step K14.out).cell R2.out (fun h => h)
  have r3 := (HK1.out.step K14.out).cell R3.out (fun h => h)
  have t1 := (HK2.out.step K24.out).cell T1.out (fun h => h)
  have s1 := HKK1.out.size
  have s2 := HKK2.out.size
  have s3 := HKK3.out.size
  have s4 := HKK4.out.size
  go_wp2_with (first
      | (go_at_call 20; with_reducible refine (sample_is 5 _ i5).mono ?_
         rintro e wa5 ⟨rfl, hS5, hk5⟩
         have HS5 := Lib.hid hS5
         have HK5 := Lib.hid hk5
         clear hS5 hk5)
      | (go_at_call 15; with_reducible refine (waysS_at _ _ HS5.out).mono ?_
         rintro e wb5 ⟨A5, c5, rfl, hk6⟩
         have HK6 := Lib.hid hk6
         clear hk6))
  go_ret
  exact ⟨rfl, (((HKK1.out.step K14.out).step HK5.out).step HK6.out)⟩
end Go.Proofs.Ythgbahlkflmgiaa.Mo
end
section
namespace Go.Proofs.Ythgbahlkflmgiaa.Mo
open Go Go.RowKit Go.Proofs.Ythgbahlkflmgiaa.Lb
set_option linter.unusedVariables false
theorem firstC_ne {cs : List Int} {n : Int} (hn : n ≠ 0) (h : ∀ c ∈ cs, c ≠ n) : firstC cs ≠ n := by
  induction cs with
  | nil => exact fun e => hn e.symm
  | cons c cs ih =>
    unfold firstC
    split
    · exact ih (fun d hd => h d (List.mem_cons_of_mem _ hd))
    · exact h c (List.mem_cons_self ..)
theorem firstAt_ne {cs : List Int} {n : Int} (hn : n ≠ 0) (h : ∀ c ∈ cs, c ≠ n) (k : Nat) : (firstAt cs k).1 ≠ n := by
  induction cs generalizing k with
  | nil => exact fun e => hn e.symm
  | cons c cs ih =>
    unfold firstAt
    split
    · exact ih (fun d hd => h d (List.mem_cons_of_mem _ hd)) _
    · exact h c (List.mem_cons_self ..)
theorem argC_ne (vs : List V) (s : S) : argC vs s ≠ 30 := by
  unfold argC
  repeat' split
  all_goals decide
theorem stepC_ne (ls : List Lk) (p : Pr) (s : S) : stepC ls p s ≠ 30 := by
  unfold stepC
  repeat' split
  all_goals first | decide | exact argC_ne _ _
theorem procC_ne (m : Md) (i : Nat) (p : Pr) : procC m i p ≠ 30 := by
  have hv : varsC p.vs ≠ 30 := by
    unfold varsC
    refine firstC_ne (by decide) (fun c hc => ?_)
    obtain ⟨j, hj, rfl⟩ := List.mem_mapIdx.1 hc
    unfold varC
    repeat' split
    all_goals decide
  have hs : firstC (p.ss.map (stepC m.ls p)) ≠ 30 := by
    refine firstC_ne (by decide) (fun c hc => ?_)
    obtain ⟨s, _, rfl⟩ := List.mem_map.1 hc
    exact stepC_ne _ _ _
  unfold procC
  repeat' split
  all_goals first | decide | exact hv | exact hs
theorem check_ne (m : Md) : (mdCheck m).1 ≠ 30 := by
  have hP : ∀ c ∈ codesP m, c ≠ 30 := fun c hc => by
    obtain ⟨j, hj, rfl⟩ := List.mem_mapIdx.1 hc
    exact procC_ne _ _ _
  have hL : ∀ c ∈ codesL m, c ≠ 30 := fun c hc => by
    obtain ⟨j, hj, rfl⟩ := List.mem_mapIdx.1 hc
    unfold linkC
    repeat' split
    all_goals decide
  have hE : ∀ c ∈ codesE m, c ≠ 30 := fun c hc => by
    obtain ⟨s, _, rfl⟩ := List.mem_map.1 hc
    unfold eventC
    repeat' split
    all_goals decide
  unfold mdCheck
  repeat' split
  · decide
  · decide
  · exact firstAt_ne (by decide) hP _
  · exact firstAt_ne (by decide) hL _
  · exact firstAt_ne (by decide) hE _
theorem up_code {m : Md} (h : MdRight m) (hv : m.version < 3) : (upF m).1 = 0 ∨ (upF m).1 = 30 := by
  unfold upF
  rw [if_neg (by rw [h.ok]; simp), if_neg (by omega)]
  split
  · split
    · exact .inr rfl
    · exact .inl rfl
  · exact .inl rfl
theorem lat_code {m : Md} (h : MdRight m) (k : Nat) : (latG k m).1.1 = 0 ∨ (latG k m).1.1 = 30 := by
  induction k generalizing m with
  | zero => exact .inl rfl
  | succ k ih =>
    by_cases hv : m.version < 3
    · by_cases hu : (upF m).1 = 0
      · rw [latG_next hv hu]
        exact ih (up_right hu).1
      · rw [latG_bad hv hu]
        exact up_code h hv
    · rw [latG_done hv]
      exact .inl rfl
/-- The fault of the latest one: too great just if the model is right. -/
theorem latF_bad {m : Md} (h : (latF m).1 ≠ 0) : ((latF m).1 = 30 ↔ (mdCheck m).1 = 0) := by
  unfold latF at *
  by_cases hc : (mdCheck m).1 ≠ 0
  · rw [if_pos hc]
    exact ⟨fun e => absurd e (check_ne m), fun e => absurd e hc⟩
  · rw [if_neg hc] at h ⊢
    have hc' : (mdCheck m).1 = 0 := by simpa using hc
    rcases lat_code (right_of hc') 3 with h1 | h1
    · exact absurd h1 h
    · exact ⟨fun _ => hc', fun _ => h1⟩
theorem latF_three {m : Md} (h : MdRight m) (hv : m.version = 3) : latF m = (0, 0) ∧ latM m = m := by
  unfold latF latM
  rw [latG_done (by omega), if_neg (by rw [h.ok]; simp)]
  exact ⟨rfl, rfl⟩
/-- The latest one of a model, in one step. -/
def latL (v : Int) (l : Lk) : Lk := wtL (if v = 1 then dlL l else l)
def latS (m : Md) : Md := { m with version := 3, ps := m.ps.map wtP, ls := m.ls.map (latL m.version) }
theorem wtI_pos {n : Int} (h : 1 ≤ n) : wtI n = n := by unfold wtI; rw [if_neg (by omega)]
theorem wtI_idem (n : Int) : wtI (wtI n) = wtI n := wtI_pos (by unfold wtI; split <;> omega)
theorem right_three {m : Md} (h : MdRight m) (hv : m.version = 3) : m.ps.map wtP = m.ps ∧ m.ls.map (latL 3) = m.ls := by
  have hw : ∀ {n : Int}, wtB m.version n = true → wtI n = n := by
    intro n hn
    unfold wtB at hn
    simp only [Bool.or_eq_true, Bool.and_eq_true, decide_eq_true_eq, beq_iff_eq] at hn
    exact wtI_pos (by omega)
  refine ⟨?_, ?_⟩
  · conv => rhs; rw [← List.map_id m.ps]
    refine List.map_congr_left (fun p hp => ?_)
    obtain ⟨j, hj, rfl⟩ := List.mem_iff_getElem.1 hp
    have := hw (h.pr (List.getElem?_eq_getElem hj)).w
    simp only [wtP, this, id]
  · conv => rhs; rw [← List.map_id m.ls]
    refine List.map_congr_left (fun p hp => ?_)
    obtain ⟨j, hj, rfl⟩ := List.mem_iff_getElem.1 hp
    have := hw (h.lk (List.getElem?_eq_getElem hj)).w
    simp only [latL, wtL]
    rw [if_neg (by decide)]
    simp only [this, id]
theorem lat_shape {m : Md} (h : MdRight m) : ∀ (k : Nat), m.version + (k : Int) ≥ 3 → (latG k m).1.1 = 0 → SameM (latS m) (latG k m).2 := by
  intro k
  induction k generalizing m with
  | zero =>
    intro hk _
    have hv : m.version = 3 := by have := h.v; omega
    obtain ⟨h1, h2⟩ := right_three h hv
    refine ⟨hv.symm, ?_, ?_, rfl⟩
    · show SamePs (m.ps.map wtP) m.ps
      rw [h1]; exact SamePs.refl _
    · show m.ls.map (latL m.version) = m.ls
      rw [hv]; exact h2
  | succ k ih =>
    intro hk h0
    by_cases hv : m.version < 3
    · by_cases hu : (upF m).1 = 0
      · rw [latG_next hv hu] at h0 ⊢
        have hr := up_right hu
        have h9 := ih hr.1 (by rw [hr.2]; push_cast at hk; omega) h0
        refine SameM.trans ?_ h9
        have hv1 := h.v
        unfold upM latS
        by_cases h1 : m.version = 1
        · rw [if_pos h1]
          refine ⟨rfl, SamePs.refl _, ?_, rfl⟩
          simp only [h1, List.map_map]
          refine List.map_congr_left (fun l _ => ?_)
          simp [latL]
        · rw [if_neg h1]
          have h2 : m.version = 2 := by omega
          refine ⟨rfl, ?_, ?_, rfl⟩
          · simp only [List.map_map]
            have : (wtP ∘ wtP) = wtP := by funext p; simp only [Function.comp, wtP, wtI_idem]
            rw [this]; exact SamePs.refl _
          · simp only [h2, List.map_map]
            refine List.map_congr_left (fun l _ => ?_)
            simp [latL, wtL, wtI_idem]
      · rw [latG_bad hv hu] at h0
        exact absurd h0 hu
    · rw [latG_done hv]
      have hv3 : m.version = 3 := by have := h.v; omega
      obtain ⟨h1, h2⟩ := right_three h hv3
      refine ⟨hv3.symm, ?_, ?_, rfl⟩
      · show SamePs (m.ps.map wtP) m.ps
        rw [h1]; exact SamePs.refl _
      · show m.ls.map (latL m.version) = m.ls
        rw [hv3]; exact h2
theorem latM_shape {m : Md} (h : (latF m).1 = 0) : MdRight m ∧ SameM (latS m) (latM m) := by
  unfold latF at h
  by_cases hc : (mdCheck m).1 ≠ 0
  · rw [if_pos hc] at h; exact absurd h hc
  · rw [if_neg hc] at h
    have hr := right_of (show (mdCheck m).1 = 0 by simpa using hc)
    exact ⟨hr, lat_shape hr 3 (by have := hr.v; omega) h⟩
theorem prNames_same {p q : Pr} (h : SameP p q) : prNames p = prNames q := by unfold prNames; rw [h.n, h.v]
theorem SamePs.flatMap {a b : List Pr} (h : SamePs a b) : a.flatMap prNames = b.flatMap prNames := by
  rw [List.flatMap_def, List.flatMap_def, h.map prNames (fun _ _ => prNames_same)]
theorem names_same {a b : Md} (h : SameM a b) : mdNames a = mdNames b := by
  unfold mdNames
  rw [h.p.flatMap, h.l]
theorem latS_names (m : Md) : mdNames (latS m) = mdNames m := by
  unfold mdNames latS
  simp only [List.map_map, List.flatMap_map]
  congr 1
  refine List.map_congr_left (fun l _ => ?_)
  simp only [Function.comp, latL, wtL]
  split <;> rfl
theorem held_of_few {w : World} {m : Md} (hr : RModel w m) (ho : OkM m) (hf : FewP m) : HeldM w m :=
  ⟨hr, ho, ⟨by have := hf.pl; omega, by have := hf.ll; omega, by have := hf.el; omega, fun p hp => by have := hf.vs p hp; omega⟩⟩
end Go.Proofs.Ythgbahlkflmgiaa.Mo
end
section
namespace Go.Proofs.Ythgbahlkflmgiaa.Mo
open Go Go.RowKit Go.Proofs.Ythgbahlkflmgiaa.Lb
set_option linter.unusedVariables false
/-- What is known of one model on the way. -/
structure Step1 (m : Md) (L : List Md) (i : Nat) (x : Md) : Prop where
  r : MdRight x
  v : x.version = m.version + (i : Int)
  u : (upF x).1 = 0 ↔ i + 1 < L.length
  n : (upF x).1 = 0 → L[i + 1]? = some (upM x)
theorem wayL_step : ∀ (k : Nat) {m : Md}, MdRight m → 4 ≤ m.version + (k : Int) → ∀ (i : Nat) (x : Md), (wayL k m)[i]? = some x → Step1 m (wayL k m) i x := by
  intro k
  induction k with
  | zero => intro m h hk i x hx; simp [wayL] at hx
  | succ k ih =>
    intro m h hk i x hx
    have hlen : ∀ c : Md, MdRight c → 4 ≤ c.version + (k : Int) → 0 < (wayL k c).length ∧ (wayL k c)[0]? = some c := by
      intro c hc hck
      have hv := hc.v
      obtain ⟨j, rfl⟩ : ∃ j, k = j + 1 := ⟨k - 1, by omega⟩
      unfold wayL
      exact ⟨by simp, rfl⟩
    by_cases hu : (upF m).1 = 0
    · have hr := up_right hu
      have hk2 : 4 ≤ (upM m).version + (k : Int) := by rw [hr.2]; push_cast at hk; omega
      have e : wayL (k + 1) m = m :: wayL k (upM m) := by conv => lhs; unfold wayL; rw [if_neg (by simp [hu])]
      obtain ⟨h1, h2⟩ := hlen _ hr.1 hk2
      rw [e] at hx ⊢
      cases i with
      | zero =>
        simp at hx; subst hx
        exact ⟨h, by simp, ⟨fun _ => by simp; exact h1, fun _ => hu⟩, fun _ => by simpa using h2⟩
      | succ i =>
        simp at hx
        have h9 := ih hr.1 hk2 i x hx
        refine ⟨h9.r, by rw [h9.v, hr.2]; push_cast; omega, ⟨fun h => by have := h9.u.1 h; simp; omega, fun h => h9.u.2 (by simp at h; omega)⟩, fun h => by simpa using h9.n h⟩
    · have e : wayL (k + 1) m = [m] := by conv => lhs; unfold wayL; rw [if_pos hu]
      rw [e] at hx ⊢
      cases i with
      | zero =>
        simp at hx; subst hx
        exact ⟨h, by simp, ⟨fun h => absurd h hu, fun h => by simp at h⟩, fun h => absurd h hu⟩
      | succ i => simp at hx
theorem waysL_right {m : Md} (h : MdRight m) : waysL m = wayL 3 m := by
  unfold waysL
  rw [if_neg (by rw [h.ok]; simp)]
theorem waysL_step {m : Md} (h : MdRight m) {i : Nat} {x : Md} (hx : (waysL m)[i]? = some x) : Step1 m (waysL m) i x := by
  rw [waysL_right h] at hx ⊢
  exact wayL_step 3 h (by have := h.v; omega) i x hx
theorem waysL_head {m : Md} (h : MdRight m) : (waysL m)[0]? = some m := by
  rw [waysL_right h]
  rfl
theorem waysL_zero {m : Md} : (waysL m).length = 0 ↔ (mdCheck m).1 ≠ 0 := by
  constructor
  · intro h hc
    have := waysL_head (right_of hc)
    rw [List.eq_nil_of_length_eq_zero h] at this
    simp at this
  · intro h
    unfold waysL
    rw [if_pos h]
    rfl
/-- No delay is too great at any step. -/
theorem waysL_full {m : Md} (h : MdRight m) (ho : ∀ l ∈ m.ls, overB l = false) : ((waysL m).length : Int) = 4 - m.version ∧ latF m = (0, 0) ∧ (waysL m)[(waysL m).length - 1]? = some (latM m) := by
  have h3 : ∀ c : Md, MdRight c → c.version = 3 → upF c = (43, 0) := fun c hc hv => by
    unfold upF
    rw [if_neg (by rw [hc.ok]; simp), if_pos hv]
  have h2 : ∀ c : Md, MdRight c → c.version = 2 → upF c = (0, 0) := fun c hc hv => by
    unfold upF
    rw [if_neg (by rw [hc.ok]; simp), if_neg (by omega), if_neg (by omega)]
  have h1 : m.version = 1 → upF m = (0, 0) := fun hv => by
    unfold upF
    rw [if_neg (by rw [h.ok]; simp), if_neg (by omega), if_pos hv, over_none.2 ho]
  have hv := h.v
  rw [waysL_right h]
  unfold latF latM
  rw [if_neg (by rw [h.ok]; simp)]
  have cases3 : m.version = 1 ∨ m.version = 2 ∨ m.version = 3 := by omega
  rcases cases3 with e | e | e
  · have u1 : (upF m).1 = 0 := by rw [h1 e]
    have r1 := up_right u1
    have e2 : (upM m).version = 2 := by rw [r1.2, e]; rfl
    have u2 : (upF (upM m)).1 = 0 := by rw [h2 _ r1.1 e2]
    have r2 := up_right u2
    have e3 : (upM (upM m)).version = 3 := by rw [r2.2, e2]; rfl
    have u3 : (upF (upM (upM m))).1 ≠ 0 := by rw [h3 _ r2.1 e3]; decide
    have hw : wayL 3 m = [m, upM m, upM (upM m)] := by
      unfold wayL
      rw [if_neg (by simp [u1])]
      unfold wayL
      rw [if_neg (by simp [u2])]
      unfold wayL
      rw [if_pos u3]
    have hl : latG 3 m = ((0, 0), upM (upM m)) := by
      rw [latG_next (by omega) u1, latG_next (by omega) u2, latG_done (by omega)]
    rw [hw, hl]
    refine ⟨?_, rfl, rfl⟩
    rw [e]; rfl
  · have u1 : (upF m).1 = 0 := by rw [h2 m h e]
    have r1 := up_right u1
    have e2 : (upM m).version = 3 := by rw [r1.2, e]; rfl
    have u2 : (upF (upM m)).1 ≠ 0 := by rw [h3 _ r1.1 e2]; decide
    have hw : wayL 3 m = [m, upM m] := by
      unfold wayL
      rw [if_neg (by simp [u1])]
      unfold wayL
      rw [if_pos u2]
    have hl : latG 3 m = ((0, 0), upM m) := by
      rw [latG_next (by omega) u1, latG_done (by omega)]
    rw [hw, hl]
    refine ⟨?_, rfl, rfl⟩
    rw [e]; rfl
  · have u1 : (upF m).1 ≠ 0 := by rw [h3 m h e]; decide
    have hw : wayL 3 m = [m] := by
      unfold wayL
      rw [if_pos u1]
    have hl : latG 3 m = ((0, 0), m) := latG_done (by omega)
    rw [hw, hl]
    refine ⟨?_, rfl, rfl⟩
    rw [e]; rfl
theorem over_small {ls : List Lk} (h : ∀ (j : Nat) (l : Lk), j < ls.length → ls[j]? = some l → l.delay ≤ 1073741824) : ∀ l ∈ ls, overB l = false := by
  intro l hl
  obtain ⟨j, hj, rfl⟩ := List.mem_iff_getElem.1 hl
  have := h j _ hj (List.getElem?_eq_getElem hj)
  unfold overB
  exact decide_eq_false (by omega)
/-- The models of a list that is the same. -/
theorem SameMs.get {a b : List Md} (h : SameMs a b) {i : Nat} {y : Md} (hy : b[i]? = some y) : ∃ x, a[i]? = some x ∧ SameM x y := by
  have hi := (List.getElem?_eq_some_iff.1 hy).1
  obtain ⟨x, hx⟩ : ∃ x, a[i]? = some x := ⟨_, List.getElem?_eq_getElem (by rw [h.l]; exact hi)⟩
  exact ⟨x, hx, h.p i x y hx hy⟩
end Go.Proofs.Ythgbahlkflmgiaa.Mo
end
section
namespace Go.Proofs.Ythgbahlkflmgiaa.Mo
open Go Go.RowKit Go.Proofs.Ythgbahlkflmgiaa.Lb
set_option linter.unusedVariables false
theorem strs_nil {w w' : World} {A : Option Addr} {ns : List ByteArray} (hk : Kept Nil w w') (h : RStrs w A ns) : RStrs w' A ns := h.kept hk (fun _ _ _ _ h => h)
theorem Few_h {ver : Int} {pa : Option Addr} {ps : List Pr} {pc : Nat} {la : Option Addr} {ls : List Lk} {lc : Nat} {ea : Option Addr} {es : List Ev} {ec : Nat} (w : World) (hm : RModel w ⟨ver, pa, ps, pc, la, ls, lc, ea, es, ec⟩) : Calls Try.prog 8 #[.agg #[.int .i64 ver, .slice pa ps.length pc, .slice la ls.length lc, .slice ea es.length ec]] w fun e w' => FewEnd ⟨ver, pa, ps, pc, la, ls, lc, ea, es, ec⟩ w e w' := Few_is ⟨ver, pa, ps, pc, la, ls, lc, ea, es, ec⟩ w hm
theorem Same_h {ver1 : Int} {pa1 : Option Addr} {ps1 : List Pr} {pc1 : Nat} {la1 : Option Addr} {ls1 : List Lk} {lc1 : Nat} {ea1 : Option Addr} {es1 : List Ev} {ec1 : Nat} {ver2 : Int} {pa2 : Option Addr} {ps2 : List Pr} {pc2 : Nat} {la2 : Option Addr} {ls2 : List Lk} {lc2 : Nat} {ea2 : Option Addr} {es2 : List Ev} {ec2 : Nat} (w : World) (h1 : HeldM w ⟨ver1, pa1, ps1, pc1, la1, ls1, lc1, ea1, es1, ec1⟩) (h2 : HeldM w ⟨ver2, pa2, ps2, pc2, la2, ls2, lc2, ea2, es2, ec2⟩) (hs : SameM ⟨ver1, pa1, ps1, pc1, la1, ls1, lc1, ea1, es1, ec1⟩ ⟨ver2, pa2, ps2, pc2, la2, ls2, lc2, ea2, es2, ec2⟩) : Calls Try.prog 14 #[.agg #[.int .i64 ver1, .slice pa1 ps1.length pc1, .slice la1 ls1.length lc1, .slice ea1 es1.length ec1], .agg #[.int .i64 ver2, .slice pa2 ps2.length pc2, .slice la2 ls2.length lc2, .slice ea2 es2.length ec2]] w fun e w' => e = .returned (.bool true) ∧ Kept Nil w w' := by
  obtain rfl : ver1 = ver2 := hs.v
  obtain rfl : ls1 = ls2 := hs.l
  obtain rfl : es1 = es2 := hs.e
  have a1 : ps1.length ≤ 100000 := h1.s.p
  have a2 : ls1.length ≤ 100000 := h1.s.l
  have a3 : es1.length ≤ 100000 := h1.s.e
  have a4 : ∀ p ∈ ps1, p.vs.length ≤ 100000 ∧ p.ss.length ≤ 100000 := h1.s.v
  have a5 : SamePs ps1 ps2 := hs.p
  have a6 := h1.r
  have a8 : ps1.length = ps2.length := hs.p.l
  rw [← a8]
  have a7 := h2.r
  clear h1 h2 hs
  exact SameM_at ver1 ps1 ps2 ls1 es1 pa1 pa2 la1 la2 ea1 ea2 pc1 pc2 lc1 lc2 ec1 ec2 w a6 a7 a5 a1 a2 a3 a4
theorem Same_z (w : World) : Calls Try.prog 14 #[.agg #[.int .i64 0, .slice none 0 0, .slice none 0 0, .slice none 0 0], .agg #[.int .i64 0, .slice none 0 0, .slice none 0 0, .slice none 0 0]] w fun e w' => e = .returned (.bool true) ∧ Kept Nil w w' := by
  have h := @Same_h 0 none [] 0 none [] 0 none [] 0 0 none [] 0 none [] 0 none [] 0 w (zero_held 0 w (by simp [Sc.I64])) (zero_held 0 w (by simp [Sc.I64])) (SameM.rfl' _)
  simp only [List.length_nil] at h
  exact h
theorem Names_m (m : Md) (w : World) (hm : HeldM w m) (hf : FewP m) {ns : List ByteArray} (hn : mdNames m = ns) : Calls Try.prog 19 #[m.val] w fun e w' => ∃ A c, e = .returned (.slice A ns.length c) ∧ RStrs w' A ns ∧ Kept Nil w w' := by
  have h1 := hf.pl
  have h2 := hf.ll
  have h9 := Names_is m w hm.r (names_le hf.pl hf.ll (fun q hq => (hf.vs q hq).1)) (by omega) (by omega) (fun q hq => by have := hf.vs q hq; omega)
  rw [hn] at h9
  refine h9.mono ?_
  rintro e w' ⟨v, rfl, ho, hk⟩
  obtain ⟨-, A, c, rfl, hA, -⟩ := strs_of_own ho
  exact ⟨A, c, rfl, hA, hk⟩
theorem Names_h {ver : Int} {pa : Option Addr} {ps : List Pr} {pc : Nat} {la : Option Addr} {ls : List Lk} {lc : Nat} {ea : Option Addr} {es : List Ev} {ec : Nat} (w : World) (hm : HeldM w ⟨ver, pa, ps, pc, la, ls, lc, ea, es, ec⟩) (hf : FewP ⟨ver, pa, ps, pc, la, ls, lc, ea, es, ec⟩) {ns : List ByteArray} (hn : mdNames ⟨ver, pa, ps, pc, la, ls, lc, ea, es, ec⟩ = ns) : Calls Try.prog 19 #[.agg #[.int .i64 ver, .slice pa ps.length pc, .slice la ls.length lc, .slice ea es.length ec]] w fun e w' => ∃ A c, e = .returned (.slice A ns.length c) ∧ RStrs w' A ns ∧ Kept Nil w w' := Names_m ⟨ver, pa, ps, pc, la, ls, lc, ea, es, ec⟩ w hm hf hn
theorem few_same {a b : Md} (h : SameM (latS a) b) (hf : FewP a) : FewP b := by
  have hl := h.p.l
  have hn : mdNames b = mdNames a := by rw [← names_same h, latS_names]
  refine ⟨by rw [← hl]; simpa [latS] using hf.pl, by rw [← h.l]; simpa [latS] using hf.ll, by rw [← h.e]; exact hf.el, fun q hq => ?_, by rw [hn]; exact hf.short⟩
  obtain ⟨j, hj, rfl⟩ := List.mem_iff_getElem.1 hq
  have hj2 : j < (latS a).ps.length := by rw [hl]; exact hj
  have h9 := h.p.p j _ _ (List.getElem?_eq_getElem hj2) (List.getElem?_eq_getElem hj)
  rw [← h9.v, ← h9.s]
  obtain ⟨p, hp, e⟩ := List.mem_map.1 (show (latS a).ps[j] ∈ a.ps.map wtP from List.getElem_mem _)
  rw [← e]
  exact hf.vs p hp
end Go.Proofs.Ythgbahlkflmgiaa.Mo
end
