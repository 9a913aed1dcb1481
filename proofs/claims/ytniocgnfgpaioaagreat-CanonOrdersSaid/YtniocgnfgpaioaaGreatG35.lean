/- The walk of sandtableref15.Names; The walk of sandtableref15.Few; As XCanL, without the document's functions. -/
import Derived.Test.YtniocgnfgpaioaaGreatG2
import Derived.Test.YtniocgnfgpaioaaGreatG14
import Derived.Test.YtniocgnfgpaioaaGreatG34
set_option linter.unusedVariables false
set_option linter.unusedSimpArgs false
section
namespace Go.Proofs.YtniocgnfgpaioaaGreat.Mo
open Go Go.RowKit Go.Proofs.YtniocgnfgpaioaaGreat.Lb


set_option maxHeartbeats 4000000 in
theorem Names_is (m : Md) (w : World) (hr : RModel w m) (hn : (mdNames m).length ≤ 100000) (hpl : m.ps.length ≤ 1000) (hll : m.ls.length ≤ 1000) (hvl : ∀ q ∈ m.ps, q.vs.length ≤ 1000) :
  Calls Tryz.prog 29 #[m.val] w fun e w' => ∃ v, e = .returned v ∧ w'.ownsRow w.heap.size 9 1 v (mdNames m).length ((mdNames m).map Value.string) ∧ Kept Nil w w' := by
 obtain ⟨j0, hjnf, hy0, hy1, hy2⟩ := info_parts infoStr
 obtain ⟨ver, pa, ps, pc, la, ls, lc, ea, es, ec⟩ := m
 simp only at *
 have HR := Lib.hid hr
 have HN := Lib.hid hn
 have HVL := Lib.hid hvl
 clear hr hn hvl
 obtain ⟨W0, hW0⟩ : ∃ W0, w.alloc (.cells #[.int .i64 ver, .slice pa ps.length pc, .slice la ls.length lc, .slice ea es.length ec] 26) = W0 := ⟨_, rfl⟩
 have hk0 : Kept Nil w W0 := by rw [← hW0]; exact (Kept.refl Nil w).alloc _
 have p1 : W0.cell? ⟨w.heap.size, 1, none⟩ = some (.slice pa ps.length pc) := by rw [← hW0]; simp
 have p2 : W0.cell? ⟨w.heap.size, 2, none⟩ = some (.slice la ls.length lc) := by rw [← hW0]; simp
 have hsz : W0.heap.size = w.heap.size + 1 := by rw [← hW0]; simp
 have HW0 := Lib.hid hW0
 have HK0 := Lib.hid hk0
 have G1 := Lib.hid p1
 have G2 := Lib.hid p2
 have HSZ := Lib.hid hsz
 clear hW0 hk0 p1 p2
 unfold Md.val
 go_enter Tryz.func29, Tryz.ntmps29
 go_wp2_with fail
 rw [HW0.out]
 have hW1 : Kept Nil W0 (W0.alloc (.cells #[] 9)) := (Kept.refl Nil W0).alloc _
 have HO1 := Lib.hid (World.ownsRow_lit (base := w.heap.size + 1) (e := 9) (size := 1) W0 #[] 0 (by omega) (by decide) rfl)
 have HW1 := Lib.hid hW1
 clear hW1
 go_loopw [3, 4] (fun r i wr => ∃ k : Nat, k ≤ ps.length ∧ i = .int .i64 k ∧ wr.ownsRow (w.heap.size + 1) 9 1 r ((ps.take k).flatMap prNames).length (((ps.take k).flatMap prNames).map Value.string) ∧ Kept Nil W0 wr) (fun _ i _ => ps.length - (intOf i).toNat)
 case atStart => exact ⟨0, Nat.zero_le _, rfl, (by have h9 := HO1.out; rw [HSZ.out] at h9; simpa using h9), HW1.out⟩
 case round =>
  obtain ⟨k, hk, rfl, hO, hK⟩ := hrel
  have HO := Lib.hid hO
  have hKn := hK
  have HK := Lib.hid hKn
  have q1 := hKn.cell G1.out (fun h => h)
  have q2 := hKn.cell G2.out (fun h => h)
  have hzz := hK.size
  have hbx : w.heap.size < wr.heap.size := by omega
  clear hO hK hKn
  by_cases hlt : k < ps.length
  ·obtain ⟨p, ep⟩ : ∃ p, ps[k]? = some p := ⟨_, List.getElem?_eq_getElem hlt⟩
   have hRM := HR.out.nil (HK0.out.step HK.out)
   obtain ⟨b, off, e1, c0, c1, c2, c3⟩ := hRM.p.at ep
   simp only at e1
   subst e1
   have hbs : b < wr.heap.size := World.block_lt_of_cell? _ _ c0
   have hpv := HVL.out p (List.mem_of_getElem? ep)
   have hnm : ((ps.take k).flatMap prNames).length + (prNames p).length ≤ 100000 := by
    have h9 := HN.out
    have e9 : ps = ps.take k ++ (p :: ps.drop (k + 1)) := by
     rw [← List.getElem?_eq_some_iff.1 ep |>.2, ← List.drop_eq_getElem_cons hlt, List.take_append_drop]
    unfold mdNames at h9
    simp only at h9
    rw [e9] at h9
    simp only [List.flatMap_append, List.flatMap_cons, List.length_append] at h9
    omega
   have hnm2 : (prNames p).length = p.vs.length + 1 := by simp [prNames]
   have HEP := Lib.hid ep
   have HRM := Lib.hid hRM
   clear ep hRM
   go_wp2_with (at_builtin; refine stop_append _ _ _ rfl ?_)
   unfold StopA
   refine wpList_append_own _ rfl _ _ 59 rfl (w.heap.size + 1) 9 j0 (.string ⟨#[]⟩) 1 16 Tryz.underlying59 hjnf hy0 hy1 hy2 rfl (by decide) _ _ _ rfl (HO.out.alloc _) ⟨wr.heap.size, 0, none⟩ 1 1 [.string p.name] rfl rfl (cells_new _ _ _) (by simp [Value.oneCell']) (by unfold maxLen; omega) (by omega) (by simp; omega) ?_
   intro r' w5 hown' hgrow _
   have HO5 := Lib.hid (show w5.ownsRow (w.heap.size + 1) 9 1 r' ((ps.take k).flatMap prNames ++ (p.name :: (p.vs.take 0).map V.name)).length (((ps.take k).flatMap prNames ++ (p.name :: (p.vs.take 0).map V.name)).map Value.string) from by simpa using hown')
   have hk5 : Kept Nil W0 w5 := (HK.out.alloc (.cells #[.string p.name] 9)).grown hgrow (fun j e => .inr (by have := (HO.out.lt j e).1; omega))
   have HK5 := Lib.hid hk5
   have hs5 := hk5.size
   have g1 := hk5.cell G1.out (fun h => h)
   obtain ⟨b', off', e', d0, d1, d2, d3⟩ := (HR.out.nil (HK0.out.step hk5)).p.at HEP.out
   simp only at e'
   cases e'
   obtain ⟨wa, hwa⟩ : ∃ x, x = wr := ⟨_, rfl⟩
   subst hwa
   clear hown' hgrow hk5 d0 d1 d3 c0 c1 c2 c3 q1 q2
   go_wp2_with fail
   go_loopw [3, 5] (fun r i wr => ∃ j : Nat, j ≤ p.vs.length ∧ i = .int .i64 j ∧ wr.ownsRow (w.heap.size + 1) 9 1 r ((ps.take k).flatMap prNames ++ (p.name :: (p.vs.take j).map V.name)).length (((ps.take k).flatMap prNames ++ (p.name :: (p.vs.take j).map V.name)).map Value.string) ∧ Kept Nil W0 wr) (fun _ i _ => p.vs.length - (intOf i).toNat)
   case atStart => exact ⟨0, Nat.zero_le _, rfl, HO5.out, HK5.out⟩
   case round =>
    obtain ⟨j, hj, rfl, hO, hK⟩ := hrel
    have HOj := Lib.hid hO
    have HKj := Lib.hid hK
    have q1 := hK.cell G1.out (fun h => h)
    have g2 := hK.cell G2.out (fun h => h)
    obtain ⟨b3, off3, e3, _, _, q2, _⟩ := (HR.out.nil (HK0.out.step hK)).p.at HEP.out
    simp only at e3
    cases e3
    have hzj := hK.size
    have hbx : w.heap.size < wr.heap.size := by omega
    have hbs : b < wr.heap.size := World.block_lt_of_cell? _ _ q2
    clear hO hK d2 g1
    by_cases hltj : j < p.vs.length
    ·obtain ⟨v, ev⟩ : ∃ v, p.vs[j]? = some v := ⟨_, List.getElem?_eq_getElem hltj⟩
     obtain ⟨b2, off2, e2, v0, v1⟩ := ((HR.out.pp p (List.mem_of_getElem? HEP.out)).nil (HK0.out.step HKj.out)).v.at ev
     have hb2 : b2 < wr.heap.size := World.block_lt_of_cell? _ _ v0
     have hlj : ((ps.take k).flatMap prNames ++ (p.name :: (p.vs.take j).map V.name)).length = ((ps.take k).flatMap prNames).length + (j + 1) := by
      simp; omega
     have HEV := Lib.hid ev
     have HLJ := Lib.hid hlj
     have HE2 := Lib.hid e2
     clear ev hlj
     rw [e2] at q2
     clear e2
     have hlb : ((ps.take k).flatMap prNames ++ (p.name :: (p.vs.take j).map V.name)).length ≤ 100000 := by rw [HLJ.out]; omega
     go_wp2_with (at_builtin; refine stop_append _ _ _ rfl ?_)
     unfold StopA
     refine wpList_append_own _ rfl _ _ 59 rfl (w.heap.size + 1) 9 j0 (.string ⟨#[]⟩) 1 16 Tryz.underlying59 hjnf hy0 hy1 hy2 rfl (by decide) _ _ _ rfl (HOj.out.alloc _) ⟨wr.heap.size, 0, none⟩ 1 1 [.string v.name] rfl rfl (cells_new _ _ _) (by simp [Value.oneCell']) (by unfold maxLen; omega) (by omega) (by simp; omega) ?_
     intro r'' w6 hown' hgrow _
     have HO6 := Lib.hid (show w6.ownsRow (w.heap.size + 1) 9 1 r'' ((ps.take k).flatMap prNames ++ (p.name :: (p.vs.take (j + 1)).map V.name)).length (((ps.take k).flatMap prNames ++ (p.name :: (p.vs.take (j + 1)).map V.name)).map Value.string) from by
      rw [List.take_add_one, HEV.out, Option.toList_some]
      have h9 := hown'
      rw [HLJ.out] at h9
      have e9 : ((ps.take k).flatMap prNames ++ (p.name :: (p.vs.take j ++ [v]).map V.name)).length = ((ps.take k).flatMap prNames).length + (j + 1) + 1 := by simp; omega
      rw [e9]
      simpa using h9)
     have HK6 := Lib.hid ((HKj.out.alloc (.cells #[.string v.name] 9)).grown hgrow (fun i e => .inr (by have := (HOj.out.lt i e).1; omega)))
     clear hown' hgrow
     go_wp2_with fail
     go_round
     case measure => (simp [intOf] <;> omega)
     exact ⟨j + 1, by omega, by go_num, HO6.out, HK6.out⟩
    ·obtain rfl : j = p.vs.length := by omega
     have HO6 := Lib.hid (show wr.ownsRow (w.heap.size + 1) 9 1 _ ((ps.take (k + 1)).flatMap prNames).length (((ps.take (k + 1)).flatMap prNames).map Value.string) from by
      have h9 := HOj.out
      rw [List.take_length] at h9
      rw [List.take_add_one, HEP.out, Option.toList_some, List.flatMap_append]
      simpa [prNames] using h9)
     clear hltj hj
     go_wp2_with fail
     go_round
     case measure => (simp [intOf] <;> omega)
     exact ⟨k + 1, by omega, by go_num, HO6.out, HKj.out⟩
  ·obtain rfl : k = ps.length := by omega
   rw [List.take_length] at HO
   have hnl : (ps.flatMap prNames).length + ls.length ≤ 100000 := by
    have h9 := HN.out
    unfold mdNames at h9
    simpa using h9
   obtain ⟨wa, hwa⟩ : ∃ x, x = wr := ⟨_, rfl⟩
   subst hwa
   clear hlt hk
   go_wp2_with fail
   go_loopw [3, 6] (fun r i wr => ∃ j : Nat, j ≤ ls.length ∧ i = .int .i64 j ∧ wr.ownsRow (w.heap.size + 1) 9 1 r (ps.flatMap prNames ++ (ls.take j).map Lk.name).length ((ps.flatMap prNames ++ (ls.take j).map Lk.name).map Value.string) ∧ Kept Nil W0 wr) (fun _ i _ => ls.length - (intOf i).toNat)
   case atStart => exact ⟨0, Nat.zero_le _, rfl, by simpa using HO.out, HK.out⟩
   case round =>
    obtain ⟨j, hj, rfl, hO, hK⟩ := hrel
    have HOj := Lib.hid hO
    have HKj := Lib.hid hK
    have g2 := hK.cell G2.out (fun h => h)
    have hzj := hK.size
    have hbx : w.heap.size < wr.heap.size := by omega
    clear hO hK q1 q2
    by_cases hltj : j < ls.length
    ·obtain ⟨l, el⟩ : ∃ l, ls[j]? = some l := ⟨_, List.getElem?_eq_getElem hltj⟩
     obtain ⟨b2, off2, e2, v0, v1, v2, v3, v4⟩ := (HR.out.nil (HK0.out.step HKj.out)).l.at el
     simp only at e2
     subst e2
     have hb2 : b2 < wr.heap.size := World.block_lt_of_cell? _ _ v0
     have hlj : (ps.flatMap prNames ++ (ls.take j).map Lk.name).length = (ps.flatMap prNames).length + j := by
      simp; omega
     have HEL := Lib.hid el
     have HLJ := Lib.hid hlj
     have hlb : (ps.flatMap prNames ++ (ls.take j).map Lk.name).length ≤ 100000 := by omega
     clear el hlj
     go_wp2_with (at_builtin; refine stop_append _ _ _ rfl ?_)
     unfold StopA
     refine wpList_append_own _ rfl _ _ 59 rfl (w.heap.size + 1) 9 j0 (.string ⟨#[]⟩) 1 16 Tryz.underlying59 hjnf hy0 hy1 hy2 rfl (by decide) _ _ _ rfl (HOj.out.alloc _) ⟨wr.heap.size, 0, none⟩ 1 1 [.string l.name] rfl rfl (cells_new _ _ _) (by simp [Value.oneCell']) (by unfold maxLen; omega) (by omega) (by simp; omega) ?_
     intro r'' w6 hown' hgrow _
     have HO6 := Lib.hid (show w6.ownsRow (w.heap.size + 1) 9 1 r'' (ps.flatMap prNames ++ (ls.take (j + 1)).map Lk.name).length ((ps.flatMap prNames ++ (ls.take (j + 1)).map Lk.name).map Value.string) from by
      rw [List.take_add_one, HEL.out, Option.toList_some]
      have h9 := hown'
      rw [HLJ.out] at h9
      have e9 : (ps.flatMap prNames ++ (ls.take j ++ [l]).map Lk.name).length = (ps.flatMap prNames).length + j + 1 := by simp; omega
      rw [e9]
      simpa using h9)
     have HK6 := Lib.hid ((HKj.out.alloc (.cells #[.string l.name] 9)).grown hgrow (fun i e => .inr (by have := (HOj.out.lt i e).1; omega)))
     clear hown' hgrow
     go_wp2_with fail
     go_round
     case measure => (simp [intOf] <;> omega)
     exact ⟨j + 1, by omega, by go_num, HO6.out, HK6.out⟩
    ·obtain rfl : j = ls.length := by omega
     rw [List.take_length] at HOj
     go_wp2_with fail
     go_ret
     refine ⟨_, rfl, ?_, HK0.out.step HKj.out⟩
     have h9 := own_lower (base' := w.heap.size) HOj.out (fun i e => by have := (HOj.out.lt i e).1; omega)
     exact h9
end Go.Proofs.YtniocgnfgpaioaaGreat.Mo
end
section
namespace Go.Proofs.YtniocgnfgpaioaaGreat.Mo
open Go Go.RowKit Go.Proofs.YtniocgnfgpaioaaGreat.Lb

/-- A model with few parts, of short names. -/
structure FewP (m : Md) : Prop where
 pl : m.ps.length ≤ 12
 ll : m.ls.length ≤ 24
 el : m.es.length ≤ 24
 vs : ∀ q ∈ m.ps, q.vs.length ≤ 70 ∧ q.ss.length ≤ 300
 short : ∀ s ∈ mdNames m, s.size ≤ 80
theorem names_le {m : Md} (h1 : m.ps.length ≤ 12) (h2 : m.ls.length ≤ 24) (h3 : ∀ q ∈ m.ps, q.vs.length ≤ 70) : (mdNames m).length ≤ 100000 := by
 unfold mdNames
 rw [List.length_append, List.length_map, List.length_flatMap]
 have hf : (fun a => (prNames a).length) = (fun a : Pr => a.vs.length + 1) := by funext a; simp [prNames]
 rw [hf]
 have : (m.ps.map (fun a : Pr => a.vs.length + 1)).sum ≤ m.ps.length * 71 := by
  have h3' := h3
  generalize m.ps = l at *
  induction l with
  | nil => simp
  | cons p l ih =>
   have := ih (by simp at h1; omega) (fun q hq => h3 q (List.mem_cons_of_mem _ hq)) (fun q hq => h3 q (List.mem_cons_of_mem _ hq))
   have := h3 p (List.mem_cons_self ..)
   simp only [List.map_cons, List.sum_cons, List.length_cons]
   omega
 omega
theorem own_slice {w : World} {base e size n : Nat} {v : Value} {xs : List Value} (h : w.ownsRow base e size v n xs) : ∃ A cap, v = .slice A n cap := by
 rcases own_form h with ⟨h1, h2, _⟩ | ⟨g, cap, h1, _⟩
 ·exact ⟨none, 0, by rw [h1, h2]⟩
 ·exact ⟨_, _, h1⟩
structure FewEnd (m : Md) (w : World) (e : Ending) (w' : World) : Prop where
 ex : ∃ b, e = .returned (.bool b) ∧ (b = true → FewP m) ∧ Kept Nil w w'
set_option maxHeartbeats 4000000 in
theorem Few_is (m : Md) (w : World) (hr : RModel w m) : Calls Tryz.prog 10 #[m.val] w fun e w' => FewEnd m w e w' := by
 have HM := Lib.hid hr
 obtain ⟨ver, pa, ps, pc, la, ls, lc, ea, es, ec⟩ := m
 have hpl := hr.pl
 have hll := hr.ll
 have hel := hr.el
 unfold maxLen at hpl hll hel
 simp only at *
 have HR := Lib.hid hr
 clear hr
 obtain ⟨W0, hW0⟩ : ∃ W0, w.alloc (.cells #[.int .i64 ver, .slice pa ps.length pc, .slice la ls.length lc, .slice ea es.length ec] 26) = W0 := ⟨_, rfl⟩
 have hk0 : Kept Nil w W0 := by rw [← hW0]; exact (Kept.refl Nil w).alloc _
 have p0 : W0.cell? ⟨w.heap.size, 0, none⟩ = some (.int .i64 ver) := by rw [← hW0]; simp
 have p1 : W0.cell? ⟨w.heap.size, 1, none⟩ = some (.slice pa ps.length pc) := by rw [← hW0]; simp
 have p2 : W0.cell? ⟨w.heap.size, 2, none⟩ = some (.slice la ls.length lc) := by rw [← hW0]; simp
 have p3 : W0.cell? ⟨w.heap.size, 3, none⟩ = some (.slice ea es.length ec) := by rw [← hW0]; simp
 have hsz : W0.heap.size = w.heap.size + 1 := by rw [← hW0]; simp
 have HW0 := Lib.hid hW0
 have HK0 := Lib.hid hk0
 have G0 := Lib.hid p0
 have G1 := Lib.hid p1
 have G2 := Lib.hid p2
 have G3 := Lib.hid p3
 have HSZ := Lib.hid hsz
 clear hW0 hk0 p0 p1 p2 p3
 unfold Md.val
 simp only
 by_cases h0 : 12 < ps.length
 ·go_enter Tryz.func10, Tryz.ntmps10
  go_wp2_with fail
  go_ret
  exact ⟨⟨false, rfl, (fun h => by cases h), (by (repeat (first | exact Kept.refl _ _ | refine Kept.drew ?_ | refine Kept.alloc ?_ _)))⟩⟩
 by_cases h1 : 24 < ls.length
 ·go_enter Tryz.func10, Tryz.ntmps10
  go_wp2_with fail
  go_ret
  exact ⟨⟨false, rfl, (fun h => by cases h), (by (repeat (first | exact Kept.refl _ _ | refine Kept.drew ?_ | refine Kept.alloc ?_ _)))⟩⟩
 by_cases h2 : 24 < es.length
 ·go_enter Tryz.func10, Tryz.ntmps10
  go_wp2_with fail
  go_ret
  exact ⟨⟨false, rfl, (fun h => by cases h), (by (repeat (first | exact Kept.refl _ _ | refine Kept.drew ?_ | refine Kept.alloc ?_ _)))⟩⟩
 go_enter Tryz.func10, Tryz.ntmps10
 go_wp2_with fail
 rw [HW0.out]
 go_loopw [3] (fun i wr => ∃ k : Nat, k ≤ ps.length ∧ i = .int .i64 k ∧ (∀ (j : Nat) (q : Pr), j < k → ps[j]? = some q → q.vs.length ≤ 70 ∧ q.ss.length ≤ 300) ∧ Kept Nil W0 wr) (fun i _ => ps.length - (intOf i).toNat)
 case atStart => exact ⟨0, Nat.zero_le _, rfl, fun j s h => by omega, Kept.refl _ _⟩
 case round =>
  obtain ⟨k, hk, rfl, hall, hK⟩ := hrel
  have HALL := Lib.hid hall
  have HK := Lib.hid hK
  have q0 := hK.cell G0.out (fun h => h)
  have q1 := hK.cell G1.out (fun h => h)
  have q2 := hK.cell G2.out (fun h => h)
  have q3 := hK.cell G3.out (fun h => h)
  have hzz := hK.size
  have hbx : w.heap.size < wr.heap.size := by omega
  clear hall hK
  by_cases hlt : k < ps.length
  ·obtain ⟨p, ep⟩ : ∃ p, ps[k]? = some p := ⟨_, List.getElem?_eq_getElem hlt⟩
   have hRM := HR.out.nil (HK0.out.step HK.out)
   obtain ⟨b, off, e1, c0, c1, c2, c3⟩ := hRM.p.at ep
   simp only at e1
   subst e1
   have hbs : b < wr.heap.size := World.block_lt_of_cell? _ _ c0
   have HEP := Lib.hid ep
   have hv1 := (HR.out.pp p (List.mem_of_getElem? ep)).vl
   have hv2 := (HR.out.pp p (List.mem_of_getElem? ep)).sl
   unfold maxLen at hv1 hv2
   clear ep hRM
   by_cases hv : 70 < p.vs.length
   ·go_wp2_with fail
    go_ret
    exact ⟨⟨false, rfl, (fun h => by cases h), HK0.out.step HK.out⟩⟩
   ·by_cases hs : 300 < p.ss.length
    ·go_wp2_with fail
     go_ret
     exact ⟨⟨false, rfl, (fun h => by cases h), HK0.out.step HK.out⟩⟩
    ·go_wp2_with fail
     go_round
     case measure => (simp [intOf] <;> omega)
     refine ⟨k + 1, by omega, by go_num, fun j u hj hu => ?_, HK.out⟩
     by_cases e : j = k
     ·subst e; rw [HEP.out] at hu; cases hu; exact ⟨by omega, by omega⟩
     ·exact HALL.out j u (by omega) hu
  ·obtain rfl : k = ps.length := by omega
   have hqs : ∀ q ∈ ps, q.vs.length ≤ 70 ∧ q.ss.length ≤ 300 := fun q hq => by
    obtain ⟨j, hj, rfl⟩ := List.mem_iff_getElem.1 hq
    exact HALL.out j _ hj (List.getElem?_eq_getElem hj)
   have HQS := Lib.hid hqs
   clear hlt hk hqs
   go_wp2_with fail
   refine (Names_is ⟨ver, pa, ps, pc, la, ls, lc, ea, es, ec⟩ wr (HR.out.nil (HK0.out.step HK.out)) (names_le (by simp only; omega) (by simp only; omega) (fun q hq => (HQS.out q hq).1)) (by simp only; omega) (by simp only; omega) (fun q hq => by have := (HQS.out q hq).1; omega)).mono ?_
   rintro e w3 ⟨v3, rfl, O3, hk3⟩
   obtain ⟨ns, hns⟩ : ∃ ns, mdNames ⟨ver, pa, ps, pc, la, ls, lc, ea, es, ec⟩ = ns := ⟨_, rfl⟩
   have hnl : ns.length ≤ 100000 := by rw [← hns]; exact names_le (by simp only; omega) (by simp only; omega) (fun q hq => (HQS.out q hq).1)
   rw [hns] at O3
   have HNS := Lib.hid hns
   obtain ⟨A3, c3, rfl⟩ := own_slice O3
   have HO3 := Lib.hid O3
   have HK3 := Lib.hid ((HK0.out.step HK.out).step hk3)
   clear hns O3 hk3 q0 q1 q2 q3
   go_wp2_with fail
   obtain ⟨wa, hwa⟩ : ∃ x, x = wr := ⟨_, rfl⟩
   subst hwa
   go_loopw [5] (fun i wr => ∃ k : Nat, k ≤ ns.length ∧ i = .int .i64 k ∧ (∀ (j : Nat) (s : ByteArray), j < k → ns[j]? = some s → s.size ≤ 80) ∧ Kept Nil w3 wr) (fun i _ => ns.length - (intOf i).toNat)
   case atStart => exact ⟨0, Nat.zero_le _, rfl, fun j s h => by omega, Kept.refl _ _⟩
   case round =>
    obtain ⟨k, hk, rfl, hall, hK⟩ := hrel
    have HALLs := Lib.hid hall
    have HKs := Lib.hid hK
    clear hall hK
    by_cases hlt : k < ns.length
    ·obtain ⟨s, es'⟩ : ∃ s, ns[k]? = some s := ⟨_, List.getElem?_eq_getElem hlt⟩
     have HES := Lib.hid es'
     obtain ⟨g3, rfl⟩ : ∃ g3, A3 = some ⟨g3, 0, none⟩ := by
      rcases own_form HO3.out with ⟨h1, h2, _⟩ | ⟨g, cap, h1, _⟩
      ·omega
      ·cases h1; exact ⟨g, rfl⟩
     have c0 := (HKs.out.own HO3.out (fun _ _ h => h))
     have c1 := own_cell c0 (j := k) (u := .string s) (by rw [List.getElem?_map, HES.out]; rfl)
     clear es' c0
     by_cases hs : 80 < s.size
     ·go_wp2_with fail
      go_ret
      exact ⟨⟨false, rfl, (fun h => by cases h), HK3.out.step HKs.out⟩⟩
     ·go_wp2_with fail
      go_round
      case measure => (simp [intOf] <;> omega)
      refine ⟨k + 1, by omega, by go_num, fun j u hj hu => ?_, HKs.out⟩
      by_cases e : j = k
      ·subst e; rw [HES.out] at hu; cases hu; omega
      ·exact HALLs.out j u (by omega) hu
    ·obtain rfl : k = ns.length := by omega
     go_wp2_with fail
     go_ret
     refine ⟨⟨true, rfl, fun _ => ⟨by simp only; omega, by simp only; omega, by simp only; omega, HQS.out, fun s hs => ?_⟩, HK3.out.step HKs.out⟩⟩
     rw [HNS.out] at hs
     obtain ⟨j, hj, rfl⟩ := List.mem_iff_getElem.1 hs
     exact HALLs.out j _ hj (List.getElem?_eq_getElem hj)
end Go.Proofs.YtniocgnfgpaioaaGreat.Mo
end
section
namespace Go.Proofs.YtniocgnfgpaioaaGreat.Mo
open Go Go.RowKit Go.Proofs.YtniocgnfgpaioaaGreat.Lb Go.Proofs.YtniocgnfgpaioaaGreat.HpPure
set_option maxRecDepth 8000
theorem held_of_few {w : World} {m : Md} (hr : RModel w m) (ho : OkM m) (hf : FewP m) : HeldM w m :=
 ⟨hr, ho, ⟨by have := hf.pl; omega, by have := hf.ll; omega, by have := hf.el; omega, fun p hp => by have := hf.vs p hp; omega⟩⟩
theorem Few_h {ver : Int} {pa : Option Addr} {ps : List Pr} {pc : Nat} {la : Option Addr} {ls : List Lk} {lc : Nat} {ea : Option Addr} {es : List Ev} {ec : Nat} (w : World) (hm : RModel w ⟨ver, pa, ps, pc, la, ls, lc, ea, es, ec⟩) : Calls Tryz.prog 10 #[.agg #[.int .i64 ver, .slice pa ps.length pc, .slice la ls.length lc, .slice ea es.length ec]] w fun e w' => FewEnd ⟨ver, pa, ps, pc, la, ls, lc, ea, es, ec⟩ w e w' := Few_is ⟨ver, pa, ps, pc, la, ls, lc, ea, es, ec⟩ w hm
theorem Canon_h {ver : Int} {pa : Option Addr} {ps : List Pr} {pc : Nat} {la : Option Addr} {ls : List Lk} {lc : Nat} {ea : Option Addr} {es : List Ev} {ec : Nat} (w : World) (hm : HeldM w ⟨ver, pa, ps, pc, la, ls, lc, ea, es, ec⟩) : Calls Tryz.prog 12 #[.agg #[.int .i64 ver, .slice pa ps.length pc, .slice la ls.length lc, .slice ea es.length ec]] w fun e w' => CanEnd ⟨ver, pa, ps, pc, la, ls, lc, ea, es, ec⟩ w e w' := Canon_is ver ps ls es pa la ea pc lc ec w hm
theorem cSame_h {ver1 : Int} {pa1 : Option Addr} {ps1 : List Pr} {pc1 : Nat} {la1 : Option Addr} {ls1 : List Lk} {lc1 : Nat} {ea1 : Option Addr} {es1 : List Ev} {ec1 : Nat} {ver2 : Int} {pa2 : Option Addr} {ps2 : List Pr} {pc2 : Nat} {la2 : Option Addr} {ls2 : List Lk} {lc2 : Nat} {ea2 : Option Addr} {es2 : List Ev} {ec2 : Nat} (w : World) (h1 : HeldM w ⟨ver1, pa1, ps1, pc1, la1, ls1, lc1, ea1, es1, ec1⟩) (h2 : HeldM w ⟨ver2, pa2, ps2, pc2, la2, ls2, lc2, ea2, es2, ec2⟩) {r : Bool} (hr : eqM ⟨ver1, pa1, ps1, pc1, la1, ls1, lc1, ea1, es1, ec1⟩ ⟨ver2, pa2, ps2, pc2, la2, ls2, lc2, ea2, es2, ec2⟩ = r) : Calls Tryz.prog 16 #[.agg #[.int .i64 ver1, .slice pa1 ps1.length pc1, .slice la1 ls1.length lc1, .slice ea1 es1.length ec1], .agg #[.int .i64 ver2, .slice pa2 ps2.length pc2, .slice la2 ls2.length lc2, .slice ea2 es2.length ec2]] w fun e w' => e = .returned (.bool r) ∧ Kept Nil w w' := by
 rw [← hr]
 exact cSame_is ver1 ver2 ps1 ps2 ls1 ls2 es1 es2 pa1 pa2 la1 la2 ea1 ea2 pc1 pc2 lc1 lc2 ec1 ec2 w h1 h2
theorem cIs_h {ver : Int} {pa : Option Addr} {ps : List Pr} {pc : Nat} {la : Option Addr} {ls : List Lk} {lc : Nat} {ea : Option Addr} {es : List Ev} {ec : Nat} (w : World) (hm : HeldM w ⟨ver, pa, ps, pc, la, ls, lc, ea, es, ec⟩) {r : Bool} (hr : eqM ⟨ver, pa, ps, pc, la, ls, lc, ea, es, ec⟩ (canM ⟨ver, pa, ps, pc, la, ls, lc, ea, es, ec⟩) = r) : Calls Tryz.prog 15 #[.agg #[.int .i64 ver, .slice pa ps.length pc, .slice la ls.length lc, .slice ea es.length ec]] w fun e w' => e = .returned (.bool r) ∧ Kept Nil w w' := by
 rw [← hr]
 exact cIs_is ver ps ls es pa la ea pc lc ec w hm
end Go.Proofs.YtniocgnfgpaioaaGreat.Mo
end
