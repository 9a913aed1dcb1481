/- The walks of model.Proc, model.Link and of the reference's. -/
import Derived.Test.YtehecolejeonaaaModels
import Derived.Test.YtehecolejeonaaaBasics
import Derived.Test.YtehecolejeonaaaCheckP
namespace Go.Proofs.Ytehecolejeonaaa.Mo
open Go Go.RowKit Go.Proofs.Ytehecolejeonaaa.Lb
set_option linter.unusedVariables false
set_option linter.unusedSimpArgs false

theorem findM_some {α : Type} {f : α → ByteArray} {xs : List α} {s : ByteArray} {k : Nat} {x : α} (h : ∀ (j : Nat) (x : α), j < k → xs[j]? = some x → (f x).toList ≠ s.toList) (hk : xs[k]? = some x) (e : (f x).toList = s.toList) : findI (xs.map f) s = k :=
  findI_some (t := f x) (fun j t hj ht => by
    rw [List.getElem?_map] at ht
    obtain ⟨v, hv, e⟩ := Option.map_eq_some_iff.1 ht
    subst e
    exact h j v hj hv) (by rw [List.getElem?_map, hk]; rfl) e
theorem findM_none {α : Type} {f : α → ByteArray} {xs : List α} {s : ByteArray} (h : ∀ (j : Nat) (x : α), j < xs.length → xs[j]? = some x → (f x).toList ≠ s.toList) : findI (xs.map f) s = -1 :=
  findI_none (fun j t hj ht => by
    rw [List.getElem?_map] at ht
    obtain ⟨v, hv, e⟩ := Option.map_eq_some_iff.1 ht
    subst e
    exact h j v (by simpa using hj) hv)
def Pr.cs (p : Pr) : Value := .agg #[.string p.name, .int .i64 p.weight, .slice p.va p.vs.length p.vc, .slice p.sa p.ss.length p.sc]
def Lk.cs (l : Lk) : Value := .agg #[.string l.name, .string l.src, .string l.dst, .int .i64 l.delay, .int .i64 l.weight]
def Ev.cs (e : Ev) : Value := .agg #[.string e.to, .int .i64 e.at_, .int .i64 e.value]
theorem RProcs.nil {w w' : World} {A : Option Addr} {ps : List Pr} (h : RProcs w A ps) (hk : Kept Nil w w') : RProcs w' A ps := by
  rcases h with h | ⟨b, off, h, hc⟩
  · exact .inl h
  · exact .inr ⟨b, off, h, fun j p hj => by obtain ⟨h1, h2, h3, h4⟩ := hc j p hj; exact ⟨hk.cell h1 (fun h => h), hk.cell h2 (fun h => h), hk.cell h3 (fun h => h), hk.cell h4 (fun h => h)⟩⟩
theorem RLinks.nil {w w' : World} {A : Option Addr} {ps : List Lk} (h : RLinks w A ps) (hk : Kept Nil w w') : RLinks w' A ps := by
  rcases h with h | ⟨b, off, h, hc⟩
  · exact .inl h
  · exact .inr ⟨b, off, h, fun j p hj => by obtain ⟨h1, h2, h3, h4, h5⟩ := hc j p hj; exact ⟨hk.cell h1 (fun h => h), hk.cell h2 (fun h => h), hk.cell h3 (fun h => h), hk.cell h4 (fun h => h), hk.cell h5 (fun h => h)⟩⟩
theorem REvents.nil {w w' : World} {A : Option Addr} {ps : List Ev} (h : REvents w A ps) (hk : Kept Nil w w') : REvents w' A ps := by
  rcases h with h | ⟨b, off, h, hc⟩
  · exact .inl h
  · exact .inr ⟨b, off, h, fun j p hj => by obtain ⟨h1, h2, h3⟩ := hc j p hj; exact ⟨hk.cell h1 (fun h => h), hk.cell h2 (fun h => h), hk.cell h3 (fun h => h)⟩⟩
theorem REvents.at {w : World} {A : Option Addr} {es : List Ev} (h : REvents w A es) {k : Nat} {e : Ev} (hv : es[k]? = some e) :
    ∃ b off, A = some ⟨b, off, none⟩ ∧ w.cell? ⟨b, off + k * 3, none⟩ = some (.string e.to) ∧ w.cell? ⟨b, off + k * 3 + 1, none⟩ = some (.int .i64 e.at_) ∧ w.cell? ⟨b, off + k * 3 + 2, none⟩ = some (.int .i64 e.value) := by
  rcases h with rfl | ⟨b, off, h, hc⟩
  · simp at hv
  · exact ⟨b, off, h, hc k e hv⟩
set_option maxHeartbeats 1000000 in
theorem isProc_is (v : Pr) (bx : Nat) (s : ByteArray) (w : World) (hb : w.cell? ⟨bx, 0, none⟩ = some (.string s)) :
    Calls Try.prog 38 #[v.cs, .pointer (some ⟨bx, 0, none⟩)] w fun e w' => e = .returned (.bool (v.name.toList == s.toList)) ∧ Kept Nil w w' := by
  obtain ⟨name, weight, va, vs, vc, sa, ss, sc⟩ := v
  have hlt := World.block_lt_of_cell? _ _ hb
  unfold Pr.cs
  go_enter Try.func38, Try.ntmps38
  go_wp2
  go_ret
  exact ⟨rfl, (by (repeat (first | exact Kept.refl _ _ | refine Kept.drew ?_ | refine Kept.alloc ?_ _)))⟩
set_option maxHeartbeats 2000000 in
theorem IndexFuncProc_is (vs : List Pr) (A : Option Addr) (cap bx : Nat) (s : ByteArray) (w : World) (hr : RProcs w A vs) (hb : w.cell? ⟨bx, 0, none⟩ = some (.string s)) (hm : vs.length ≤ 9223372036854775807) :
    Calls Try.prog 37 #[.slice A vs.length cap, .func (.func 38) #[] #[.pointer (some ⟨bx, 0, none⟩)]] w fun e w' => e = .returned (.int .i64 (findI (vs.map Pr.name) s)) ∧ Kept Nil w w' := by
  have HR := Lib.hid hr
  have HB := Lib.hid hb
  clear hr hb
  go_enter Try.func37, Try.ntmps37
  go_wp2_with fail
  go_loopw [8] (fun i wr => ∃ k : Nat, k ≤ vs.length ∧ i = .int .i64 k ∧ (∀ (j : Nat) (v : Pr), j < k → vs[j]? = some v → v.name.toList ≠ s.toList) ∧ Kept Nil w wr) (fun i _ => vs.length - (intOf i).toNat)
  case atStart => exact ⟨0, Nat.zero_le _, rfl, fun j v h => by omega, Kept.refl _ _⟩
  case round =>
    obtain ⟨k, hk, rfl, hne, hK⟩ := hrel
    have HNE := Lib.hid hne
    have HK := Lib.hid hK
    clear hne hK
    by_cases hlt : k < vs.length
    · obtain ⟨v, ev⟩ : ∃ v, vs[k]? = some v := ⟨_, List.getElem?_eq_getElem hlt⟩
      obtain ⟨b, off, rfl, c0, c1, c2, c3⟩ := (HR.out.nil HK.out).at ev
      have HEV := Lib.hid ev
      clear ev
      have hel := HB.out
      go_wp2_with fail
      refine (isProc_is v bx s wr (HK.out.cell HB.out (fun h => h))).mono ?_
      rintro e w1 ⟨rfl, hk1⟩
      have HK1 := Lib.hid (HK.out.step hk1)
      clear hk1 hel
      by_cases hn : v.name.toList = s.toList
      · have hb : (v.name.toList == s.toList) = true := by simp [hn]
        have HV := Lib.hid (findM_some HNE.out HEV.out hn)
        clear hn
        go_wp2_with fail
        go_ret
        exact ⟨by rw [HV.out]; rfl, HK1.out⟩
      · have hb : (v.name.toList == s.toList) = false := by simp [hn]
        have HN := Lib.hid hn
        clear hn
        go_wp2_with fail
        go_round
        case measure => (simp [intOf] <;> omega)
        refine ⟨k + 1, by omega, by go_num, fun j u hj hu => ?_, HK1.out⟩
        by_cases e : j = k
        · subst e
          rw [HEV.out] at hu; cases hu
          exact HN.out
        · exact HNE.out j u (by omega) hu
    · obtain rfl : k = vs.length := by omega
      have HV := Lib.hid (findM_none (f := Pr.name) HNE.out)
      go_wp2_with fail
      go_ret
      exact ⟨by rw [HV.out]; rfl, HK.out⟩
set_option maxHeartbeats 1000000 in
theorem Proc_is (m : Md) (s : ByteArray) (w : World) (hr : RModel w m) : Calls Try.prog 16 #[m.val, .string s] w fun e w' => e = .returned (.int .i64 (findI (m.ps.map Pr.name) s)) ∧ Kept Nil w w' := by
  have HR := Lib.hid hr
  have hvl := hr.pl
  unfold maxLen at hvl
  clear hr
  obtain ⟨ver, pa, ps, pc, la, ls, lc, ea, es, ec⟩ := m
  unfold Md.val
  simp only at *
  go_enter Try.func16, Try.ntmps16
  go_wp2_with fail
  refine (IndexFuncProc_is ps pa pc (w.heap.size + 1) s _ ((HR.out.nil (((Kept.refl Nil w).alloc _).alloc _)).p) (by simp) (by omega)).mono ?_
  rintro e w1 ⟨rfl, hk1⟩
  have HK := Lib.hid ((((Kept.refl Nil w).alloc _).alloc _).step hk1)
  clear hk1
  go_wp2_with fail
  go_ret
  exact ⟨rfl, HK.out⟩
set_option maxHeartbeats 2000000 in
theorem RefProc_is (m : Md) (s : ByteArray) (w : World) (hr : RModel w m) : Calls Try.prog 17 #[m.val, .string s] w fun e w' => e = .returned (.int .i64 (findI (m.ps.map Pr.name) s)) ∧ Kept Nil w w' := by
  have HR := Lib.hid hr
  have hvl := hr.pl
  unfold maxLen at hvl
  clear hr
  obtain ⟨ver, pa, ps, pc, la, ls, lc, ea, es, ec⟩ := m
  unfold Md.val
  simp only at *
  go_enter Try.func17, Try.ntmps17
  go_wp2_with fail
  obtain ⟨W0, hW0⟩ : ∃ W0, w.alloc (.cells #[.int .i64 ver, .slice pa ps.length pc, .slice la ls.length lc, .slice ea es.length ec] 26) = W0 := ⟨_, rfl⟩
  have hk0 : Kept Nil w W0 := by rw [← hW0]; exact (Kept.refl Nil w).alloc _
  have hp2 : W0.cell? ⟨w.heap.size, 1, none⟩ = some (.slice pa ps.length pc) := by rw [← hW0]; simp
  have HK0 := Lib.hid hk0
  have HP2 := Lib.hid hp2
  rw [hW0]
  clear hW0 hk0 hp2
  go_loopw [5] (fun i wr => ∃ k : Nat, k ≤ ps.length ∧ i = .int .i64 k ∧ (∀ (j : Nat) (v : Pr), j < k → ps[j]? = some v → v.name.toList ≠ s.toList) ∧ Kept Nil W0 wr) (fun i _ => ps.length - (intOf i).toNat)
  case atStart => exact ⟨0, Nat.zero_le _, rfl, fun j v h => by omega, Kept.refl _ _⟩
  case round =>
    obtain ⟨k, hk, rfl, hne, hK⟩ := hrel
    have HNE := Lib.hid hne
    have HK := Lib.hid (HK0.out.step hK)
    have HK2 := Lib.hid hK
    have p2 := hK.cell HP2.out (fun h => h)
    clear hne hK
    by_cases hlt : k < ps.length
    · obtain ⟨v, ev⟩ : ∃ v, ps[k]? = some v := ⟨_, List.getElem?_eq_getElem hlt⟩
      obtain ⟨b, off, e1, c0, c1, c2, c3⟩ := ((HR.out.nil HK.out).p).at ev
      simp only at e1
      subst e1
      have HEV := Lib.hid ev
      clear ev
      by_cases hn : v.name.toList = s.toList
      · have hb : (v.name.toList == s.toList) = true := by simp [hn]
        have HV := Lib.hid (findM_some HNE.out HEV.out hn)
        clear hn
        go_wp2_with fail
        go_ret
        exact ⟨by rw [HV.out]; rfl, HK.out⟩
      · have hb : (v.name.toList == s.toList) = false := by simp [hn]
        have HN := Lib.hid hn
        clear hn
        go_wp2_with fail
        go_round
        case measure => (simp [intOf] <;> omega)
        refine ⟨k + 1, by omega, by go_num, fun j u hj hu => ?_, HK2.out⟩
        by_cases e : j = k
        · subst e
          rw [HEV.out] at hu; cases hu
          exact HN.out
        · exact HNE.out j u (by omega) hu
    · obtain rfl : k = ps.length := by omega
      have HV := Lib.hid (findM_none (f := Pr.name) HNE.out)
      go_wp2_with fail
      go_ret
      exact ⟨by rw [HV.out]; rfl, HK.out⟩
set_option maxHeartbeats 1000000 in
theorem isLink_is (v : Lk) (bx : Nat) (s : ByteArray) (w : World) (hb : w.cell? ⟨bx, 0, none⟩ = some (.string s)) :
    Calls Try.prog 40 #[v.cs, .pointer (some ⟨bx, 0, none⟩)] w fun e w' => e = .returned (.bool (v.name.toList == s.toList)) ∧ Kept Nil w w' := by
  obtain ⟨name, src, dst, delay, weight⟩ := v
  have hlt := World.block_lt_of_cell? _ _ hb
  unfold Lk.cs
  go_enter Try.func40, Try.ntmps40
  go_wp2
  go_ret
  exact ⟨rfl, (by (repeat (first | exact Kept.refl _ _ | refine Kept.drew ?_ | refine Kept.alloc ?_ _)))⟩
set_option maxHeartbeats 2000000 in
theorem IndexFuncLink_is (vs : List Lk) (A : Option Addr) (cap bx : Nat) (s : ByteArray) (w : World) (hr : RLinks w A vs) (hb : w.cell? ⟨bx, 0, none⟩ = some (.string s)) (hm : vs.length ≤ 9223372036854775807) :
    Calls Try.prog 39 #[.slice A vs.length cap, .func (.func 40) #[] #[.pointer (some ⟨bx, 0, none⟩)]] w fun e w' => e = .returned (.int .i64 (findI (vs.map Lk.name) s)) ∧ Kept Nil w w' := by
  have HR := Lib.hid hr
  have HB := Lib.hid hb
  clear hr hb
  go_enter Try.func39, Try.ntmps39
  go_wp2_with fail
  go_loopw [8] (fun i wr => ∃ k : Nat, k ≤ vs.length ∧ i = .int .i64 k ∧ (∀ (j : Nat) (v : Lk), j < k → vs[j]? = some v → v.name.toList ≠ s.toList) ∧ Kept Nil w wr) (fun i _ => vs.length - (intOf i).toNat)
  case atStart => exact ⟨0, Nat.zero_le _, rfl, fun j v h => by omega, Kept.refl _ _⟩
  case round =>
    obtain ⟨k, hk, rfl, hne, hK⟩ := hrel
    have HNE := Lib.hid hne
    have HK := Lib.hid hK
    clear hne hK
    by_cases hlt : k < vs.length
    · obtain ⟨v, ev⟩ : ∃ v, vs[k]? = some v := ⟨_, List.getElem?_eq_getElem hlt⟩
      obtain ⟨b, off, rfl, c0, c1, c2, c3, c4⟩ := (HR.out.nil HK.out).at ev
      have HEV := Lib.hid ev
      clear ev
      have hel := HB.out
      go_wp2_with fail
      refine (isLink_is v bx s wr (HK.out.cell HB.out (fun h => h))).mono ?_
      rintro e w1 ⟨rfl, hk1⟩
      have HK1 := Lib.hid (HK.out.step hk1)
      clear hk1 hel
      by_cases hn : v.name.toList = s.toList
      · have hb : (v.name.toList == s.toList) = true := by simp [hn]
        have HV := Lib.hid (findM_some HNE.out HEV.out hn)
        clear hn
        go_wp2_with fail
        go_ret
        exact ⟨by rw [HV.out]; rfl, HK1.out⟩
      · have hb : (v.name.toList == s.toList) = false := by simp [hn]
        have HN := Lib.hid hn
        clear hn
        go_wp2_with fail
        go_round
        case measure => (simp [intOf] <;> omega)
        refine ⟨k + 1, by omega, by go_num, fun j u hj hu => ?_, HK1.out⟩
        by_cases e : j = k
        · subst e
          rw [HEV.out] at hu; cases hu
          exact HN.out
        · exact HNE.out j u (by omega) hu
    · obtain rfl : k = vs.length := by omega
      have HV := Lib.hid (findM_none (f := Lk.name) HNE.out)
      go_wp2_with fail
      go_ret
      exact ⟨by rw [HV.out]; rfl, HK.out⟩
set_option maxHeartbeats 1000000 in
theorem Link_is (m : Md) (s : ByteArray) (w : World) (hr : RModel w m) : Calls Try.prog 18 #[m.val, .string s] w fun e w' => e = .returned (.int .i64 (findI (m.ls.map Lk.name) s)) ∧ Kept Nil w w' := by
  have HR := Lib.hid hr
  have hvl := hr.ll
  unfold maxLen at hvl
  clear hr
  obtain ⟨ver, pa, ps, pc, la, ls, lc, ea, es, ec⟩ := m
  unfold Md.val
  simp only at *
  go_enter Try.func18, Try.ntmps18
  go_wp2_with fail
  refine (IndexFuncLink_is ls la lc (w.heap.size + 1) s _ ((HR.out.nil (((Kept.refl Nil w).alloc _).alloc _)).l) (by simp) (by omega)).mono ?_
  rintro e w1 ⟨rfl, hk1⟩
  have HK := Lib.hid ((((Kept.refl Nil w).alloc _).alloc _).step hk1)
  clear hk1
  go_wp2_with fail
  go_ret
  exact ⟨rfl, HK.out⟩
set_option maxHeartbeats 2000000 in
theorem RefLink_is (m : Md) (s : ByteArray) (w : World) (hr : RModel w m) : Calls Try.prog 19 #[m.val, .string s] w fun e w' => e = .returned (.int .i64 (findI (m.ls.map Lk.name) s)) ∧ Kept Nil w w' := by
  have HR := Lib.hid hr
  have hvl := hr.ll
  unfold maxLen at hvl
  clear hr
  obtain ⟨ver, pa, ps, pc, la, ls, lc, ea, es, ec⟩ := m
  unfold Md.val
  simp only at *
  go_enter Try.func19, Try.ntmps19
  go_wp2_with fail
  obtain ⟨W0, hW0⟩ : ∃ W0, w.alloc (.cells #[.int .i64 ver, .slice pa ps.length pc, .slice la ls.length lc, .slice ea es.length ec] 26) = W0 := ⟨_, rfl⟩
  have hk0 : Kept Nil w W0 := by rw [← hW0]; exact (Kept.refl Nil w).alloc _
  have hp2 : W0.cell? ⟨w.heap.size, 2, none⟩ = some (.slice la ls.length lc) := by rw [← hW0]; simp
  have HK0 := Lib.hid hk0
  have HP2 := Lib.hid hp2
  rw [hW0]
  clear hW0 hk0 hp2
  go_loopw [5] (fun i wr => ∃ k : Nat, k ≤ ls.length ∧ i = .int .i64 k ∧ (∀ (j : Nat) (v : Lk), j < k → ls[j]? = some v → v.name.toList ≠ s.toList) ∧ Kept Nil W0 wr) (fun i _ => ls.length - (intOf i).toNat)
  case atStart => exact ⟨0, Nat.zero_le _, rfl, fun j v h => by omega, Kept.refl _ _⟩
  case round =>
    obtain ⟨k, hk, rfl, hne, hK⟩ := hrel
    have HNE := Lib.hid hne
    have HK := Lib.hid (HK0.out.step hK)
    have HK2 := Lib.hid hK
    have p2 := hK.cell HP2.out (fun h => h)
    clear hne hK
    by_cases hlt : k < ls.length
    · obtain ⟨v, ev⟩ : ∃ v, ls[k]? = some v := ⟨_, List.getElem?_eq_getElem hlt⟩
      obtain ⟨b, off, e1, c0, c1, c2, c3, c4⟩ := ((HR.out.nil HK.out).l).at ev
      simp only at e1
      subst e1
      have HEV := Lib.hid ev
      clear ev
      by_cases hn : v.name.toList = s.toList
      · have hb : (v.name.toList == s.toList) = true := by simp [hn]
        have HV := Lib.hid (findM_some HNE.out HEV.out hn)
        clear hn
        go_wp2_with fail
        go_ret
        exact ⟨by rw [HV.out]; rfl, HK.out⟩
      · have hb : (v.name.toList == s.toList) = false := by simp [hn]
        have HN := Lib.hid hn
        clear hn
        go_wp2_with fail
        go_round
        case measure => (simp [intOf] <;> omega)
        refine ⟨k + 1, by omega, by go_num, fun j u hj hu => ?_, HK2.out⟩
        by_cases e : j = k
        · subst e
          rw [HEV.out] at hu; cases hu
          exact HN.out
        · exact HNE.out j u (by omega) hu
    · obtain rfl : k = ls.length := by omega
      have HV := Lib.hid (findM_none (f := Lk.name) HNE.out)
      go_wp2_with fail
      go_ret
      exact ⟨by rw [HV.out]; rfl, HK.out⟩
end Go.Proofs.Ytehecolejeonaaa.Mo
