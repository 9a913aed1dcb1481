/- The walks of model.Proc, model.Link and of the reference's. -/
import Derived.Test.YthgbahlkflmgiaaModels
import Derived.Test.YthgbahlkflmgiaaBasics
import Derived.Test.YthgbahlkflmgiaaCheckP
namespace Go.Proofs.Ythgbahlkflmgiaa.Mo
open Go Go.RowKit Go.Proofs.Ythgbahlkflmgiaa.Lb
set_option linter.unusedVariables false
set_option linter.unusedSimpArgs false

theorem findM_some {α : Type} {f : α → ByteArray} {xs : List α} {s : ByteArray} {k : Nat} {x : α} (h : ∀ (j : Nat) (x : α), j < k → xs[j]? = some x → (f x).toList ≠ s.toList) (hk : xs[k]? = some x) (e : (f x).toList = s.toList) : findI (xs.map f) s = k :=
  findI_some (t := f x) (fun j t hj ht => by
    rw [List.getElem?_map] at ht
    obtain ⟨v, hv, e⟩ := Option.map_eq_some_iff.1 ht
    subst e
    exact h j v hj hv) (by rw [List.getElem?_map, hk]; rfl) e
theorem findM_none {α : Type} {f : α → ByteArray} {xs : List α} {s : ByteArray} (h : ∀ (j : Nat) (x : α), j < xs.length → xs[j]? = some x → (f x).toList ≠ s.toList) : findI (xs.map f) s = -1 :=
  findI_none (fun j t hj ht => by
    rw [List.getElem?_map] at ht
    obtain ⟨v, hv, e⟩ := Option.map_eq_some_iff.1 ht
    subst e
    exact h j v (by simpa using hj) hv)
def Pr.cs (p : Pr) : Value := .agg #[.string p.name, .int .i64 p.weight, .slice p.va p.vs.length p.vc, .slice p.sa p.ss.length p.sc]
def Lk.cs (l : Lk) : Value := .agg #[.string l.name, .string l.src, .string l.dst, .int .i64 l.delay, .int .i64 l.weight]
def Ev.cs (e : Ev) : Value := .agg #[.string e.to, .int .i64 e.at_, .int .i64 e.value]
theorem RProcs.nil {w w' : World} {A : Option Addr} {ps : List Pr} (h : RProcs w A ps) (hk : Kept Nil w w') : RProcs w' A ps := by
  rcases h with h | ⟨b, off, h, hc⟩
  · exact .inl h
  · exact .inr ⟨b, off, h, fun j p hj => by obtain ⟨h1, h2, h3, h4⟩ := hc j p hj; exact ⟨hk.cell h1 (fun h => h), hk.cell h2 (fun h => h), hk.cell h3 (fun h => h), hk.cell h4 (fun h => h)⟩⟩
theorem RLinks.nil {w w' : World} {A : Option Addr} {ps : List Lk} (h : RLinks w A ps) (hk : Kept Nil w w') : RLinks w' A ps := by
  rcases h with h | ⟨b, off, h, hc⟩
  · exact .inl h
  · exact .inr ⟨b, off, h, fun j p hj => by obtain ⟨h1, h2, h3, h4, h5⟩ := hc j p hj; exact ⟨hk.cell h1 (fun h => h), hk.cell h2 (fun h => h), hk.cell h3 (fun h => h), hk.cell h4 (fun h => h), hk.cell h5 (fun h => h)⟩⟩
theorem REvents.nil {w w' : World} {A : Option Addr} {ps : List Ev} (h : REvents w A ps) (hk : Kept Nil w w') : REvents w' A ps := by
  rcases h with h | ⟨b, off, h, hc⟩
  · exact .inl h
  · exact .inr ⟨b, off, h, fun j p hj => by obtain ⟨h1, h2, h3⟩ := hc j p hj; exact ⟨hk.cell h1 (fun h => h), hk.cell h2 (fun h => h), hk.cell h3 (fun h => h)⟩⟩
theorem REvents.at {w : World} {A : Option Addr} {es : List Ev} (h : REvents w A es) {k : Nat} {e : Ev} (hv : es[k]? = some e) :
    ∃ b off, A = some ⟨b, off, none⟩ ∧ w.cell? ⟨b, off + k * 3, none⟩ = some (.string e.to) ∧ w.cell? ⟨b, off + k * 3 + 1, none⟩ = some (.int .i64 e.at_) ∧ w.cell? ⟨b, off + k * 3 + 2, none⟩ = some (.int .i64 e.value) := by
  rcases h with rfl | ⟨b, off, h, hc⟩
  · simp at hv
  · exact ⟨b, off, h, hc k e hv⟩
set_option maxHeartbeats 2000000 in
theorem RefProc_is (m : Md) (s : ByteArray) (w : World) (hr : RModel w m) : Calls Try.prog 29 #[m.val, .string s] w fun e w' => e = .returned (.int .i64 (findI (m.ps.map Pr.name) s)) ∧ Kept Nil w w' := by
  have HR := Lib.hid hr
  have hvl := hr.pl
  unfold maxLen at hvl
  clear hr
  obtain ⟨ver, pa, ps, pc, la, ls, lc, ea, es, ec⟩ := m
  unfold Md.val
  simp only at *
  go_enter Try.func29, Try.ntmps29
  go_wp2_with fail
  obtain ⟨W0, hW0⟩ : ∃ W0, w.alloc (.cells #[.int .i64 ver, .slice pa ps.length pc, .slice la ls.length lc, .slice ea es.length ec] 26) = W0 := ⟨_, rfl⟩
  have hk0 : Kept Nil w W0 := by rw [← hW0]; exact (Kept.refl Nil w).alloc _
  have hp2 : W0.cell? ⟨w.heap.size, 1, none⟩ = some (.slice pa ps.length pc) := by rw [← hW0]; simp
  have HK0 := Lib.hid hk0
  have HP2 := Lib.hid hp2
  rw [hW0]
  clear hW0 hk0 hp2
  go_loopw [5] (fun i wr => ∃ k : Nat, k ≤ ps.length ∧ i = .int .i64 k ∧ (∀ (j : Nat) (v : Pr), j < k → ps[j]? = some v → v.name.toList ≠ s.toList) ∧ Kept Nil W0 wr) (fun i _ => ps.length - (intOf i).toNat)
  case atStart => exact ⟨0, Nat.zero_le _, rfl, fun j v h => by omega, Kept.refl _ _⟩
  case round =>
    obtain ⟨k, hk, rfl, hne, hK⟩ := hrel
    have HNE := Lib.hid hne
    have HK := Lib.hid (HK0.out.step hK)
    have HK2 := Lib.hid hK
    have p2 := hK.cell HP2.out (fun h => h)
    clear hne hK
    by_cases hlt : k < ps.length
    · obtain ⟨v, ev⟩ : ∃ v, ps[k]? = some v := ⟨_, List.getElem?_eq_getElem hlt⟩
      obtain ⟨b, off, e1, c0, c1, c2, c3⟩ := ((HR.out.nil HK.out).p).at ev
      simp only at e1
      subst e1
      have HEV := Lib.hid ev
      clear ev
      by_cases hn : v.name.toList = s.toList
      · have hb : (v.name.toList == s.toList) = true := by simp [hn]
        have HV := Lib.hid (findM_some HNE.out HEV.out hn)
        clear hn
        go_wp2_with fail
        go_ret
        exact ⟨by rw [HV.out]; rfl, HK.out⟩
      · have hb : (v.name.toList == s.toList) = false := by simp [hn]
        have HN := Lib.hid hn
        clear hn
        go_wp2_with fail
        go_round
        case measure => (simp [intOf] <;> omega)
        refine ⟨k + 1, by omega, by go_num, fun j u hj hu => ?_, HK2.out⟩
        by_cases e : j = k
        · subst e
          rw [HEV.out] at hu; cases hu
          exact HN.out
        · exact HNE.out j u (by omega) hu
    · obtain rfl : k = ps.length := by omega
      have HV := Lib.hid (findM_none (f := Pr.name) HNE.out)
      go_wp2_with fail
      go_ret
      exact ⟨by rw [HV.out]; rfl, HK.out⟩
set_option maxHeartbeats 2000000 in
theorem RefLink_is (m : Md) (s : ByteArray) (w : World) (hr : RModel w m) : Calls Try.prog 51 #[m.val, .string s] w fun e w' => e = .returned (.int .i64 (findI (m.ls.map Lk.name) s)) ∧ Kept Nil w w' := by
  have HR := Lib.hid hr
  have hvl := hr.ll
  unfold maxLen at hvl
  clear hr
  obtain ⟨ver, pa, ps, pc, la, ls, lc, ea, es, ec⟩ := m
  unfold Md.val
  simp only at *
  go_enter Try.func51, Try.ntmps51
  go_wp2_with fail
  obtain ⟨W0, hW0⟩ : ∃ W0, w.alloc (.cells #[.int .i64 ver, .slice pa ps.length pc, .slice la ls.length lc, .slice ea es.length ec] 26) = W0 := ⟨_, rfl⟩
  have hk0 : Kept Nil w W0 := by rw [← hW0]; exact (Kept.refl Nil w).alloc _
  have hp2 : W0.cell? ⟨w.heap.size, 2, none⟩ = some (.slice la ls.length lc) := by rw [← hW0]; simp
  have HK0 := Lib.hid hk0
  have HP2 := Lib.hid hp2
  rw [hW0]
  clear hW0 hk0 hp2
  go_loopw [5] (fun i wr => ∃ k : Nat, k ≤ ls.length ∧ i = .int .i64 k ∧ (∀ (j : Nat) (v : Lk), j < k → ls[j]? = some v → v.name.toList ≠ s.toList) ∧ Kept Nil W0 wr) (fun i _ => ls.length - (intOf i).toNat)
  case atStart => exact ⟨0, Nat.zero_le _, rfl, fun j v h => by omega, Kept.refl _ _⟩
  case round =>
    obtain ⟨k, hk, rfl, hne, hK⟩ := hrel
    have HNE := Lib.hid hne
    have HK := Lib.hid (HK0.out.step hK)
    have HK2 := Lib.hid hK
    have p2 := hK.cell HP2.out (fun h => h)
    clear hne hK
    by_cases hlt : k < ls.length
    · obtain ⟨v, ev⟩ : ∃ v, ls[k]? = some v := ⟨_, List.getElem?_eq_getElem hlt⟩
      obtain ⟨b, off, e1, c0, c1, c2, c3, c4⟩ := ((HR.out.nil HK.out).l).at ev
      simp only at e1
      subst e1
      have HEV := Lib.hid ev
      clear ev
      by_cases hn : v.name.toList = s.toList
      · have hb : (v.name.toList == s.toList) = true := by simp [hn]
        have HV := Lib.hid (findM_some HNE.out HEV.out hn)
        clear hn
        go_wp2_with fail
        go_ret
        exact ⟨by rw [HV.out]; rfl, HK.out⟩
      · have hb : (v.name.toList == s.toList) = false := by simp [hn]
        have HN := Lib.hid hn
        clear hn
        go_wp2_with fail
        go_round
        case measure => (simp [intOf] <;> omega)
        refine ⟨k + 1, by omega, by go_num, fun j u hj hu => ?_, HK2.out⟩
        by_cases e : j = k
        · subst e
          rw [HEV.out] at hu; cases hu
          exact HN.out
        · exact HNE.out j u (by omega) hu
    · obtain rfl : k = ls.length := by omega
      have HV := Lib.hid (findM_none (f := Lk.name) HNE.out)
      go_wp2_with fail
      go_ret
      exact ⟨by rw [HV.out]; rfl, HK.out⟩
end Go.Proofs.Ythgbahlkflmgiaa.Mo
