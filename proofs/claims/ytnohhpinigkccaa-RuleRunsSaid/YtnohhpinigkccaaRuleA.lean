/- The walks of sandtablelaw26.few, rule.Start, sandtableref26.SameLongs. -/
import Derived.Test.YtnohhpinigkccaaFew
import Derived.Test.YtnohhpinigkccaaRun
namespace Go.Proofs.Ytnohhpinigkccaa.Mo
open Go Go.RowKit Go.Proofs.Ytnohhpinigkccaa.Lb
set_option linter.unusedVariables false
set_option linter.unusedSimpArgs false

structure FewOne (p : Pr) (w : World) (e : Ending) (w' : World) : Prop where
  ex : ∃ b, e = .returned (.bool b) ∧ (b = true → p.vs.length ≤ 70 ∧ p.ss.length ≤ 300) ∧ Kept Nil w w'
set_option maxHeartbeats 2000000 in
theorem few_is (p : Pr) (w : World) (hr : RProc w p) : Calls Try.prog 8 #[p.val] w fun e w' => FewOne p w e w' := by
  have HR := Lib.hid hr
  clear hr
  obtain ⟨pn, pw, va, vs, vc, sa, ss, pc_⟩ := p
  unfold Pr.val
  simp only
  have hk : Kept Nil w ((w.alloc (.cells #[.string pn, .int .i64 pw, .slice va vs.length vc, .slice sa ss.length pc_] 25)).alloc (.cells #[.string pn, .int .i64 pw, .slice va vs.length vc, .slice sa ss.length pc_] 25)) := ((Kept.refl Nil w).alloc _).alloc _
  have hm : RModel ((w.alloc (.cells #[.string pn, .int .i64 pw, .slice va vs.length vc, .slice sa ss.length pc_] 25)).alloc (.cells #[.string pn, .int .i64 pw, .slice va vs.length vc, .slice sa ss.length pc_] 25))
      ⟨0, some ⟨w.heap.size + 1, 0, none⟩, [⟨pn, pw, va, vs, vc, sa, ss, pc_⟩], 1, none, [], 0, none, [], 0⟩ := by
    refine ⟨.inr ⟨_, _, rfl, fun j q hj => ?_⟩, fun q hq => ?_, .inl rfl, .inl rfl, by simp [maxLen], by simp [maxLen], by simp [maxLen]⟩
    · cases j with
      | zero =>
        simp at hj
        subst hj
        simp
      | succ j => simp at hj
    · simp at hq
      subst hq
      exact HR.out.nil hk
  have HK := Lib.hid hk
  have HMo := Lib.hid hm
  clear hk hm
  go_enter Try.func8, Try.ntmps8
  go_wp2_with fail
  refine (Few_is _ _ HMo.out).mono ?_
  rintro e w2 ⟨b, rfl, hb, hk2⟩
  have HB := Lib.hid hb
  have HK2 := Lib.hid (HK.out.step hk2)
  clear hb hk2
  go_wp2_with fail
  go_ret
  exact ⟨⟨b, rfl, fun h => (HB.out h).vs _ (List.mem_cons_self ..), HK2.out⟩⟩
set_option maxHeartbeats 2000000 in
theorem Start_is (p : Pr) (w : World) (hr : RProc w p) (hl : p.vs.length ≤ 100000) : Calls Try.prog 14 #[p.val] w fun e w' => ∃ v, e = .returned v ∧ w'.ownsRow w.heap.size 2 1 v p.vs.length ((p.vs.map V.init).map (Value.int .i64)) ∧ Kept Nil w w' := by
  obtain ⟨j0, hjnf, hy0, hy1, hy2⟩ := info_parts infoI64
  have HR := Lib.hid hr
  clear hr
  obtain ⟨pn, pw, va, vs, vc, sa, ss, pc_⟩ := p
  unfold Pr.val
  simp only at *
  have hk0 : Kept Nil w (w.alloc (.cells #[.string pn, .int .i64 pw, .slice va vs.length vc, .slice sa ss.length pc_] 25)) := (Kept.refl Nil w).alloc _
  have HK0 := Lib.hid hk0
  clear hk0
  go_enter Try.func14, Try.ntmps14
  go_wp2_with fail
  go_loopw [3, 9] (fun r i wr => ∃ k : Nat, k ≤ vs.length ∧ i = .int .i64 k ∧ wr.ownsRow w.heap.size 2 1 r k (((vs.take k).map V.init).map (Value.int .i64)) ∧ Kept Nil w wr) (fun _ i _ => vs.length - (intOf i).toNat)
  case atStart => exact ⟨0, Nat.zero_le _, rfl, World.ownsRow_nil _ _ _ _, HK0.out⟩
  case round =>
    obtain ⟨k, hk, rfl, hO, hK⟩ := hrel
    have HO := Lib.hid hO
    have HK := Lib.hid hK
    have hzz := hK.size
    clear hO hK
    by_cases hlt : k < vs.length
    · obtain ⟨v, ev⟩ : ∃ v, vs[k]? = some v := ⟨_, List.getElem?_eq_getElem hlt⟩
      obtain ⟨b, off, e1, c0, c1⟩ := (HR.out.nil HK.out).v.at ev
      simp only at e1
      subst e1
      have hbs : b < wr.heap.size := World.block_lt_of_cell? _ _ c0
      have HEV := Lib.hid ev
      clear ev
      go_wp2_with (at_builtin; refine stop_append _ _ _ rfl ?_)
      unfold StopA
      refine wpList_append_own _ rfl _ _ 26 rfl w.heap.size 2 j0 (.int .i64 0) 1 8 Try.underlying26 hjnf hy0 hy1 hy2 rfl (by decide) _ _ _ rfl ((HO.out.alloc _).alloc _) ⟨wr.heap.size + 1, 0, none⟩ 1 1 [.int .i64 v.init] rfl rfl (by have h9 := cells_new (wr.alloc (.cells #[.string v.name, .int .i64 v.init] 49)) [.int .i64 v.init] 2; rw [World.size_alloc] at h9; exact h9) (by simp [Value.oneCell']) (by unfold maxLen; omega) (by omega) (by simp; omega) ?_
      intro r' w5 hown' hgrow _
      have HO5 := Lib.hid (show w5.ownsRow w.heap.size 2 1 r' (k + 1) (((vs.take (k + 1)).map V.init).map (Value.int .i64)) from by
        rw [List.take_add_one, HEV.out, Option.toList_some]
        simpa using hown')
      have HK5 := Lib.hid (((HK.out.alloc (.cells #[.string v.name, .int .i64 v.init] 49)).alloc (.cells #[.int .i64 v.init] 2)).grown hgrow (fun j e => .inr (HO.out.lt j e).1))
      clear hown' hgrow
      go_wp2_with fail
      go_round
      case measure => (simp [intOf] <;> omega)
      exact ⟨k + 1, by omega, by go_num, HO5.out, HK5.out⟩
    · obtain rfl : k = vs.length := by omega
      rw [List.take_length] at HO
      go_wp2_with fail
      go_ret
      exact ⟨_, rfl, HO.out, HK.out⟩
/-- A row of numbers that a call owns. -/
theorem longs_of_own {w : World} {base n : Nat} {v : Value} {l : List Int} (h : w.ownsRow base 2 1 v n (l.map (Value.int .i64))) : n = l.length ∧ ∃ A cap, v = .slice A l.length cap ∧ Sc.Reads w .i64 A l ∧ (∀ b off, A = some ⟨b, off, none⟩ → base ≤ b ∧ b < w.heap.size ∧ v.ownBlock = some b) := by
  have hl := h.1
  rw [List.length_map, Nat.mul_one] at hl
  subst hl
  refine ⟨rfl, ?_⟩
  rcases own_form h with ⟨h1, h2, h3⟩ | ⟨g, cap, h1, h2, h3, h4, h5⟩
  · exact ⟨none, 0, by rw [h1, h2], .inl (List.eq_nil_of_length_eq_zero h2), fun _ _ e => by cases e⟩
  · subst h1
    refine ⟨some ⟨g, 0, none⟩, cap, rfl, .inr ⟨g, 0, rfl, fun j hj => ?_⟩, fun b off e => by cases e; exact ⟨h2, h3, rfl⟩⟩
    rw [Nat.zero_add, List.getElem?_eq_getElem hj]
    exact own_cell h (by rw [List.getElem?_map, List.getElem?_eq_getElem hj]; rfl)
theorem reads_at {w : World} {A : Option Addr} {zs : List Int} (h : Sc.Reads w .i64 A zs) {k : Nat} {z : Int} (hz : zs[k]? = some z) : ∃ b off, A = some ⟨b, off, none⟩ ∧ w.cell? ⟨b, off + k, none⟩ = some (.int .i64 z) := by
  rcases h with rfl | ⟨b, off, h, hc⟩
  · simp at hz
  · refine ⟨b, off, h, ?_⟩
    rw [hc k (List.getElem?_eq_some_iff.1 hz).1, hz]; rfl
theorem reads_kept {w w' : World} {S : Nat → Prop} {A : Option Addr} {zs : List Int} (h : Sc.Reads w .i64 A zs) (hk : Kept S w w') (hS : ∀ b off, A = some ⟨b, off, none⟩ → ¬ S b) : Sc.Reads w' .i64 A zs := by
  rcases h with h | ⟨b, off, h, hc⟩
  · exact .inl h
  · exact .inr ⟨b, off, h, fun j hj => hk.cell (hc j hj) (hS b off h)⟩
set_option maxHeartbeats 2000000 in
theorem SameLongs_is (xs : List Int) (A B : Option Addr) (capA capB : Nat) (w : World) (hr : Sc.Reads w .i64 A xs) (hr2 : Sc.Reads w .i64 B xs) (hn : xs.length ≤ 4294967296) :
    Calls Try.prog 12 #[.slice A xs.length capA, .slice B xs.length capB] w fun e w' => e = .returned (.bool true) ∧ Kept Nil w w' := by
  have HR := Lib.hid hr
  have HR2 := Lib.hid hr2
  clear hr hr2
  go_enter Try.func12, Try.ntmps12
  go_wp2
  go_loopw [5] (fun i wr => ∃ k : Nat, k ≤ xs.length ∧ i = .int .i64 k ∧ Kept Nil w wr) (fun i _ => xs.length - (intOf i).toNat)
  case atStart => exact ⟨0, Nat.zero_le _, rfl, Kept.refl _ _⟩
  case round =>
    obtain ⟨k, hk, rfl, hK⟩ := hrel
    have HK := Lib.hid hK
    clear hK
    by_cases hlt : k < xs.length
    · obtain ⟨z, ez⟩ : ∃ x, xs[k]? = some x := ⟨_, List.getElem?_eq_getElem hlt⟩
      obtain ⟨b, off, rfl, c0⟩ := reads_at (reads_kept HR.out HK.out (fun _ _ _ h => h)) ez
      obtain ⟨b2, off2, rfl, d0⟩ := reads_at (reads_kept HR2.out HK.out (fun _ _ _ h => h)) ez
      clear ez
      go_wp2_with fail
      go_big_quiet (fail)
      go_wp2_with fail
      go_round
      case rel => exact ⟨k + 1, by omega, by go_num, HK.out.drewN _⟩
      case measure => (simp [intOf] <;> omega)
    · obtain rfl : k = xs.length := by omega
      go_wp2
      go_ret
      exact ⟨rfl, HK.out⟩
end Go.Proofs.Ytnohhpinigkccaa.Mo
