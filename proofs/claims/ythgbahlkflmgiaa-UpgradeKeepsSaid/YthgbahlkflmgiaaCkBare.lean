/- The walks of model.bare and model.Names. -/
import Derived.Test.YthgbahlkflmgiaaCkSmall
namespace Go.Proofs.Ythgbahlkflmgiaa.Mo
open Go Go.RowKit Go.Proofs.Ythgbahlkflmgiaa.Lb
set_option linter.unusedVariables false
set_option linter.unusedSimpArgs false

def bareP (p : Pr) : Pr := ⟨p.name, 0, none, [], 0, none, [], 0⟩
def bareC (p : Pr) : List Value := [.string p.name, .int .i64 0, .slice none 0 0, .slice none 0 0]
theorem bareC_len (p : Pr) : (bareC p).length = 4 := rfl
theorem infoProc : (Try.prog.info? 52).map (fun i => (i.zero, i.size, i.bytes)) = some (some (.agg #[.string ⟨#[]⟩, .int .i64 0, .slice none 0 0, .slice none 0 0]), 4, 72) := by kernel_rfl
theorem bare_row {w : World} {base n : Nat} {v : Value} {ps : List Pr} (h : w.ownsRow base 52 4 v n (ps.flatMap bareC)) : ∃ A cap, v = .slice A ps.length cap ∧ RProcs w A (ps.map bareP) ∧ ∀ b off, A = some ⟨b, off, none⟩ → base ≤ b := by
  have hl := h.1
  rw [flat_len bareC_len] at hl
  have hn : n = ps.length := by omega
  subst hn
  rcases own_form h with ⟨h1, h2, h3⟩ | ⟨g, cap, h1, h2, h3, h4, h5⟩
  · exact ⟨none, 0, by rw [h1, h2], .inl (by rw [List.eq_nil_of_length_eq_zero h2]; rfl), fun b off e => by cases e⟩
  · subst h1
    refine ⟨some ⟨g, 0, none⟩, cap, rfl, .inr ⟨g, 0, rfl, fun j s hj => ?_⟩, fun b off e => by cases e; exact h2⟩
    rw [List.getElem?_map] at hj
    obtain ⟨p, hp, e⟩ := Option.map_eq_some_iff.1 hj
    subst e
    rw [Nat.zero_add]
    have h0 := own_cell (j := j * 4 + 0) h (by rw [flat_get bareC_len hp (by decide)]; rfl)
    have h1 := own_cell (j := j * 4 + 1) h (by rw [flat_get bareC_len hp (by decide)]; rfl)
    have h2 := own_cell (j := j * 4 + 2) h (by rw [flat_get bareC_len hp (by decide)]; rfl)
    have h3 := own_cell (j := j * 4 + 3) h (by rw [flat_get bareC_len hp (by decide)]; rfl)
    exact ⟨h0, h1, h2, h3⟩
set_option maxHeartbeats 4000000 in
theorem bare_is (ps : List Pr) (A : Option Addr) (cap : Nat) (w : World) (hr : RProcs w A ps) (hl : ps.length ≤ 100000) : Calls Try.prog 33 #[.slice A ps.length cap] w fun e w' => ∃ v, e = .returned v ∧ w'.ownsRow w.heap.size 52 4 v ps.length (ps.flatMap bareC) ∧ Kept Nil w w' := by
  obtain ⟨j0, hjnf, hy0, hy1, hy2⟩ := info_parts infoProc
  have HR := Lib.hid hr
  clear hr
  go_enter Try.func33, Try.ntmps33
  go_wp2_with fail
  go_loopw [3, 8] (fun r i wr => ∃ k : Nat, k ≤ ps.length ∧ i = .int .i64 k ∧ wr.ownsRow w.heap.size 52 4 r k ((ps.take k).flatMap bareC) ∧ Kept Nil w wr) (fun _ i _ => ps.length - (intOf i).toNat)
  case atStart => exact ⟨0, Nat.zero_le _, rfl, World.ownsRow_nil _ _ _ _, Kept.refl _ _⟩
  case round =>
    obtain ⟨k, hk, rfl, hO, hK⟩ := hrel
    have HO := Lib.hid hO
    have HK := Lib.hid hK
    have hzz := hK.size
    clear hO hK
    by_cases hlt : k < ps.length
    · obtain ⟨p, ep⟩ : ∃ v, ps[k]? = some v := ⟨_, List.getElem?_eq_getElem hlt⟩
      obtain ⟨b, off, e1, c0, c1, c2, c3⟩ := (HR.out.nil HK.out).at ep
      subst e1
      have hbs : b < wr.heap.size := World.block_lt_of_cell? _ _ c0
      have HEP := Lib.hid ep
      clear ep
      go_wp2_with (at_builtin; refine stop_append _ _ _ rfl ?_)
      unfold StopA
      refine wpList_append_own _ rfl _ _ 22 rfl w.heap.size 52 j0 (.agg #[.string ⟨#[]⟩, .int .i64 0, .slice none 0 0, .slice none 0 0]) 4 72 Try.underlying22 hjnf hy0 hy1 hy2 rfl (by decide) _ _ _ rfl ((HO.out.alloc _).alloc _) ⟨wr.heap.size + 1, 0, none⟩ 1 1 [.string p.name, .int .i64 0, .slice none 0 0, .slice none 0 0] rfl rfl (by have h9 := cells_new (wr.alloc (.cells #[.string p.name, .int .i64 p.weight, .slice p.va p.vs.length p.vc, .slice p.sa p.ss.length p.sc] 52)) [.string p.name, .int .i64 0, .slice none 0 0, .slice none 0 0] 52; rw [World.size_alloc] at h9; exact h9) (by simp [Value.oneCell']) (by unfold maxLen; omega) (by omega) (by simp; omega) ?_
      intro r' w5 hown' hgrow _
      have HO5 := Lib.hid (show w5.ownsRow w.heap.size 52 4 r' (k + 1) ((ps.take (k + 1)).flatMap bareC) from by
        rw [List.take_add_one, HEP.out, Option.toList_some, List.flatMap_append]
        simpa [bareC] using hown')
      have HK5 := Lib.hid (((HK.out.alloc (.cells #[.string p.name, .int .i64 p.weight, .slice p.va p.vs.length p.vc, .slice p.sa p.ss.length p.sc] 52)).alloc (.cells #[.string p.name, .int .i64 0, .slice none 0 0, .slice none 0 0] 52)).grown hgrow (fun j e => .inr (HO.out.lt j e).1))
      clear hown' hgrow
      go_wp2_with fail
      go_round
      case measure => (simp [intOf] <;> omega)
      exact ⟨k + 1, by omega, by go_num, HO5.out, HK5.out⟩
    · obtain rfl : k = ps.length := by omega
      rw [List.take_length] at HO
      go_wp2_with fail
      go_ret
      exact ⟨_, rfl, HO.out, HK.out⟩
theorem NamesM_is (m : Md) (w : World) : Calls Try.prog 32 #[m.val] w fun e w' => e = .returned (.func (.func 52) #[] #[.pointer (some ⟨w.heap.size, 0, none⟩)]) ∧ w' = w.alloc (.cells #[.int .i64 m.version, .slice m.pa m.ps.length m.pc, .slice m.la m.ls.length m.lc, .slice m.ea m.es.length m.ec] 26) := by
  obtain ⟨ver, pa, ps, pc, la, ls, lc, ea, es, ec⟩ := m
  unfold Md.val
  go_enter Try.func32, Try.ntmps32
  go_wp2
  go_ret
  exact ⟨rfl, rfl⟩
end Go.Proofs.Ythgbahlkflmgiaa.Mo
