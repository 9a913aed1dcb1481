/- The walks of model.bare and model.Names; The walk of slices.Clone at Step; what is known of the types. -/
import Derived.Test.YtniocgnfgpaioaaGreatG18
import Derived.Test.YtniocgnfgpaioaaGreatG3
import Derived.Test.YtniocgnfgpaioaaGreatG4
set_option linter.unusedVariables false
set_option linter.unusedSimpArgs false
section
namespace Go.Proofs.YtniocgnfgpaioaaGreat.Mo
open Go Go.RowKit Go.Proofs.YtniocgnfgpaioaaGreat.Lb

def bareP (p : Pr) : Pr := ⟨p.name, 0, none, [], 0, none, [], 0⟩
def bareC (p : Pr) : List Value := [.string p.name, .int .i64 0, .slice none 0 0, .slice none 0 0]
theorem bareC_len (p : Pr) : (bareC p).length = 4 := rfl
theorem infoProc : (Tryz.prog.info? 34).map (fun i => (i.zero, i.size, i.bytes)) = some (some (.agg #[.string ⟨#[]⟩, .int .i64 0, .slice none 0 0, .slice none 0 0]), 4, 72) := by kernel_rfl
theorem bare_row {w : World} {base n : Nat} {v : Value} {ps : List Pr} (h : w.ownsRow base 34 4 v n (ps.flatMap bareC)) : ∃ A cap, v = .slice A ps.length cap ∧ RProcs w A (ps.map bareP) ∧ ∀ b off, A = some ⟨b, off, none⟩ → base ≤ b := by
 have hl := h.1
 rw [flat_len bareC_len] at hl
 have hn : n = ps.length := by omega
 subst hn
 rcases own_form h with ⟨h1, h2, h3⟩ | ⟨g, cap, h1, h2, h3, h4, h5⟩
 ·exact ⟨none, 0, by rw [h1, h2], .inl (by rw [List.eq_nil_of_length_eq_zero h2]; rfl), fun b off e => by cases e⟩
 ·subst h1
  refine ⟨some ⟨g, 0, none⟩, cap, rfl, .inr ⟨g, 0, rfl, fun j s hj => ?_⟩, fun b off e => by cases e; exact h2⟩
  rw [List.getElem?_map] at hj
  obtain ⟨p, hp, e⟩ := Option.map_eq_some_iff.1 hj
  subst e
  rw [Nat.zero_add]
  have h0 := own_cell (j := j * 4 + 0) h (by rw [flat_get bareC_len hp (by decide)]; rfl)
  have h1 := own_cell (j := j * 4 + 1) h (by rw [flat_get bareC_len hp (by decide)]; rfl)
  have h2 := own_cell (j := j * 4 + 2) h (by rw [flat_get bareC_len hp (by decide)]; rfl)
  have h3 := own_cell (j := j * 4 + 3) h (by rw [flat_get bareC_len hp (by decide)]; rfl)
  exact ⟨h0, h1, h2, h3⟩
set_option maxHeartbeats 4000000 in
theorem bare_is (ps : List Pr) (A : Option Addr) (cap : Nat) (w : World) (hr : RProcs w A ps) (hl : ps.length ≤ 100000) : Calls Tryz.prog 50 #[.slice A ps.length cap] w fun e w' => ∃ v, e = .returned v ∧ w'.ownsRow w.heap.size 34 4 v ps.length (ps.flatMap bareC) ∧ Kept Nil w w' := by
 obtain ⟨j0, hjnf, hy0, hy1, hy2⟩ := info_parts infoProc
 have HR := Lib.hid hr
 clear hr
 go_enter Tryz.func50, Tryz.ntmps50
 go_wp2_with fail
 go_loopw [3, 8] (fun r i wr => ∃ k : Nat, k ≤ ps.length ∧ i = .int .i64 k ∧ wr.ownsRow w.heap.size 34 4 r k ((ps.take k).flatMap bareC) ∧ Kept Nil w wr) (fun _ i _ => ps.length - (intOf i).toNat)
 case atStart => exact ⟨0, Nat.zero_le _, rfl, World.ownsRow_nil _ _ _ _, Kept.refl _ _⟩
 case round =>
  obtain ⟨k, hk, rfl, hO, hK⟩ := hrel
  have HO := Lib.hid hO
  have HK := Lib.hid hK
  have hzz := hK.size
  clear hO hK
  by_cases hlt : k < ps.length
  ·obtain ⟨p, ep⟩ : ∃ v, ps[k]? = some v := ⟨_, List.getElem?_eq_getElem hlt⟩
   obtain ⟨b, off, e1, c0, c1, c2, c3⟩ := (HR.out.nil HK.out).at ep
   subst e1
   have hbs : b < wr.heap.size := World.block_lt_of_cell? _ _ c0
   have HEP := Lib.hid ep
   clear ep
   go_wp2_with (at_builtin; refine stop_append _ _ _ rfl ?_)
   unfold StopA
   refine wpList_append_own _ rfl _ _ 22 rfl w.heap.size 34 j0 (.agg #[.string ⟨#[]⟩, .int .i64 0, .slice none 0 0, .slice none 0 0]) 4 72 Tryz.underlying22 hjnf hy0 hy1 hy2 rfl (by decide) _ _ _ rfl ((HO.out.alloc _).alloc _) ⟨wr.heap.size + 1, 0, none⟩ 1 1 [.string p.name, .int .i64 0, .slice none 0 0, .slice none 0 0] rfl rfl (by have h9 := cells_new (wr.alloc (.cells #[.string p.name, .int .i64 p.weight, .slice p.va p.vs.length p.vc, .slice p.sa p.ss.length p.sc] 34)) [.string p.name, .int .i64 0, .slice none 0 0, .slice none 0 0] 34; rw [World.size_alloc] at h9; exact h9) (by simp [Value.oneCell']) (by unfold maxLen; omega) (by omega) (by simp; omega) ?_
   intro r' w5 hown' hgrow _
   have HO5 := Lib.hid (show w5.ownsRow w.heap.size 34 4 r' (k + 1) ((ps.take (k + 1)).flatMap bareC) from by
    rw [List.take_add_one, HEP.out, Option.toList_some, List.flatMap_append]
    simpa [bareC] using hown')
   have HK5 := Lib.hid (((HK.out.alloc (.cells #[.string p.name, .int .i64 p.weight, .slice p.va p.vs.length p.vc, .slice p.sa p.ss.length p.sc] 34)).alloc (.cells #[.string p.name, .int .i64 0, .slice none 0 0, .slice none 0 0] 34)).grown hgrow (fun j e => .inr (HO.out.lt j e).1))
   clear hown' hgrow
   go_wp2_with fail
   go_round
   case measure => (simp [intOf] <;> omega)
   exact ⟨k + 1, by omega, by go_num, HO5.out, HK5.out⟩
  ·obtain rfl : k = ps.length := by omega
   rw [List.take_length] at HO
   go_wp2_with fail
   go_ret
   exact ⟨_, rfl, HO.out, HK.out⟩
theorem NamesM_is (m : Md) (w : World) : Calls Tryz.prog 49 #[m.val] w fun e w' => e = .returned (.func (.func 83) #[] #[.pointer (some ⟨w.heap.size, 0, none⟩)]) ∧ w' = w.alloc (.cells #[.int .i64 m.version, .slice m.pa m.ps.length m.pc, .slice m.la m.ls.length m.lc, .slice m.ea m.es.length m.ec] 26) := by
 obtain ⟨ver, pa, ps, pc, la, ls, lc, ea, es, ec⟩ := m
 unfold Md.val
 go_enter Tryz.func49, Tryz.ntmps49
 go_wp2
 go_ret
 exact ⟨rfl, rfl⟩
end Go.Proofs.YtniocgnfgpaioaaGreat.Mo
end
section
namespace Go.Proofs.YtniocgnfgpaioaaGreat.Mo
open Go Go.RowKit Go.Proofs.YtniocgnfgpaioaaGreat.Lb
set_option maxRecDepth 8000
theorem infoCP : (Tryz.prog.info? 34).map (fun i => (i.zero, i.size, i.bytes)) = some (some (.agg #[.string ⟨#[]⟩, .int .i64 0, .slice none 0 0, .slice none 0 0]), 4, 72) := by kernel_rfl
theorem infoCL : (Tryz.prog.info? 42).map (fun i => (i.zero, i.size, i.bytes)) = some (some (.agg #[.string ⟨#[]⟩, .string ⟨#[]⟩, .string ⟨#[]⟩, .int .i64 0, .int .i64 0]), 5, 64) := by kernel_rfl
theorem infoCE : (Tryz.prog.info? 48).map (fun i => (i.zero, i.size, i.bytes)) = some (some (.agg #[.string ⟨#[]⟩, .int .i64 0, .int .i64 0]), 3, 32) := by kernel_rfl
theorem infoCV : (Tryz.prog.info? 40).map (fun i => (i.zero, i.size, i.bytes)) = some (some (.agg #[.string ⟨#[]⟩, .int .i64 0]), 2, 24) := by kernel_rfl
theorem infoCS : (Tryz.prog.info? 38).map (fun i => (i.zero, i.size, i.bytes)) = some (some (.agg #[.int .i64 0, .string ⟨#[]⟩, .int .i64 0, .int .i64 0, .string ⟨#[]⟩]), 5, 56) := by kernel_rfl
set_option maxHeartbeats 2000000 in
theorem CloneS_is (l : List S) (A : Option Addr) (cap : Nat) (w : World) (hr : RowOf w A 5 stCells l) (hn : A = none → cap = 0) (hl : l.length ≤ 100000) :
  Calls Tryz.prog 34 #[.slice A l.length cap] w fun e w' => ∃ v, e = .returned v ∧ w'.ownsRow w.heap.size 38 5 v l.length (l.flatMap stCells) ∧ Kept Nil w w' := by
 obtain ⟨j0, hjnf, hy0, hy1, hy2⟩ := info_parts infoCS
 cases A with
 | none =>
  have h0 : l = [] := by rcases hr with h | ⟨b, off, h, _⟩; exact h; cases h
  have hc := hn rfl
  subst h0 hc
  simp only [List.length_nil]
  have hnil : ∀ w : World, (binOp .eql 32 (.slice none 0 0) (.slice none 0 0)).run Tryz.prog w = .ok (.bool true) w := fun _ => by kernel_rfl
  go_enter Tryz.func34, Tryz.ntmps34
  go_wp2_with fail
  go_ret
  exact ⟨_, rfl, World.ownsRow_nil _ _ _ _, Kept.refl _ _⟩
 | some a =>
  have HR := Lib.hid hr
  clear hr hn
  have hsome : ∀ (n c : Nat) (w : World), (binOp .eql 32 (.slice (some a) n c) (.slice none 0 0)).run Tryz.prog w = .ok (.bool false) w := fun _ _ _ => by kernel_rfl
  go_enter Tryz.func34, Tryz.ntmps34
  go_wp2_with (at_builtin; refine stop_append _ _ _ rfl ?_)
  unfold StopA
  refine wpList_append_src rfl _ _ 32 rfl w.heap.size 38 j0 (.agg #[.int .i64 0, .string ⟨#[]⟩, .int .i64 0, .int .i64 0, .string ⟨#[]⟩]) 5 56 Tryz.underlying32 hjnf hy0 hy1 hy2 rfl (by decide) (.slice (some ⟨w.heap.size, 0, none⟩) 0 0) 0 [] rfl (World.ownsRow_lit (base := w.heap.size) (e := 38) (size := 5) w #[] 0 (Nat.le_refl _) (by decide) rfl) (.slice (some a) l.length cap) l.length (l.flatMap stCells) rfl ((rowOf_nil stCells_len ((Kept.refl Nil w).alloc _) HR.out).src stCells_len (by decide) (fun h => by cases h)) (stCells_one l) (by unfold maxLen; omega) (by omega) (by simp) ?_
  intro v5 w5 hown5 hgrow5
  rw [Nat.zero_add, List.nil_append] at hown5
  have hk5 : Kept Nil w w5 := ((Kept.refl Nil w).alloc (.cells #[] 38)).grown hgrow5 (fun j e => .inr (by have h9 : w.heap.size = j := (by simpa [Value.ownBlock] using e); omega))
  obtain ⟨A5, c5, rfl⟩ := own_slice hown5
  have HO := Lib.hid hown5
  have HK := Lib.hid hk5
  clear hown5 hgrow5 hk5
  go_wp2_with fail
  go_ret
  exact ⟨_, rfl, HO.out, HK.out⟩
end Go.Proofs.YtniocgnfgpaioaaGreat.Mo
end
