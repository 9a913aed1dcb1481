/- The walks of sandtablelaw26.sample and alive. -/
import Derived.Test.YtnohhpinigkccaaWrites2
namespace Go.Proofs.Ytnohhpinigkccaa.Mo
open Go Go.RowKit Go.Maps Go.Shelf Go.Proofs.Ytnohhpinigkccaa.Lb
set_option linter.unusedVariables false
set_option linter.unusedSimpArgs false

def sx : ByteArray := ⟨#[120]⟩
def smp (b1 b2 : Nat) : Pr := ⟨⟨#[97]⟩, 0, some ⟨b1, 0, none⟩, [⟨⟨#[120]⟩, 9⟩], 1, some ⟨b2, 0, none⟩, [⟨1, ⟨#[120]⟩, 2, 0, ⟨#[]⟩⟩, ⟨2, ⟨#[120]⟩, 0, 1, ⟨#[]⟩⟩, ⟨4, ⟨#[108]⟩, 1, 0, ⟨#[120]⟩⟩], 3⟩
set_option maxHeartbeats 2000000 in
theorem sample_is (w : World) : Calls Try.prog 20 #[] w fun e w' => ∃ b1 b2, e = .returned (smp b1 b2).val ∧ RProc w' (smp b1 b2) ∧ Kept Nil w w' := by
  go_enter Try.func20, Try.ntmps20
  go_wp2
  refine bodyPost_ret (v := (smp (w.heap.size + 1) (w.heap.size + 1 + 1)).val) (by simp [results, Try.results20, go_sem, smp, Pr.val]) rfl ?_
  have hv := heap_new (w.alloc (.cells #[.string ⟨#[97]⟩, .int .i64 0, .slice (some ⟨w.heap.size + 1, 0, none⟩) 1 1, .slice (some ⟨w.heap.size + 1 + 1, 0, none⟩) 3 3] 25)) (.cells #[.string ⟨#[120]⟩, .int .i64 9] 49)
  rw [World.size_alloc] at hv
  replace hv := (heap_old ((w.alloc (.cells #[.string ⟨#[97]⟩, .int .i64 0, .slice (some ⟨w.heap.size + 1, 0, none⟩) 1 1, .slice (some ⟨w.heap.size + 1 + 1, 0, none⟩) 3 3] 25)).alloc (.cells #[.string ⟨#[120]⟩, .int .i64 9] 49)) (.cells #[.int .i64 1, .string ⟨#[120]⟩, .int .i64 2, .int .i64 0, .string ⟨#[]⟩, .int .i64 2, .string ⟨#[120]⟩, .int .i64 0, .int .i64 1, .string ⟨#[]⟩, .int .i64 4, .string ⟨#[108]⟩, .int .i64 1, .int .i64 0, .string ⟨#[120]⟩] 47) (by simp)).trans hv
  have hs2 := heap_new ((w.alloc (.cells #[.string ⟨#[97]⟩, .int .i64 0, .slice (some ⟨w.heap.size + 1, 0, none⟩) 1 1, .slice (some ⟨w.heap.size + 1 + 1, 0, none⟩) 3 3] 25)).alloc (.cells #[.string ⟨#[120]⟩, .int .i64 9] 49)) (.cells #[.int .i64 1, .string ⟨#[120]⟩, .int .i64 2, .int .i64 0, .string ⟨#[]⟩, .int .i64 2, .string ⟨#[120]⟩, .int .i64 0, .int .i64 1, .string ⟨#[]⟩, .int .i64 4, .string ⟨#[108]⟩, .int .i64 1, .int .i64 0, .string ⟨#[120]⟩] 47)
  rw [World.size_alloc, World.size_alloc] at hs2
  refine ⟨w.heap.size + 1, w.heap.size + 1 + 1, rfl, ⟨.inr ⟨_, _, rfl, fun j v hj => ?_⟩, .inr ⟨_, _, rfl, fun j s hj => ?_⟩, by simp [smp, maxLen], by simp [smp, maxLen], fun s hs => ?_⟩, (((Kept.refl Nil w).alloc _).alloc _).alloc _⟩
  · match j with
    | 0 => simp [smp] at hj; subst hj; exact ⟨by rw [cell_of hv]; rfl, by rw [cell_of hv]; rfl⟩
    | j + 1 => simp [smp] at hj
  · match j with
    | 0 => simp [smp] at hj; subst hj; exact ⟨by rw [cell_of hs2]; rfl, by rw [cell_of hs2]; rfl, by rw [cell_of hs2]; rfl, by rw [cell_of hs2]; rfl, by rw [cell_of hs2]; rfl⟩
    | 1 => simp [smp] at hj; subst hj; exact ⟨by rw [cell_of hs2]; rfl, by rw [cell_of hs2]; rfl, by rw [cell_of hs2]; rfl, by rw [cell_of hs2]; rfl, by rw [cell_of hs2]; rfl⟩
    | 2 => simp [smp] at hj; subst hj; exact ⟨by rw [cell_of hs2]; rfl, by rw [cell_of hs2]; rfl, by rw [cell_of hs2]; rfl, by rw [cell_of hs2]; rfl, by rw [cell_of hs2]; rfl⟩
    | j + 3 => simp [smp] at hj
  · simp [smp] at hs
    rcases hs with rfl | rfl | rfl <;> exact ⟨by decide, by decide⟩
theorem run1 (b1 b2 : Nat) : runP (smp b1 b2) [9] 4 = (0, [5], [(⟨#[108]⟩, 5)]) := by
  simp [runP, smp, runFrom, stepP, argV, varIx, ix?, ixFrom, ixOf, rightB, Sc.fits]
theorem run2 (b1 b2 : Nat) : runP (smp b1 b2) [] 4 = (1, [], []) := by
  simp [runP, smp]
theorem run3 (b1 b2 : Nat) : runP (smp b1 b2) [9] 9223372036854775807 = (30, [], []) := by
  simp [runP, smp, runFrom, stepP, argV, varIx, ix?, ixFrom, ixOf, rightB, Sc.fits]
theorem wr1 (b1 b2 : Nat) : (dist (wNames (smp b1 b2).ss)).take (9 : Int).toNat = [⟨#[120]⟩] := by
  simp [wNames, smp, wrote, dist, dstep, ky]
theorem sends_of_own {w : World} {base n : Nat} {v : Value} {l : List Se} (h : w.ownsRow base 54 2 v n (l.flatMap sc)) : n = l.length ∧ ∃ A cap, v = .slice A l.length cap ∧ (l = [] ∨ ∃ b, A = some ⟨b, 0, none⟩ ∧ base ≤ b ∧ b < w.heap.size ∧ v.ownBlock = some b ∧ ∀ (j : Nat) (e : Se), l[j]? = some e → w.cell? ⟨b, j * 2, none⟩ = some (.string e.1) ∧ w.cell? ⟨b, j * 2 + 1, none⟩ = some (.int .i64 e.2)) := by
  have hl := h.1
  rw [flat_len (f := sc) (sz := 2) sc_len] at hl
  have hn : n = l.length := by omega
  subst hn
  refine ⟨rfl, ?_⟩
  rcases own_form h with ⟨h1, h2, h3⟩ | ⟨g, cap, h1, h2, h3, h4, h5⟩
  · exact ⟨none, 0, by rw [h1, h2], .inl (List.eq_nil_of_length_eq_zero h2)⟩
  · subst h1
    refine ⟨some ⟨g, 0, none⟩, cap, rfl, .inr ⟨g, rfl, h2, h3, rfl, fun j e hj => ?_⟩⟩
    exact ⟨own_cell h (flat_get (f := sc) (sz := 2) sc_len hj (c := 0) (by omega)), own_cell h (flat_get (f := sc) (sz := 2) sc_len hj (c := 1) (by omega))⟩
set_option maxRecDepth 8000 in
set_option maxHeartbeats 4000000 in
theorem alive_is (w : World) : Calls Try.prog 7 #[] w fun e w' => e = .returned (.bool true) ∧ Kept Nil w w' := by
  go_enter Try.func7, Try.ntmps7
  go_wp2_with fail
  refine (sample_is w).mono ?_
  rintro e w1 ⟨b1, b2, rfl, hp1, hk1⟩
  have HP1 := Lib.hid hp1
  have HK1 := Lib.hid hk1
  clear hp1 hk1
  go_wp2_with fail
  refine (Run_is (smp b1 b2) (some ⟨w1.heap.size, 0, none⟩) 1 [9] 4 _ (HP1.out.nil ((Kept.refl Nil w1).alloc _)) (.inr ⟨_, _, rfl, fun j hj => by match j with | 0 => simp | j + 1 => simp at hj⟩) (by simp [Sc.I64]) (by simp [Sc.I64]) (by simp) (by simp [smp])).mono ?_
  rintro e w2 ⟨u2, v2, rfl, hr2, hk2⟩
  rw [run1] at hr2 ⊢
  obtain ⟨hu2, hv2⟩ := hr2
  obtain ⟨-, A2, c2, rfl, hA2, -⟩ := longs_of_own (l := [5]) hu2
  obtain ⟨-, B2, d2, rfl, hB2⟩ := sends_of_own (l := [(⟨#[108]⟩, 5)]) hv2
  obtain ⟨x2, y2, rfl, ca⟩ := reads_at hA2 (k := 0) (z := 5) rfl
  rcases hB2 with hB2 | ⟨z2, rfl, -, -, -, hB2⟩
  · cases hB2
  obtain ⟨cb, cc⟩ := hB2 0 _ rfl
  have HK2 := Lib.hid ((HK1.out.alloc (.cells #[.int .i64 9] 2)).step hk2)
  have CA := Lib.hid ca
  have CB := Lib.hid cb
  have CC := Lib.hid cc
  clear hu2 hv2 hA2 hB2 hk2 ca cb cc
  go_wp2_with fail
  refine (sample_is w2).mono ?_
  rintro e w3 ⟨b3, b4, rfl, hp3, hk3⟩
  have HP3 := Lib.hid hp3
  have HK3 := Lib.hid hk3
  clear hp3 hk3
  go_wp2_with fail
  refine (Run_is (smp b3 b4) none 0 [] 4 _ HP3.out (.inl rfl) (by simp) (by simp [Sc.I64]) (by simp) (by simp [smp])).mono ?_
  rintro e w4 ⟨u4, v4, rfl, hr4, hk4⟩
  rw [run2]
  have HK4 := Lib.hid (HK3.out.step hk4)
  clear hr4 hk4
  go_wp2_with fail
  refine (sample_is w4).mono ?_
  rintro e w5 ⟨b5, b6, rfl, hp5, hk5⟩
  have HP5 := Lib.hid hp5
  have HK5 := Lib.hid hk5
  clear hp5 hk5
  go_wp2_with fail
  refine (Run_is (smp b5 b6) (some ⟨w5.heap.size, 0, none⟩) 1 [9] 9223372036854775807 _ (HP5.out.nil ((Kept.refl Nil w5).alloc _)) (.inr ⟨_, _, rfl, fun j hj => by match j with | 0 => simp | j + 1 => simp at hj⟩) (by simp [Sc.I64]) (by simp [Sc.I64]) (by simp) (by simp [smp])).mono ?_
  rintro e w6 ⟨u6, v6, rfl, hr6, hk6⟩
  rw [run3]
  have HK6 := Lib.hid ((HK4.out.step HK5.out).step (((Kept.refl Nil w5).alloc (.cells #[.int .i64 9] 2)).step hk6))
  clear hr6 hk6
  go_wp2_with fail
  refine (sample_is w6).mono ?_
  rintro e w7 ⟨b7, b8, rfl, hp7, hk7⟩
  have HP7 := Lib.hid hp7
  have HK7 := Lib.hid hk7
  clear hp7 hk7
  go_wp2_with fail
  refine (Start_is (smp b7 b8) _ HP7.out (by simp [smp])).mono ?_
  rintro e w8 ⟨v8, rfl, h8, hk8⟩
  have h8' : w8.ownsRow w7.heap.size 2 1 v8 1 (([9] : List Int).map (Value.int .i64)) := by simpa [smp] using h8
  obtain ⟨-, A8, c8, rfl, hA8, -⟩ := longs_of_own (l := [9]) h8'
  obtain ⟨x8, y8, rfl, ce⟩ := reads_at hA8 (k := 0) (z := 9) rfl
  have HK8 := Lib.hid ((HK6.out.step HK7.out).step hk8)
  have da : w8.cell? ⟨x2, y2, none⟩ = some (.int .i64 5) := HK8.out.cell CA.out (fun h => h)
  have db : w8.cell? ⟨z2, 0, none⟩ = some (.string ⟨#[108]⟩) := HK8.out.cell CB.out (fun h => h)
  have dc : w8.cell? ⟨z2, 1, none⟩ = some (.int .i64 5) := HK8.out.cell CC.out (fun h => h)
  replace ce : w8.cell? ⟨x8, y8, none⟩ = some (.int .i64 9) := ce
  clear h8 h8' hA8 hk8
  go_wp2_with fail
  refine (sample_is w8).mono ?_
  rintro e w9 ⟨b9, b10, rfl, hp9, hk9⟩
  have HP9 := Lib.hid hp9
  have HK9 := Lib.hid hk9
  clear hp9 hk9
  go_wp2_with fail
  refine (writes_is (smp b9 b10) 9 _ HP9.out (by simp [smp]) (by simp [smp, maxLen]; exact ⟨by decide, by decide⟩)).mono ?_
  rintro e w10 ⟨v10, rfl, h10, hk10⟩
  rw [wr1] at h10
  obtain ⟨A10, c10, rfl⟩ := own_slice h10
  have HKF := Lib.hid ((((HK2.out.step HK8.out).step HK9.out).step hk10))
  clear h10 hk10
  go_wp2_with fail
  go_ret
  exact ⟨rfl, HKF.out⟩
end Go.Proofs.Ytnohhpinigkccaa.Mo
