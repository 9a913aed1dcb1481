/- The walks of package heap at the element type int, fourth part: Push. Conditions: 'less' answers an order and turns nothing. -/
import Derived.Test.YtfkhnhpphcpmmaaHpInt3
import Derived.Outline
import Derived.Deep.RegionLaw
namespace Go.Proofs.Ytfkhnhpphcpmmaa.HpInt
open Go Go.RowKit Go.Proofs.Ytfkhnhpphcpmmaa.Lb Go.Proofs.Ytfkhnhpphcpmmaa.HpPure
set_option linter.unusedVariables false
set_option linter.unusedSimpArgs false

theorem push_mid {w w3 : World} {base h lf g' cap' : Nat} {lcap : Array Value} {v : Value} {xs : List (It × Int)} {seq : Int} (H : IsHeap w base h lf lcap v xs seq) (kk : Kept (fun k => v.ownBlock = some k) w w3) (a0 : Int)
    (hown : w3.ownsRow base 73 2 (.slice (some ⟨g', 0, none⟩) (xs.length + 1) cap') (xs.length + 1) (xs.flatMap pc ++ [.int .i64 a0, .int .u64 seq])) (hat : v.ownBlock = some g' ∨ g' = w.heap.size + 1) (hlt : xs.length < 4294967296) :
    IsHeap ((w3.setCell ⟨h, 1, none⟩ (.slice (some ⟨g', 0, none⟩) (xs.length + 1) cap')).setCell ⟨h, 2, none⟩ (.int .u64 (seq + 1))) base h lf lcap (.slice (some ⟨g', 0, none⟩) (xs.length + 1) cap') (xs ++ [(⟨a0⟩, seq)]) (seq + 1) ∧
    Kept (Own h v) w ((w3.setCell ⟨h, 1, none⟩ (.slice (some ⟨g', 0, none⟩) (xs.length + 1) cap')).setCell ⟨h, 2, none⟩ (.int .u64 (seq + 1))) := by
  have hhl := (Array.getElem?_eq_some_iff.1 H.hd).1
  have hg : g' ≠ h := by
    rcases hat with e | e
    · intro e2; rw [e2] at e; exact H.ne e
    · omega
  have h3 := kk.heap H.hd H.ne
  have h4 := heap_set (heap_set h3 1 (.slice (some ⟨g', 0, none⟩) (xs.length + 1) cap')) 2 (.int .u64 (seq + 1))
  refine ⟨⟨H.hb, h4, ?_, by simp [Value.ownBlock, hg], by simp; omega⟩, ?_⟩
  · have k : Kept (fun k => k = h) w3 ((w3.setCell ⟨h, 1, none⟩ (.slice (some ⟨g', 0, none⟩) (xs.length + 1) cap')).setCell ⟨h, 2, none⟩ (.int .u64 (seq + 1))) := ((Kept.refl (fun k => k = h) w3).setCell (p := ⟨h, 1, none⟩) (.inl rfl) _).setCell (p := ⟨h, 2, none⟩) (.inl rfl) _
    have := k.own hown (fun i hi => by simp [Value.ownBlock] at hi; omega)
    simpa [pc, It.cells] using this
  · have k1 : Kept (Own h v) w w3 := kk.mono (fun i _ hi => .inr hi)
    exact (k1.setCell (p := ⟨h, 1, none⟩) (.inl (.inl rfl)) _).setCell (p := ⟨h, 2, none⟩) (.inl (.inl rfl)) _

set_option maxHeartbeats 2000000 in
theorem Push_is {lt : It → It → Bool} {Inv : World → Prop} {w : World} {base h lf : Nat} {lcap : Array Value} {v : Value} {xs : List (It × Int)} {seq : Int} (L : Less lt lf lcap base Inv) (H : IsHeap w base h lf lcap v xs seq) (hI : Inv w) (a0 : Int) (hlt : xs.length < 4294967296) (hs0 : 0 ≤ seq) (hs1 : seq < 9223372036854775807) :
    Calls Try.prog 29 #[.pointer (some ⟨h, 0, none⟩), .int .i64 a0] w fun e w' => ∃ v', e = .returned (.tuple #[]) ∧ IsHeap w' base h lf lcap v' (push lt xs ⟨a0⟩ seq) (seq + 1) ∧ Kept (Own h v) w w' ∧ (v'.ownBlock = v.ownBlock ∨ ∃ k, v'.ownBlock = some k ∧ w.heap.size ≤ k) := by
  obtain ⟨i0, hi, hz0, hz1, hz2⟩ := info_parts info
  obtain ⟨c0, c1, c2, cf, hh⟩ := H.cells
  have hown := H.own
  have hne := H.ne
  have HH := Lib.hid H
  have LL := Lib.hid L
  have hbh := H.hb
  have HC := Lib.hid (show ∀ u ∈ ([.int .i64 a0, .int .u64 seq] : List Value), u.oneCell' = true by simp [Value.oneCell'])
  have HM := Lib.hid (show xs.length + 1 ≤ maxLen by unfold maxLen; omega)
  have HB := Lib.hid (show (xs.length + 1) * 16 ≤ 140737488355328 by omega)
  have HS := Lib.hid (show base ≤ ((w.alloc (.cells #[.int .i64 a0, .int .u64 seq] 73)).drew).heap.size by simp; omega)
  clear H L
  go_enter Try.func29, Try.ntmps29
  go_wp2_with fail
  go_region_law (refine step_append_lies _ rfl (.tmp 8) (.tmp 15) 69 rfl base 73 i0 (.agg #[.int .i64 0, .int .u64 0]) 2 16 Try.underlying69 hi hz0 hz1 hz2 rfl (by decide) v xs.length (xs.flatMap pc) (by simp [Act.eval, Act.put]) (own_drew (hown.alloc _)) ⟨w.heap.size, 0, none⟩ 1 1 [.int .i64 a0, .int .u64 seq] (by simp [Act.eval, Act.put]) rfl (cells_new1 _ _ _) HC.out (by decide) HM.out HB.out HS.out (w.heap.size + 1) (by simp) ?_; intro g' cap' w3 hown' hgrow hat hlt'; have kk : Kept (fun k => v.ownBlock = some k) w w3 := ((Kept.refl _ w).alloc _).drew.grown hgrow (fun k e => .inl e); have k0 := kk.cell c0 hne; have k1 := kk.cell c1 hne; have k2 := kk.cell c2 hne; have f1 := kk.frozen hh (cf 1) hne; have f2 := kk.frozen hh (cf 2) hne)
  all_goals
    have hp := push_mid HH.out kk a0 hown' hat hlt
    have HP := Lib.hid hp
    have HK := Lib.hid kk
    have HAT := Lib.hid hat
    clear hp kk hat hgrow hown'
    go_wp2_with fail
    refine (up_is LL.out HP.out.1 (LL.out.stable _ _ hI (own_sub HP.out.2 HH.out.own_base)) xs.length (by simp)).mono ?_
    rintro e w5 ⟨rfl, H5, hk5⟩
    go_wp2
    go_end0
    refine ⟨_, rfl, H5, HP.out.2.trans hk5 ?_, ?_⟩
    · intro k hk
      rcases hk with rfl | hk
      · exact .inl (.inl rfl)
      · rcases HAT.out with e | e
        · simp only [Value.ownBlock, Option.some.injEq] at hk
          subst hk; exact .inl (.inr e)
        · simp only [Value.ownBlock, Option.some.injEq] at hk
          subst hk; exact .inr (by omega)
    · rcases HAT.out with e | e
      · exact .inl e.symm
      · exact .inr ⟨g', rfl, by omega⟩

end Go.Proofs.Ytfkhnhpphcpmmaa.HpInt
