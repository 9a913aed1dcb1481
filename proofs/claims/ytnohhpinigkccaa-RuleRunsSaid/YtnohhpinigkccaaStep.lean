/- The walk of (*rule.machine).step. -/
import Derived.Test.YtnohhpinigkccaaMach
import Derived.Deep.RegionLawGrows
namespace Go.Proofs.Ytnohhpinigkccaa.Mo
open Go Go.RowKit Go.Proofs.Ytnohhpinigkccaa.Lb
set_option linter.unusedVariables false
set_option linter.unusedSimpArgs false

def stepP (vs : List V) (value : Int) (now : List Int) (sent : List Se) (s : S) : Option (List Int × List Se) :=
  if s.kind = 4 then some (now, sent ++ [(s.name, argV vs now value s)])
  else if s.kind = 2 then if Sc.fits ((now[(varIx vs s.name).toNat]?).getD 0 + argV vs now value s) = true then some (now.set (varIx vs s.name).toNat ((now[(varIx vs s.name).toNat]?).getD 0 + argV vs now value s), sent) else none
  else if s.kind = 3 then if Sc.fits ((now[(varIx vs s.name).toNat]?).getD 0 * argV vs now value s) = true then some (now.set (varIx vs s.name).toNat ((now[(varIx vs s.name).toNat]?).getD 0 * argV vs now value s), sent) else none
  else some (now.set (varIx vs s.name).toNat (argV vs now value s), sent)
theorem argV_i64 {vs : List V} {now : List Int} {value : Int} {s : S} (hv : Sc.I64 value) (hs : Sc.I64 s.an) (hn : ∀ z ∈ now, Sc.I64 z) : Sc.I64 (argV vs now value s) := by
  unfold argV
  split
  · cases h : now[(varIx vs s.as_).toNat]? with
    | none => exact ⟨by decide, by decide⟩
    | some z => exact hn z (List.mem_of_getElem? h)
  · split
    · exact hv
    · exact hs
theorem infoSend : (Try.prog.info? 54).map (fun i => (i.zero, i.size, i.bytes)) = some (some (.agg #[.string ⟨#[]⟩, .int .i64 0]), 2, 24) := by kernel_rfl
theorem right_parts {vs : List V} {s : S} (h : rightB vs s = true) : 1 ≤ s.kind ∧ s.kind ≤ 4 ∧ 0 ≤ s.ak ∧ s.ak ≤ 2 ∧ (s.kind = 4 ∨ 0 ≤ varIx vs s.name) ∧ (s.ak ≠ 1 ∨ 0 ≤ varIx vs s.as_) := of_decide_eq_true h
set_option maxHeartbeats 4000000 in
theorem step_is {W : World} {base m g c : Nat} {p : Pr} {value : Int} {now : List Int} {sv : Value} {sent : List Se} (M : Mach W base m g c p value now sv sent) (s : S) (hr : rightB p.vs s = true) (hn : sent.length ≤ 100000) (hsi : Sc.I64 s.an) :
    Calls Try.prog 23 #[.pointer (some ⟨m, 0, none⟩), s.val] W fun e w' => ∃ ok, e = .returned (.bool ok) ∧ Kept (OwnM m g sv) W w' ∧
      (ok = true → ∃ now' sv' sent', stepP p.vs value now sent s = some (now', sent') ∧ Mach w' base m g c p value now' sv' sent' ∧ ∀ i, OwnM m g sv' i → OwnM m g sv i ∨ W.heap.size ≤ i) ∧ (ok = false → stepP p.vs value now sent s = none) := by
  obtain ⟨i0, hinf, hz0, hz1, hz2⟩ := info_parts infoSend
  have HM := Lib.hid M
  have HR := Lib.hid (right_parts hr)
  obtain ⟨r, hst⟩ : ∃ r, stepP p.vs value now sent s = r := ⟨_, rfl⟩
  rw [hst]
  have HST := Lib.hid hst
  obtain ⟨n, hnn⟩ : ∃ n, argV p.vs now value s = n := ⟨_, rfl⟩
  have HN := Lib.hid hnn
  have hni : Sc.I64 n := by rw [← hnn]; exact argV_i64 M.vi hsi M.ni
  have HNI := Lib.hid hni
  have hb := M.bm
  obtain ⟨_, _, _, _, _, _, _, _, cm⟩ := M.cells
  have hargs : s.ak = 1 → 0 ≤ varIx p.vs s.as_ := fun h => (right_parts hr).2.2.2.2.2.elim (fun h' => absurd h h') id
  have HA := Lib.hid hargs
  have hvl := M.pr.vl
  unfold maxLen at hvl
  have hgl := M.glt.2
  have hgm := M.neg
  clear M hr hst hnn hni hsi hargs
  have hk0 : Kept Nil W (W.alloc (.cells #[.int .i64 s.kind, .string s.name, .int .i64 s.ak, .int .i64 s.an, .string s.as_] 47)) := (Kept.refl Nil W).alloc _
  have HK0 := Lib.hid hk0
  have HM0 := Lib.hid (HM.out.nil hk0)
  clear hk0
  unfold S.val
  obtain ⟨k, nm, ak, an, as_⟩ := s
  simp only at *
  go_enter Try.func23, Try.ntmps23
  go_wp2_with fail
  refine (arg_is HM0.out ⟨k, nm, ak, an, as_⟩ HA.out).mono ?_
  rintro e w2 ⟨rfl, hk2⟩
  rw [show argV _ _ _ _ = _ from HN.out]
  have HM2 := Lib.hid (HM0.out.nil hk2)
  have HK2 := Lib.hid (HK0.out.step hk2)
  have hs2 := hk2.size
  rw [World.size_alloc] at hs2
  have b0 := hk2.cell (p := ⟨W.heap.size, 0, none⟩) (v := .int .i64 k) (by simp) (fun h => h)
  have b1 := hk2.cell (p := ⟨W.heap.size, 1, none⟩) (v := .string nm) (by simp) (fun h => h)
  obtain ⟨c0, c1, c2, c3, c4, c5, c6, cf, cm2⟩ := HM2.out.cells
  have f6 := cf 6
  clear hk2 cf
  by_cases h4 : k = 4
  · subst h4
    have hst : some (now, sent ++ [(nm, n)]) = r := by
      have := HST.out
      simp [stepP] at this
      rw [← this, HN.out]
    have HT := Lib.hid hst
    have HC := Lib.hid (show ∀ u ∈ ([.string nm, .int .i64 n] : List Value), u.oneCell' = true by simp [Value.oneCell'])
    have hne6 := HM.out.nes
    clear hst
    go_wp2_with fail
    go_region_law (refine step_append_lies _ rfl (.tmp 19) (.tmp 24) 29 rfl base 54 i0 (.agg #[.string ⟨#[]⟩, .int .i64 0]) 2 24 Try.underlying29 hinf hz0 hz1 hz2 rfl (by decide) sv sent.length (sent.flatMap sc) (by simp [Act.eval, Act.put]) (own_drew (HM2.out.own2.alloc _)) ⟨w2.heap.size, 0, none⟩ 1 1 [.string nm, .int .i64 n] (by simp [Act.eval, Act.put]) rfl (cells_new1 _ _ _) HC.out (by decide) (by unfold maxLen; omega) (by omega) (by simp; omega) (w2.heap.size + 1) (by simp) ?_; intro g' cap' w3 hown' hgrow hat hlt'; have kk : Kept (fun i => sv.ownBlock = some i) w2 w3 := ((Kept.refl _ w2).alloc _).drew.grown hgrow (fun k e => .inl e); have k6 := kk.cell c6 hne6; have kf6 := kk.frozen cm2 f6 hne6)
    all_goals
      have hp := HM2.out.send (nm, n) kk (by simpa [sc] using hown') (hat.imp id (fun h => by omega))
      have HP := Lib.hid hp
      clear hown' hgrow hat kk hp
      go_wp2_with fail
      go_ret
      exact ⟨true, rfl, (Kept.any HK2.out).trans HP.out.2.1 (fun i h => .inl h), fun _ => ⟨now, _, _, HT.out.symm, HP.out.1, fun i h => (HP.out.2.2 i h).imp id (fun h => by omega)⟩, fun h => by cases h⟩
  · have h4b : (k == 4) = false := by simp [h4]
    rcases varIx_cases p.vs nm with hx | ⟨j, _, hx, hj⟩
    · rcases HR.out.2.2.2.2.1 with h | h
      · exact absurd h h4
      · omega
    · have hjn : j < now.length := by have := HM.out.nl; omega
      obtain ⟨x, ex⟩ : ∃ x, now[j]? = some x := ⟨_, List.getElem?_eq_getElem hjn⟩
      have hxi := HM.out.ni x (List.mem_of_getElem? ex)
      have HXI := Lib.hid hxi
      have HIX := Lib.hid hx
      have HEX := Lib.hid ex
      have cj := HM2.out.at ex
      have hst : (if k = 2 then if Sc.fits (x + n) = true then some (now.set j (x + n), sent) else none else if k = 3 then if Sc.fits (x * n) = true then some (now.set j (x * n), sent) else none else some (now.set j n, sent)) = r := by
        have := HST.out
        unfold stepP at this
        simp only [if_neg h4] at this
        rw [HN.out, hx, Int.toNat_natCast, ex] at this
        simpa using this
      have HT := Lib.hid hst
      clear hx ex hst h4 hxi
      go_wp2_with fail
      refine region_tail 6 (by kernel_rfl) (by kernel_rfl) ?_
      simp only [List.take_succ_cons, List.take_zero, List.drop_succ_cons, List.drop_zero]
      repeat still_step
      refine wpStill_nil ?_
      go_wp2_with fail
      refine (Var_is p nm _ (HM2.out.pr.nil ((Kept.refl Nil w2).drew))).mono ?_
      rintro e w4 ⟨rfl, hk4⟩
      rw [show varIx _ _ = _ from HIX.out]
      have hka : Kept Nil w2 w4 := (Kept.refl Nil w2).drew.step hk4
      have d0 := hka.cell b0 (fun h => h)
      have d4 := hka.cell c4 (fun h => h)
      have dj := hka.cell cj (fun h => h)
      have HM4 := Lib.hid (HM2.out.nil hka)
      have HK4 := Lib.hid (HK2.out.step hka)
      have hs4 := hka.size
      have fj := (HM4.out.own1).frozenAt j
      clear hk4 hka b0 b1 c0 c1 c2 c3 c4 c5 c6 f6 cj

      by_cases h2 : k = 2
      · subst h2
        go_wp2_with fail
        refine (Sc.Add_calls x n _ HXI.out HNI.out).mono ?_
        rintro e w5 ⟨rfl, rfl⟩
        cases hf : Sc.fits (x + n) with
        | true =>
          rw [Sc.held_yes hf]
          have hrr : some (now.set j (x + n), sent) = r := by have := HT.out; simpa [hf] using this
          have hxx := Sc.fits_iff.1 hf
          have HRR := Lib.hid hrr
          clear hrr
          go_wp2_with fail
          go_ret
          exact ⟨true, rfl, (Kept.any HK4.out).setCell (.inl (.inr (.inl rfl))) _, fun _ => ⟨_, sv, sent, HRR.out.symm, HM4.out.put j (x := (x + n)) hxx, fun i h => .inl h⟩, fun h => by cases h⟩
        | false =>
          rw [Sc.held_no hf]
          have hrr : none = r := by have := HT.out; simpa [hf] using this
          have HRR := Lib.hid hrr
          clear hrr
          go_wp2_with fail
          go_ret
          exact ⟨false, rfl, (Kept.any HK4.out).setCell (.inl (.inr (.inl rfl))) _, (fun h => by cases h), fun _ => HRR.out.symm⟩
      · have h2b : (k == 2) = false := by simp [h2]
        by_cases h3 : k = 3
        · subst h3
          go_wp2_with fail
          refine (Sc.Mul_calls x n _ HXI.out HNI.out).mono ?_
          rintro e w5 ⟨rfl, rfl⟩
          cases hf : Sc.fits (x * n) with
          | true =>
            rw [Sc.held_yes hf]
            have hrr : some (now.set j (x * n), sent) = r := by have := HT.out; simpa [hf] using this
            have hxx := Sc.fits_iff.1 hf
            have HRR := Lib.hid hrr
            clear hrr
            go_wp2_with fail
            go_ret
            exact ⟨true, rfl, (Kept.any HK4.out).setCell (.inl (.inr (.inl rfl))) _, fun _ => ⟨_, sv, sent, HRR.out.symm, HM4.out.put j (x := (x * n)) hxx, fun i h => .inl h⟩, fun h => by cases h⟩
          | false =>
            rw [Sc.held_no hf]
            have hrr : none = r := by have := HT.out; simpa [hf] using this
            have HRR := Lib.hid hrr
            clear hrr
            go_wp2_with fail
            go_ret
            exact ⟨false, rfl, (Kept.any HK4.out).setCell (.inl (.inr (.inl rfl))) _, (fun h => by cases h), fun _ => HRR.out.symm⟩
        · have h3b : (k == 3) = false := by simp [h3]
          have hrr : some (now.set j n, sent) = r := by have := HT.out; simpa [h2, h3] using this
          have hxx := HNI.out
          have HRR := Lib.hid hrr
          clear hrr h2 h3
          go_wp2_with fail
          go_ret
          exact ⟨true, rfl, (Kept.any HK4.out).setCell (.inl (.inr (.inl rfl))) _, fun _ => ⟨_, sv, sent, HRR.out.symm, HM4.out.put j (x := n) hxx, fun i h => .inl h⟩, fun h => by cases h⟩
end Go.Proofs.Ytnohhpinigkccaa.Mo
