/- The walk of the statement RuleRuns. -/
import Derived.Test.YtnohhpinigkccaaRunsS
import Derived.Test.YtnohhpinigkccaaRuleKeeps
import Derived.Test.YtnohhpinigkccaaMask
import Derived.Deep.Cut
import Derived.Deep.CutRange
namespace Go.Proofs.Ytnohhpinigkccaa.Mo
open Go Go.RowKit Go.Maps Go.Shelf Go.Proofs.Ytnohhpinigkccaa.Lb
set_option linter.unusedVariables false
set_option linter.unusedSimpArgs false

theorem min2_int (k k' : IntKind) (x y : Int) : Builtin.min2 (.int k x) (.int k' y) = pure (.int k (if y < x then y else x)) := by simp only [Builtin.min2]
theorem min_two (ats : Array TypeId) (ty : TypeId) (a b : Value) : Builtin.min_ ats ty #[a, b] = (Builtin.min2 a b >>= fun s => pure s) := by simp only [Builtin.min_, List.foldlM_cons, List.foldlM_nil]
attribute [local go_sem] min2_int min_two
theorem RStrs.take {w : World} {A : Option Addr} {ns : List ByteArray} (h : RStrs w A ns) (m : Nat) : RStrs w A (ns.take m) := by
  rcases h with h | ⟨b, off, h, hc⟩
  · exact .inl (by rw [h]; simp)
  · exact .inr ⟨b, off, h, fun j s hj => hc j s (by rw [List.getElem?_take] at hj; split at hj; exact hj; cases hj)⟩
theorem Start_at {pn : ByteArray} {pw : Int} {va : Option Addr} {vs : List V} {vc : Nat} {sa : Option Addr} {ss : List S} {pc_ : Nat} (w : World) (hr : RProc w ⟨pn, pw, va, vs, vc, sa, ss, pc_⟩) (hl : vs.length ≤ 100000) : Calls Try.prog 14 #[.agg #[.string pn, .int .i64 pw, .slice va vs.length vc, .slice sa ss.length pc_]] w fun e w' => ∃ v, e = .returned v ∧ w'.ownsRow w.heap.size 2 1 v vs.length ((vs.map V.init).map (Value.int .i64)) ∧ Kept Nil w w' := Start_is ⟨pn, pw, va, vs, vc, sa, ss, pc_⟩ w hr hl
theorem RefStart_at {pn : ByteArray} {pw : Int} {va : Option Addr} {vs : List V} {vc : Nat} {sa : Option Addr} {ss : List S} {pc_ : Nat} (w : World) (hr : RProc w ⟨pn, pw, va, vs, vc, sa, ss, pc_⟩) (hl : vs.length ≤ 100000) : Calls Try.prog 15 #[.agg #[.string pn, .int .i64 pw, .slice va vs.length vc, .slice sa ss.length pc_]] w fun e w' => ∃ v, e = .returned v ∧ w'.ownsRow w.heap.size 2 1 v vs.length ((vs.map V.init).map (Value.int .i64)) ∧ Kept Nil w w' := RefStart_is ⟨pn, pw, va, vs, vc, sa, ss, pc_⟩ w hr hl
theorem writes_at {pn : ByteArray} {pw : Int} {va : Option Addr} {vs : List V} {vc : Nat} {sa : Option Addr} {ss : List S} {pc_ : Nat} (most : Int) (w : World) (hr : RProc w ⟨pn, pw, va, vs, vc, sa, ss, pc_⟩) (hl : ss.length ≤ 100000) (hs : ∀ s ∈ ss, s.name.size ≤ maxLen) :
    Calls Try.prog 17 #[.agg #[.string pn, .int .i64 pw, .slice va vs.length vc, .slice sa ss.length pc_], .int .i64 most] w fun e w' => ∃ v, e = .returned v ∧ w'.ownsRow w.heap.size 9 1 v ((dist (wNames ss)).take most.toNat).length (((dist (wNames ss)).take most.toNat).map Value.string) ∧ Kept Nil w w' := writes_is ⟨pn, pw, va, vs, vc, sa, ss, pc_⟩ most w hr hl hs
set_option maxRecDepth 4000 in
set_option maxHeartbeats 8000000 in
theorem RuleRuns_calls (p : Pr) (A : Option Addr) (cap : Nat) (vars : List Int) (value : Int) (w : World) (hp : RProc w p) (hs : ∀ s ∈ p.ss, s.name.size ≤ maxLen) (hr : Sc.Reads w .i64 A vars) (hc : A = none → cap = 0) (hi : ∀ z ∈ vars, Sc.I64 z) (hm : vars.length ≤ maxLen) (hv : Sc.I64 value) (n : Int) (hn : Sc.I64 n) :
    Calls Try.prog 3 #[p.val, .slice A vars.length cap, .int .i64 value, .int .i64 n] w fun e w' => e = .returned (.bool true) ∧ Below w.heap.size w w' := by
  obtain ⟨pn, pw, va, vs, vc, sa, ss, pc_⟩ := p
  simp only at *
  have HP := Lib.hid hp
  have HS := Lib.hid hs
  have HR := Lib.hid hr
  have HC := Lib.hid hc
  have HI := Lib.hid hi
  have HV := Lib.hid hv
  unfold maxLen at hm
  clear hp hs hr hc hi hv hn
  obtain ⟨W0, hW0⟩ : ∃ W0, w.alloc (.cells #[.string pn, .int .i64 pw, .slice va vs.length vc, .slice sa ss.length pc_] 25) = W0 := ⟨_, rfl⟩
  have hk0 : Kept Nil w W0 := by rw [← hW0]; exact (Kept.refl Nil w).alloc _
  have p0 : W0.cell? ⟨w.heap.size, 0, none⟩ = some (.string pn) := by rw [← hW0]; simp
  have p1 : W0.cell? ⟨w.heap.size, 1, none⟩ = some (.int .i64 pw) := by rw [← hW0]; simp
  have p2 : W0.cell? ⟨w.heap.size, 2, none⟩ = some (.slice va vs.length vc) := by rw [← hW0]; simp
  have p3 : W0.cell? ⟨w.heap.size, 3, none⟩ = some (.slice sa ss.length pc_) := by rw [← hW0]; simp
  have hsz : W0.heap.size = w.heap.size + 1 := by rw [← hW0]; simp
  have HW0 := Lib.hid hW0
  have HK0 := Lib.hid hk0
  have HP0 := Lib.hid (HP.out.nil hk0)
  have G0 := Lib.hid p0
  have G1 := Lib.hid p1
  have G2 := Lib.hid p2
  have G3 := Lib.hid p3
  have HSZ := Lib.hid hsz
  clear hW0 hk0 p0 p1 p2 p3 hsz

  unfold Pr.val
  simp only
  go_enter Try.func3, Try.ntmps3
  go_wp2_with fail
  rw [HW0.out]
  refine (alive_is W0).mono ?_
  rintro e w1 ⟨rfl, hk1⟩
  have a0 := (hk1).cell G0.out (fun h => h)
  have a1 := (hk1).cell G1.out (fun h => h)
  have a2 := (hk1).cell G2.out (fun h => h)
  have a3 := (hk1).cell G3.out (fun h => h)
  have hb1 : w.heap.size < w1.heap.size := by have := hk1.size; have := HSZ.out; omega
  go_wp2_with fail
  refine (few_is ⟨pn, pw, va, vs, vc, sa, ss, pc_⟩ w1 (HP0.out.nil hk1)).mono ?_
  rintro e w2 ⟨b, rfl, hbb, hk2⟩
  have HBB := Lib.hid hbb
  have hb2 : w.heap.size < w2.heap.size := by have := hk2.size; omega
  have HK2 := Lib.hid (hk1.step hk2)
  clear hbb a0 a1 a2 a3 hk1 hk2
  cases b with
  | false =>
    go_wp2_with fail
    go_ret
    exact ⟨rfl, (HK0.out.step HK2.out).toBelow⟩
  | true =>
    by_cases h100 : 100 < vars.length
    · go_wp2_with fail
      go_ret
      exact ⟨rfl, (HK0.out.step HK2.out).toBelow⟩
    · have hvl := (HBB.out rfl).1
      have hsl := (HBB.out rfl).2
      simp only at hvl hsl
      have a0 := (HK2.out).cell G0.out (fun h => h)
      have a1 := (HK2.out).cell G1.out (fun h => h)
      have a2 := (HK2.out).cell G2.out (fun h => h)
      have a3 := (HK2.out).cell G3.out (fun h => h)
      obtain ⟨r, hrr⟩ : ∃ r, runP ⟨pn, pw, va, vs, vc, sa, ss, pc_⟩ vars value = r := ⟨_, rfl⟩
      have HRR := Lib.hid hrr
      clear hrr
      go_wp2_with fail
      refine (Run_is ⟨pn, pw, va, vs, vc, sa, ss, pc_⟩ A cap vars value w2 (HP0.out.nil HK2.out) (reads_kept HR.out (HK0.out.step HK2.out) (fun _ _ _ h => h)) HI.out HV.out (by omega) (by simp only; omega)).mono ?_
      rintro e w4 ⟨u4, v4, rfl, ⟨hu4, hv4⟩, hk4⟩
      rw [HRR.out] at hu4 hv4 ⊢
      obtain ⟨re, rn, rs⟩ := r
      simp only at hu4 hv4
      obtain ⟨-, A4, c4, rfl, hA4, -⟩ := longs_of_own hu4
      obtain ⟨B4, d4, rfl, hB4⟩ := rsends_of_own hv4
      have HA4 := Lib.hid hA4
      have HB4 := Lib.hid hB4
      have HK4 := Lib.hid (HK2.out.step hk4)
      have hb4 : w.heap.size < w4.heap.size := by have := hk4.size; omega
      clear hu4 hv4 hA4 hB4 hk4 a0 a1 a2 a3
      have a0 := (HK4.out).cell G0.out (fun h => h)
      have a1 := (HK4.out).cell G1.out (fun h => h)
      have a2 := (HK4.out).cell G2.out (fun h => h)
      have a3 := (HK4.out).cell G3.out (fun h => h)
      go_wp2_with fail
      refine (RefRun_is ⟨pn, pw, va, vs, vc, sa, ss, pc_⟩ A cap vars value w4 (HP0.out.nil HK4.out) (reads_kept HR.out (HK0.out.step HK4.out) (fun _ _ _ h => h)) HC.out HI.out HV.out (by omega) (by simp only; omega)).mono ?_
      rintro e w5 ⟨u5, v5, rfl, ⟨hu5, hv5⟩, hk5⟩
      rw [HRR.out] at hu5 hv5 ⊢
      simp only at hu5 hv5
      obtain ⟨-, A5, c5, rfl, hA5, -⟩ := longs_of_own hu5
      obtain ⟨B5, d5, rfl, hB5⟩ := rsends_of_own hv5
      have HA5 := Lib.hid hA5
      have HB5 := Lib.hid hB5
      have HK45 := Lib.hid hk5
      have HK5 := Lib.hid (HK4.out.step hk5)
      have hb5 : w.heap.size < w5.heap.size := by have := hk5.size; omega
      have hrnl : rn.length ≤ 1000 ∧ rs.length ≤ 1000 := by
        by_cases h0 : re = 0
        · have h9 := run_sends (runP_ok (p := ⟨pn, pw, va, vs, vc, sa, ss, pc_⟩) (vars := vars) (value := value) (by rw [HRR.out]; exact h0)).2.2
          rw [HRR.out] at h9
          have h8 : sendsN ss ≤ ss.length := List.length_filter_le _ _
          have h91 := h9.1
          have h92 := h9.2
          simp only [List.length_nil, Nat.zero_add] at h91 h92
          omega
        · have h9 := runP_err (p := ⟨pn, pw, va, vs, vc, sa, ss, pc_⟩) (vars := vars) (value := value) (by rw [HRR.out]; exact h0)
          rw [HRR.out] at h9
          simp only at h9
          rw [h9.1, h9.2]; simp
      obtain ⟨hrn1, hrs1⟩ := hrnl
      have hee : (re == re) = true := by simp
      clear hu5 hv5 hA5 hB5 hk5 a0 a1 a2 a3
      have a0 := (HK5.out).cell G0.out (fun h => h)
      have a1 := (HK5.out).cell G1.out (fun h => h)
      have a2 := (HK5.out).cell G2.out (fun h => h)
      have a3 := (HK5.out).cell G3.out (fun h => h)
      go_wp2_with fail
      refine (RefWrites_is ⟨pn, pw, va, vs, vc, sa, ss, pc_⟩ w5 (HP0.out.nil HK5.out) (by simp only; omega)).mono ?_
      rintro e w6 ⟨v6, rfl, hO6, hk6⟩
      simp only at hO6
      have hdl : (dist (wNames ss)).length ≤ 300 := Nat.le_trans (dist_len _) (Nat.le_trans (wNames_len _) hsl)
      obtain ⟨dn, hdn⟩ : ∃ dn, dist (wNames ss) = dn := ⟨_, rfl⟩
      rw [hdn] at hO6 hdl
      obtain ⟨ins, hins⟩ : ∃ ins, vs.map V.init = ins := ⟨_, rfl⟩
      have hinl : ins.length ≤ 100 := by rw [← hins]; simp; omega
      obtain ⟨a, ha⟩ : ∃ a : Nat, bits .and .i64 n 7 = (a : Int) := ⟨(n % 8).toNat, by rw [i64_and7]; omega⟩
      obtain ⟨tk, htk⟩ : ∃ tk, dn.take a = tk := ⟨_, rfl⟩
      have htl : tk.length = min a dn.length := by rw [← htk, List.length_take]
      have HDN := Lib.hid hdn
      have HINS := Lib.hid hins
      have HTK := Lib.hid htk
      have HTL := Lib.hid htl
      have htle : tk.length ≤ dn.length := by omega
      obtain ⟨-, A6, c6, rfl, hA6, hown6⟩ := strs_of_own hO6
      have hc6 : dn.length ≤ c6 := by
        rcases own_form hO6 with ⟨h1, h2, _⟩ | ⟨g, cap, h1, _, _, h4, _⟩
        · omega
        · cases h1; exact h4
      have hs1 : ∀ w' : World, (Instr.slice 36 (.slice A6 dn.length c6) none (some (.int .i64 (tk.length : Int))) none).run Try.prog w' = .ok (.slice A6 tk.length c6) w' := by
        intro w'
        have ht : Try.prog.underlying 36 = some (.slice (Try.prog.elem 36)) := by kernel_rfl
        rw [run_slice_h w' _ A6 dn.length c6 ht .i64 (tk.length : Int) (by omega) (by omega)]
        cases A6 with
        | none => simp [go_sem, sliced, Result.andThen]
        | some a => simp [go_sem, sliced, Result.andThen, Addr.add]
      have HA6 := Lib.hid hA6
      have HAA := Lib.hid ha
      have HS1 := Lib.hid hs1
      have HK56 := Lib.hid hk6
      have HK6 := Lib.hid (HK5.out.step hk6)
      have hb6 : w.heap.size < w6.heap.size := by have := hk6.size; omega
      clear hO6 hk6 hdn hins htk htl hA6 hown6 hs1 a0 a1 a2 a3
      go_upto_region 8 with fail
      clear ha
      go_cut [16] from 45 to 49 (fun x wx => x = .int .i64 (tk.length : Int) ∧ wx = w6)
      case first =>
        have ha := HAA.out
        by_cases hlt : dn.length < a
        · have h1 : decide ((dn.length : Int) < (a : Int)) = true := by simp; omega
          have h2 : (dn.length : Int) < (a : Int) := by omega
          have HE := Lib.hid (show dn.length = tk.length by rw [HTL.out]; omega)
          go_wp2_with fail
          go_meet
          exact ⟨by rw [HE.out], rfl⟩
        · have h1 : decide ((dn.length : Int) < (a : Int)) = false := by simp; omega
          have h2 : ¬ (dn.length : Int) < (a : Int) := by omega
          have HE := Lib.hid (show a = tk.length by rw [HTL.out]; omega)
          go_wp2_with fail
          go_meet
          exact ⟨by rw [HE.out], rfl⟩
      case rest =>
        obtain ⟨rfl, hwc⟩ := hcut
        subst hwc
        go_upto_region 9 with fail
        have hs1 := HS1.out
        have hk6 := HK6.out
        have hk46 := HK45.out.step HK56.out
        have hk56 := HK56.out
        have a0 := (HK6.out).cell G0.out (fun h => h)
        have a1 := (HK6.out).cell G1.out (fun h => h)
        have a2 := (HK6.out).cell G2.out (fun h => h)
        have a3 := (HK6.out).cell G3.out (fun h => h)
        go_region_held3 (fun w' => w'.cell? ⟨w.heap.size, 0, none⟩ = some (.string pn) ∧ w'.cell? ⟨w.heap.size, 1, none⟩ = some (.int .i64 pw) ∧ w'.cell? ⟨w.heap.size, 2, none⟩ = some (.slice va vs.length vc) ∧ w'.cell? ⟨w.heap.size, 3, none⟩ = some (.slice sa ss.length pc_)) (go_keep) (first
          | (go_at_call 12
             with_reducible refine (SameLongs_is rn A4 A5 c4 c5 _ ?_ ?_ ?_).mono ?_
             · exact reads_kept HA4.out (by repeat (first | exact Kept.refl _ _ | assumption | refine Kept.drew ?_ | refine Kept.drewN ?_ _ | refine Kept.alloc ?_ _ | refine Kept.step ?_ (by assumption))) (fun _ _ _ h => h)
             · exact reads_kept HA5.out (by repeat (first | exact Kept.refl _ _ | assumption | refine Kept.drew ?_ | refine Kept.drewN ?_ _ | refine Kept.alloc ?_ _ | refine Kept.step ?_ (by assumption))) (fun _ _ _ h => h)
             · omega
             rintro e w56 ⟨rfl, hk56b⟩
             have hz : Kept Nil W0 w56 := (by repeat (first | exact Kept.refl _ _ | assumption | refine Kept.drew ?_ | refine Kept.drewN ?_ _ | refine Kept.alloc ?_ _ | refine Kept.step ?_ (by assumption)))
             have w56_0 := hz.cell G0.out (fun h => h)
             have w56_1 := hz.cell G1.out (fun h => h)
             have w56_2 := hz.cell G2.out (fun h => h)
             have w56_3 := hz.cell G3.out (fun h => h)
             clear hz)
          | (go_at_call 13
             with_reducible refine (same_is rs B4 B5 d4 d5 _ ?_ ?_ ?_).mono ?_
             · exact HB4.out.nil (by repeat (first | exact Kept.refl _ _ | assumption | refine Kept.drew ?_ | refine Kept.drewN ?_ _ | refine Kept.alloc ?_ _ | refine Kept.step ?_ (by assumption)))
             · exact HB5.out.nil (by repeat (first | exact Kept.refl _ _ | assumption | refine Kept.drew ?_ | refine Kept.drewN ?_ _ | refine Kept.alloc ?_ _ | refine Kept.step ?_ (by assumption)))
             · omega
             rintro e w61 ⟨rfl, hk61⟩
             have hz : Kept Nil W0 w61 := (by repeat (first | exact Kept.refl _ _ | assumption | refine Kept.drew ?_ | refine Kept.drewN ?_ _ | refine Kept.alloc ?_ _ | refine Kept.step ?_ (by assumption)))
             have w61_0 := hz.cell G0.out (fun h => h)
             have w61_1 := hz.cell G1.out (fun h => h)
             have w61_2 := hz.cell G2.out (fun h => h)
             have w61_3 := hz.cell G3.out (fun h => h)
             clear hz)
          | (go_at_call 14
             with_reducible refine (Start_at _ ?_ ?_).mono ?_
             · exact HP0.out.nil (by repeat (first | exact Kept.refl _ _ | assumption | refine Kept.drew ?_ | refine Kept.drewN ?_ _ | refine Kept.alloc ?_ _ | refine Kept.step ?_ (by assumption)))
             · omega
             rintro e w65 ⟨v65, rfl, hO65, hk65⟩
             rw [HINS.out] at hO65
             obtain ⟨-, A65, c65, rfl, hA65, -⟩ := longs_of_own hO65
             have HA65 := Lib.hid hA65
             clear hO65 hA65
             have hz : Kept Nil W0 w65 := (by repeat (first | exact Kept.refl _ _ | assumption | refine Kept.drew ?_ | refine Kept.drewN ?_ _ | refine Kept.alloc ?_ _ | refine Kept.step ?_ (by assumption)))
             have w65_0 := hz.cell G0.out (fun h => h)
             have w65_1 := hz.cell G1.out (fun h => h)
             have w65_2 := hz.cell G2.out (fun h => h)
             have w65_3 := hz.cell G3.out (fun h => h)
             clear hz)
          | (go_at_call 15
             with_reducible refine (RefStart_at _ ?_ ?_).mono ?_
             · exact HP0.out.nil (by repeat (first | exact Kept.refl _ _ | assumption | refine Kept.drew ?_ | refine Kept.drewN ?_ _ | refine Kept.alloc ?_ _ | refine Kept.step ?_ (by assumption)))
             · omega
             rintro e w67 ⟨v67, rfl, hO67, hk67⟩
             rw [HINS.out] at hO67
             obtain ⟨-, A67, c67, rfl, hA67, -⟩ := longs_of_own hO67
             have HA67 := Lib.hid hA67
             clear hO67 hA67
             have hz : Kept Nil W0 w67 := (by repeat (first | exact Kept.refl _ _ | assumption | refine Kept.drew ?_ | refine Kept.drewN ?_ _ | refine Kept.alloc ?_ _ | refine Kept.step ?_ (by assumption)))
             have w67_0 := hz.cell G0.out (fun h => h)
             have w67_1 := hz.cell G1.out (fun h => h)
             have w67_2 := hz.cell G2.out (fun h => h)
             have w67_3 := hz.cell G3.out (fun h => h)
             clear hz)
          | (go_at_call 12
             with_reducible refine (SameLongs_is ins A65 A67 c65 c67 _ ?_ ?_ ?_).mono ?_
             · exact reads_kept HA65.out (by repeat (first | exact Kept.refl _ _ | assumption | refine Kept.drew ?_ | refine Kept.drewN ?_ _ | refine Kept.alloc ?_ _ | refine Kept.step ?_ (by assumption))) (fun _ _ _ h => h)
             · exact reads_kept HA67.out (by repeat (first | exact Kept.refl _ _ | assumption | refine Kept.drew ?_ | refine Kept.drewN ?_ _ | refine Kept.alloc ?_ _ | refine Kept.step ?_ (by assumption))) (fun _ _ _ h => h)
             · omega
             rintro e w68 ⟨rfl, hk68⟩
             have hz : Kept Nil W0 w68 := (by repeat (first | exact Kept.refl _ _ | assumption | refine Kept.drew ?_ | refine Kept.drewN ?_ _ | refine Kept.alloc ?_ _ | refine Kept.step ?_ (by assumption)))
             have w68_0 := hz.cell G0.out (fun h => h)
             have w68_1 := hz.cell G1.out (fun h => h)
             have w68_2 := hz.cell G2.out (fun h => h)
             have w68_3 := hz.cell G3.out (fun h => h)
             clear hz)
          | (go_at_call 17
             with_reducible refine (writes_at 1000 _ ?_ ?_ ?_).mono ?_
             · exact HP0.out.nil (by repeat (first | exact Kept.refl _ _ | assumption | refine Kept.drew ?_ | refine Kept.drewN ?_ _ | refine Kept.alloc ?_ _ | refine Kept.step ?_ (by assumption)))
             · omega
             · exact HS.out
             rintro e w72 ⟨v72, rfl, hO72, hk72⟩
             rw [HDN.out, show dn.take (1000 : Int).toNat = dn from List.take_of_length_le (by simp only [Int.reduceToNat]; omega)] at hO72
             obtain ⟨-, A72, c72, rfl, hA72, -⟩ := strs_of_own hO72
             have HA72 := Lib.hid hA72
             clear hO72 hA72
             have hz : Kept Nil W0 w72 := (by repeat (first | exact Kept.refl _ _ | assumption | refine Kept.drew ?_ | refine Kept.drewN ?_ _ | refine Kept.alloc ?_ _ | refine Kept.step ?_ (by assumption)))
             have w72_0 := hz.cell G0.out (fun h => h)
             have w72_1 := hz.cell G1.out (fun h => h)
             have w72_2 := hz.cell G2.out (fun h => h)
             have w72_3 := hz.cell G3.out (fun h => h)
             clear hz)
          | (go_at_call 16
             with_reducible refine (Same_is dn A72 A6 c72 c6 _ ?_ ?_ ?_).mono ?_
             · exact HA72.out.kept (by repeat (first | exact Kept.refl _ _ | assumption | refine Kept.drew ?_ | refine Kept.drewN ?_ _ | refine Kept.alloc ?_ _ | refine Kept.step ?_ (by assumption))) (fun _ _ _ _ h => h)
             · exact HA6.out.kept (by repeat (first | exact Kept.refl _ _ | assumption | refine Kept.drew ?_ | refine Kept.drewN ?_ _ | refine Kept.alloc ?_ _ | refine Kept.step ?_ (by assumption))) (fun _ _ _ _ h => h)
             · omega
             rintro e w74 ⟨rfl, hk74⟩
             have hz : Kept Nil W0 w74 := (by repeat (first | exact Kept.refl _ _ | assumption | refine Kept.drew ?_ | refine Kept.drewN ?_ _ | refine Kept.alloc ?_ _ | refine Kept.step ?_ (by assumption)))
             have w74_0 := hz.cell G0.out (fun h => h)
             have w74_1 := hz.cell G1.out (fun h => h)
             have w74_2 := hz.cell G2.out (fun h => h)
             have w74_3 := hz.cell G3.out (fun h => h)
             clear hz)
          | (go_at_call 17
             with_reducible refine (writes_at (bits .and .i64 n 7) _ ?_ ?_ ?_).mono ?_
             · exact HP0.out.nil (by repeat (first | exact Kept.refl _ _ | assumption | refine Kept.drew ?_ | refine Kept.drewN ?_ _ | refine Kept.alloc ?_ _ | refine Kept.step ?_ (by assumption)))
             · omega
             · exact HS.out
             rintro e w80 ⟨v80, rfl, hO80, hk80⟩
             rw [HDN.out, HAA.out, Int.toNat_natCast, HTK.out] at hO80
             obtain ⟨-, A80, c80, rfl, hA80, -⟩ := strs_of_own hO80
             have HA80 := Lib.hid hA80
             clear hO80 hA80
             have hz : Kept Nil W0 w80 := (by repeat (first | exact Kept.refl _ _ | assumption | refine Kept.drew ?_ | refine Kept.drewN ?_ _ | refine Kept.alloc ?_ _ | refine Kept.step ?_ (by assumption)))
             have w80_0 := hz.cell G0.out (fun h => h)
             have w80_1 := hz.cell G1.out (fun h => h)
             have w80_2 := hz.cell G2.out (fun h => h)
             have w80_3 := hz.cell G3.out (fun h => h)
             clear hz)
          | (go_at_call 16
             with_reducible refine (Same_is tk A80 A6 c80 c6 _ ?_ ?_ ?_).mono ?_
             · exact HA80.out.kept (by repeat (first | exact Kept.refl _ _ | assumption | refine Kept.drew ?_ | refine Kept.drewN ?_ _ | refine Kept.alloc ?_ _ | refine Kept.step ?_ (by assumption))) (fun _ _ _ _ h => h)
             · exact (by have h9 := HA6.out.take a; rw [HTK.out] at h9; exact h9 : RStrs wc A6 tk).kept (by repeat (first | exact Kept.refl _ _ | assumption | refine Kept.drew ?_ | refine Kept.drewN ?_ _ | refine Kept.alloc ?_ _ | refine Kept.step ?_ (by assumption))) (fun _ _ _ _ h => h)
             · omega
             rintro e w84 ⟨rfl, hk84⟩
             have hz : Kept Nil W0 w84 := (by repeat (first | exact Kept.refl _ _ | assumption | refine Kept.drew ?_ | refine Kept.drewN ?_ _ | refine Kept.alloc ?_ _ | refine Kept.step ?_ (by assumption)))
             have w84_0 := hz.cell G0.out (fun h => h)
             have w84_1 := hz.cell G1.out (fun h => h)
             have w84_2 := hz.cell G2.out (fun h => h)
             have w84_3 := hz.cell G3.out (fun h => h)
             clear hz)
          )
        all_goals (go_wp2_with fail)
        all_goals (go_ret; exact ⟨rfl, (HK0.out.step (by repeat (first | exact Kept.refl _ _ | assumption | refine Kept.drew ?_ | refine Kept.drewN ?_ _ | refine Kept.alloc ?_ _ | refine Kept.step ?_ (by assumption)))).toBelow⟩)
end Go.Proofs.Ytnohhpinigkccaa.Mo
