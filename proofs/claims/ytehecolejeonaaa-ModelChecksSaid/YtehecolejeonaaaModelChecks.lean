/- The walk of the statement ModelChecks. -/
import Derived.Test.YtehecolejeonaaaModelAt
import Derived.Test.YtehecolejeonaaaModelO
import Derived.BigQuiet
namespace Go.Proofs.Ytehecolejeonaaa.Mo
open Go Go.RowKit Go.Proofs.Ytehecolejeonaaa.Lb
set_option linter.unusedVariables false
set_option linter.unusedSimpArgs false

theorem strs_take {w : World} {A : Option Addr} {ns : List ByteArray} (h : RStrs w A ns) (m : Nat) : RStrs w A (ns.take m) := by
  rcases h with h | ⟨b, off, h, hc⟩
  · exact .inl (by rw [h]; simp)
  · exact .inr ⟨b, off, h, fun j s hj => hc j s (by rw [List.getElem?_take] at hj; split at hj; exact hj; cases hj)⟩
theorem strs_nil {w w' : World} {A : Option Addr} {ns : List ByteArray} (hk : Kept Nil w w') (h : RStrs w A ns) : RStrs w' A ns := h.kept hk (fun _ _ _ _ h => h)
theorem i64_and15 (n : Int) : bits .and .i64 n 15 = n % 16 := i64_low n 15 4 (by decide) (by decide)
set_option maxRecDepth 4000 in
set_option maxHeartbeats 16000000 in
theorem ModelChecks_calls (m : Md) (s : ByteArray) (i most : Int) (w : World) (hm : RModel w m) (ho : OkM m) (hi : Sc.I64 i) (hmost : Sc.I64 most) :
    Calls Try.prog 3 #[m.val, .string s, .int .i64 i, .int .i64 most] w fun e w' => e = .returned (.bool true) ∧ Kept Nil w w' := by
  have HM := Lib.hid hm
  have HZ := Lib.hid ho.sz
  obtain ⟨ver, pa, ps, pc, la, ls, lc, ea, es, ec⟩ := m
  clear hm ho hi hmost
  unfold Md.val
  simp only at *
  obtain ⟨W1, hW⟩ : ∃ W, (w.alloc (.cells #[.int .i64 ver, .slice pa ps.length pc, .slice la ls.length lc, .slice ea es.length ec] 26)) = W := ⟨_, rfl⟩
  have hk : Kept Nil w W1 := by rw [← hW]; exact ((Kept.refl Nil w).alloc _)
  have hsz : W1.heap.size = w.heap.size + 1 := by rw [← hW]; simp
  have hb : W1.heap[w.heap.size]? = some (.cells #[.int .i64 ver, .slice pa ps.length pc, .slice la ls.length lc, .slice ea es.length ec] 26 (0, 0)) := by
    rw [← hW]
    have h9 := heap_new w (.cells #[.int .i64 ver, .slice pa ps.length pc, .slice la ls.length lc, .slice ea es.length ec] 26)
    exact h9
  have G0 := Lib.hid (show W1.cell? ⟨w.heap.size, 0, none⟩ = some (.int .i64 ver) by rw [cell_of hb]; rfl)
  have G1 := Lib.hid (show W1.cell? ⟨w.heap.size, 1, none⟩ = some (.slice pa ps.length pc) by rw [cell_of hb]; rfl)
  have G2 := Lib.hid (show W1.cell? ⟨w.heap.size, 2, none⟩ = some (.slice la ls.length lc) by rw [cell_of hb]; rfl)
  have G3 := Lib.hid (show W1.cell? ⟨w.heap.size, 3, none⟩ = some (.slice ea es.length ec) by rw [cell_of hb]; rfl)
  have GB := Lib.hid hb
  have hzg : w.heap.size < W1.heap.size := by omega
  clear hb
  have HW := Lib.hid hW
  have HK := Lib.hid hk
  have HSZ := Lib.hid hsz
  clear hW hk hsz
  have HM1 := Lib.hid (HM.out.nil HK.out)
  go_enter Try.func3, Try.ntmps3
  go_wp2_with fail
  rw [HW.out]
  refine (alive_is W1).mono ?_
  rintro e w1 ⟨rfl, hk1⟩
  have HK1 := Lib.hid hk1
  have hz1 := hk1.size
  clear hk1
  have g0 := (HK1.out).cell G0.out (fun h => h)
  have g1 := (HK1.out).cell G1.out (fun h => h)
  have g2 := (HK1.out).cell G2.out (fun h => h)
  have g3 := (HK1.out).cell G3.out (fun h => h)
  have hg1 : w.heap.size < w1.heap.size := by omega
  go_wp2_with fail
  refine (Few_at w1 (HM1.out.nil HK1.out)).mono ?_
  rintro e w2 ⟨b, rfl, hbb, hk2⟩
  have HBB := Lib.hid hbb
  have HK2 := Lib.hid (HK1.out.step hk2)
  have hz2 := hk2.size
  have hg2 : w.heap.size < w2.heap.size := by omega
  clear hbb hk2 g0 g1 g2 g3
  cases b with
  | false =>
    go_wp2_with fail
    go_ret
    exact ⟨rfl, HK.out.step HK2.out⟩
  | true =>
    have HF := Lib.hid (HBB.out rfl)
    have hpl := HF.out.pl
    have hll := HF.out.ll
    have hel := HF.out.el
    simp only at hpl hll hel
    have HVL := Lib.hid (show ∀ p ∈ ps, p.vs.length ≤ 100000 from fun p hp => Nat.le_trans (HF.out.vs p hp).1 (by decide))
    have g0 := (HK2.out).cell G0.out (fun h => h)
    have g1 := (HK2.out).cell G1.out (fun h => h)
    have g2 := (HK2.out).cell G2.out (fun h => h)
    have g3 := (HK2.out).cell G3.out (fun h => h)
    obtain ⟨r, hrr⟩ : ∃ r, mdCheck ⟨ver, pa, ps, pc, la, ls, lc, ea, es, ec⟩ = r := ⟨_, rfl⟩
    have HRR := Lib.hid hrr
    clear hrr
    go_wp2_with fail
    refine (RefCheck_at w2 (HM1.out.nil HK2.out) HZ.out).mono ?_
    rintro e w3 ⟨rfl, hk3⟩
    rw [HRR.out]
    have HK3 := Lib.hid (HK2.out.step hk3)
    have hz3 := hk3.size
    have hg3 : w.heap.size < w3.heap.size := by omega
    clear hk3 g0 g1 g2 g3
    have g0 := (HK3.out).cell G0.out (fun h => h)
    have g1 := (HK3.out).cell G1.out (fun h => h)
    have g2 := (HK3.out).cell G2.out (fun h => h)
    have g3 := (HK3.out).cell G3.out (fun h => h)
    go_wp2_with fail
    refine (Check_at w3 (HM1.out.nil HK3.out) HZ.out HVL.out).mono ?_
    rintro e w4 ⟨rfl, hk4⟩
    rw [HRR.out]
    have HK4 := Lib.hid (HK3.out.step hk4)
    have hz4 := hk4.size
    have hg4 : w.heap.size < w4.heap.size := by omega
    clear hk4 g0 g1 g2 g3
    have g0 := (HK4.out).cell G0.out (fun h => h)
    have g1 := (HK4.out).cell G1.out (fun h => h)
    have g2 := (HK4.out).cell G2.out (fun h => h)
    have g3 := (HK4.out).cell G3.out (fun h => h)
    have e1 : (r.1 != r.1) = false := by simp
    have e2 : (r.2 != r.2) = false := by simp
    go_upto_region 9 with fail
    clear e1 e2
    go_cut [61] from 36 to 61 (fun x wx => x = .bool false ∧ Kept Nil W1 wx)
    case first =>
      by_cases h0 : 0 ≤ i
      · by_cases h1 : i < (ps.length : Int)
        · obtain ⟨k, rfl⟩ : ∃ k : Nat, i = (k : Int) := ⟨i.toNat, by omega⟩
          have hkl : k < ps.length := by omega
          obtain ⟨p, ep⟩ : ∃ v, ps[k]? = some v := ⟨_, List.getElem?_eq_getElem hkl⟩
          have hrp := (HM1.out.nil HK4.out).pp p (List.mem_of_getElem? ep)
          obtain ⟨b, off, e1, c0, c1, c2, c3⟩ := (HM1.out.nil HK4.out).p.at ep
          simp only at e1
          obtain ⟨pn, pw, va, vs, vc, sa, ss, sc⟩ := p
          simp only at c0 c1 c2 c3
          have HRP := Lib.hid hrp
          have C0 := Lib.hid c0
          have C1 := Lib.hid c1
          have C2 := Lib.hid c2
          have C3 := Lib.hid c3
          have f1 : decide ((0:Int) ≤ (k : Int)) = true := by simp
          have f2 : decide ((k : Int) < (ps.length : Int)) = true := by simp; omega
          have f3 : (varIx vs s != varIx vs s) = false := by simp
          clear hrp ep h0 h1
          subst e1
          go_region_held3 (fun w' => w'.cell? ⟨w.heap.size, 0, none⟩ = some (.int .i64 ver) ∧ w'.cell? ⟨w.heap.size, 1, none⟩ = some (.slice (some ⟨b, off, none⟩) ps.length pc) ∧ w'.cell? ⟨w.heap.size, 2, none⟩ = some (.slice la ls.length lc) ∧ w'.cell? ⟨w.heap.size, 3, none⟩ = some (.slice ea es.length ec) ∧ w'.cell? ⟨b, off + k * 4, none⟩ = some (.string pn) ∧ w'.cell? ⟨b, off + k * 4 + 1, none⟩ = some (.int .i64 pw) ∧ w'.cell? ⟨b, off + k * 4 + 2, none⟩ = some (.slice va vs.length vc) ∧ w'.cell? ⟨b, off + k * 4 + 3, none⟩ = some (.slice sa ss.length sc)) (go_keep) (first
            | (go_at_call 12
               with_reducible refine (Var_at s _ ?_).mono ?_
               · exact HRP.out.nil (by repeat (first | exact Kept.refl _ _ | assumption | refine Kept.drew ?_ | refine Kept.drewN ?_ _ | refine Kept.alloc ?_ _ | refine Kept.step ?_ (by assumption)))
               rintro e w52 ⟨rfl, hk52⟩
               have hz : Kept Nil w4 w52 := (by repeat (first | exact Kept.refl _ _ | assumption | refine Kept.drew ?_ | refine Kept.drewN ?_ _ | refine Kept.alloc ?_ _ | refine Kept.step ?_ (by assumption)))
               have w52_0 := (HK4.out.step hz).cell G0.out (fun h => h)
               have w52_1 := (HK4.out.step hz).cell G1.out (fun h => h)
               have w52_2 := (HK4.out.step hz).cell G2.out (fun h => h)
               have w52_3 := (HK4.out.step hz).cell G3.out (fun h => h)
               have w52_p0 := hz.cell C0.out (fun h => h)
               have w52_p1 := hz.cell C1.out (fun h => h)
               have w52_p2 := hz.cell C2.out (fun h => h)
               have w52_p3 := hz.cell C3.out (fun h => h)
               clear hz)
            | (go_at_call 13
               with_reducible refine (RefVar_at s _ ?_).mono ?_
               · exact HRP.out.nil (by repeat (first | exact Kept.refl _ _ | assumption | refine Kept.drew ?_ | refine Kept.drewN ?_ _ | refine Kept.alloc ?_ _ | refine Kept.step ?_ (by assumption)))
               rintro e w59 ⟨rfl, hk59⟩
               have hz : Kept Nil w4 w59 := (by repeat (first | exact Kept.refl _ _ | assumption | refine Kept.drew ?_ | refine Kept.drewN ?_ _ | refine Kept.alloc ?_ _ | refine Kept.step ?_ (by assumption)))
               have w59_0 := (HK4.out.step hz).cell G0.out (fun h => h)
               have w59_1 := (HK4.out.step hz).cell G1.out (fun h => h)
               have w59_2 := (HK4.out.step hz).cell G2.out (fun h => h)
               have w59_3 := (HK4.out.step hz).cell G3.out (fun h => h)
               have w59_p0 := hz.cell C0.out (fun h => h)
               have w59_p1 := hz.cell C1.out (fun h => h)
               have w59_p2 := hz.cell C2.out (fun h => h)
               have w59_p3 := hz.cell C3.out (fun h => h)
               clear hz)
            )
          all_goals (try go_wp2_with fail)
          all_goals go_meet
          all_goals exact ⟨rfl, HK4.out.step (by repeat (first | exact Kept.refl _ _ | assumption | refine Kept.drew ?_ | refine Kept.drewN ?_ _ | refine Kept.alloc ?_ _ | refine Kept.step ?_ (by assumption)))⟩
        · have f1 : decide ((0:Int) ≤ i) = true := by simp; omega
          have f2 : decide (i < (ps.length : Int)) = false := by simp; omega
          clear h0 h1
          go_big_quiet (fail)
          go_wp2_with fail
          go_meet
          exact ⟨rfl, HK4.out.step (by repeat (first | exact Kept.refl _ _ | assumption | refine Kept.drew ?_ | refine Kept.drewN ?_ _ | refine Kept.alloc ?_ _ | refine Kept.step ?_ (by assumption)))⟩
      · have f1 : decide ((0:Int) ≤ i) = false := by simp; omega
        clear h0
        go_big_quiet (fail)
        go_wp2_with fail
        go_meet
        exact ⟨rfl, HK4.out.step (by repeat (first | exact Kept.refl _ _ | assumption | refine Kept.drew ?_ | refine Kept.drewN ?_ _ | refine Kept.alloc ?_ _ | refine Kept.step ?_ (by assumption)))⟩
    case rest =>
      obtain ⟨rfl, hkc⟩ := hcut
      obtain ⟨w5, hw5⟩ : ∃ x, x = wc := ⟨_, rfl⟩
      subst hw5
      have HK5 := Lib.hid hkc
      have hz5 := hkc.size
      have hg5 : w.heap.size < w5.heap.size := by omega
      clear hkc g0 g1 g2 g3
      have g0 := (HK5.out).cell G0.out (fun h => h)
      have g1 := (HK5.out).cell G1.out (fun h => h)
      have g2 := (HK5.out).cell G2.out (fun h => h)
      have g3 := (HK5.out).cell G3.out (fun h => h)
      go_wp2_with fail
      refine (RefNames_at w5 (HM1.out.nil HK5.out) HF.out).mono ?_
      rintro e w6 ⟨v6, rfl, hO6, hk6⟩
      obtain ⟨ns, hns⟩ : ∃ ns, mdNames ⟨ver, pa, ps, pc, la, ls, lc, ea, es, ec⟩ = ns := ⟨_, rfl⟩
      have hnl : ns.length ≤ 876 := by rw [← hns]; exact names_876 HF.out.pl HF.out.ll (fun q hq => (HF.out.vs q hq).1)
      rw [hns] at hO6
      have HNS := Lib.hid hns
      obtain ⟨-, A6, c6, rfl, hA6, hown6⟩ := strs_of_own hO6
      have hc6 : ns.length ≤ c6 := by
        rcases own_form hO6 with ⟨h1, h2, _⟩ | ⟨g, cap, h1, _, _, h4, _⟩
        · omega
        · cases h1; exact h4
      obtain ⟨a, ha⟩ : ∃ a : Nat, bits .and .i64 most 15 = (a : Int) := ⟨(most % 16).toNat, by rw [i64_and15]; omega⟩
      obtain ⟨tk, htk⟩ : ∃ tk, ns.take a = tk := ⟨_, rfl⟩
      have htl : tk.length = min a ns.length := by rw [← htk, List.length_take]
      have HTK := Lib.hid htk
      have HTL := Lib.hid htl
      have htle : tk.length ≤ ns.length := by omega
      have hta : tk.length ≤ 876 := by omega
      have hs1 : ∀ w' : World, (Instr.slice 40 (.slice A6 ns.length c6) none (some (.int .i64 (tk.length : Int))) none).run Try.prog w' = .ok (.slice A6 tk.length c6) w' := by
        intro w'
        have ht : Try.prog.underlying 40 = some (.slice (Try.prog.elem 40)) := by kernel_rfl
        rw [run_slice_h w' _ A6 ns.length c6 ht .i64 (tk.length : Int) (by omega) (by omega)]
        cases A6 with
        | none => simp [go_sem, sliced, Result.andThen]
        | some a => simp [go_sem, sliced, Result.andThen, Addr.add]
      have HHELD := Lib.hid (show (if (ns.length : Int) < (a : Int) then (ns.length : Int) else if (a : Int) < 0 then 0 else (a : Int)) = (tk.length : Int) by rw [htl]; split <;> (try split) <;> omega)
      have HA6 := Lib.hid hA6
      have HAA := Lib.hid ha
      have HS1 := Lib.hid hs1
      have HK6 := Lib.hid (HK5.out.step hk6)
      have HK56 := Lib.hid hk6
      have hz6 := hk6.size
      have hg6 : w.heap.size < w6.heap.size := by omega
      clear hO6 hk6 hns htk htl hA6 hown6 hs1 g0 g1 g2 g3
      have g0 := (HK6.out).cell G0.out (fun h => h)
      have g1 := (HK6.out).cell G1.out (fun h => h)
      have g2 := (HK6.out).cell G2.out (fun h => h)
      have g3 := (HK6.out).cell G3.out (fun h => h)
      go_wp2_with fail
      refine (Held_is (a : Int) 0 (ns.length : Int) (by omega) w6).mono ?_
      rintro e w7 ⟨rfl, rfl⟩
      rw [HHELD.out]
      clear ha
      go_upto_region 13 with fail
      have hs1 := HS1.out
      go_region_held3 (fun w' => w'.cell? ⟨w.heap.size, 0, none⟩ = some (.int .i64 ver) ∧ w'.cell? ⟨w.heap.size, 1, none⟩ = some (.slice pa ps.length pc) ∧ w'.cell? ⟨w.heap.size, 2, none⟩ = some (.slice la ls.length lc) ∧ w'.cell? ⟨w.heap.size, 3, none⟩ = some (.slice ea es.length ec)) (go_keep) (first
        | (go_at_call 16
           with_reducible refine (Proc_at s _ ?_).mono ?_
           · exact (HM1.out.nil HK6.out).nil (by repeat (first | exact Kept.refl _ _ | assumption | refine Kept.drew ?_ | refine Kept.drewN ?_ _ | refine Kept.alloc ?_ _ | refine Kept.step ?_ (by assumption)))
           rintro e w71 ⟨rfl, hk71⟩
           have hz : Kept Nil w6 w71 := (by repeat (first | exact Kept.refl _ _ | assumption | refine Kept.drew ?_ | refine Kept.drewN ?_ _ | refine Kept.alloc ?_ _ | refine Kept.step ?_ (by assumption)))
           have w71_0 := (HK6.out.step hz).cell G0.out (fun h => h)
           have w71_1 := (HK6.out.step hz).cell G1.out (fun h => h)
           have w71_2 := (HK6.out.step hz).cell G2.out (fun h => h)
           have w71_3 := (HK6.out.step hz).cell G3.out (fun h => h)
           clear hz)
        | (go_at_call 17
           with_reducible refine (RefProcM_at s _ ?_).mono ?_
           · exact (HM1.out.nil HK6.out).nil (by repeat (first | exact Kept.refl _ _ | assumption | refine Kept.drew ?_ | refine Kept.drewN ?_ _ | refine Kept.alloc ?_ _ | refine Kept.step ?_ (by assumption)))
           rintro e w74 ⟨rfl, hk74⟩
           have hz : Kept Nil w6 w74 := (by repeat (first | exact Kept.refl _ _ | assumption | refine Kept.drew ?_ | refine Kept.drewN ?_ _ | refine Kept.alloc ?_ _ | refine Kept.step ?_ (by assumption)))
           have w74_0 := (HK6.out.step hz).cell G0.out (fun h => h)
           have w74_1 := (HK6.out.step hz).cell G1.out (fun h => h)
           have w74_2 := (HK6.out.step hz).cell G2.out (fun h => h)
           have w74_3 := (HK6.out.step hz).cell G3.out (fun h => h)
           clear hz)
        | (go_at_call 18
           with_reducible refine (Link_at s _ ?_).mono ?_
           · exact (HM1.out.nil HK6.out).nil (by repeat (first | exact Kept.refl _ _ | assumption | refine Kept.drew ?_ | refine Kept.drewN ?_ _ | refine Kept.alloc ?_ _ | refine Kept.step ?_ (by assumption)))
           rintro e w79 ⟨rfl, hk79⟩
           have hz : Kept Nil w6 w79 := (by repeat (first | exact Kept.refl _ _ | assumption | refine Kept.drew ?_ | refine Kept.drewN ?_ _ | refine Kept.alloc ?_ _ | refine Kept.step ?_ (by assumption)))
           have w79_0 := (HK6.out.step hz).cell G0.out (fun h => h)
           have w79_1 := (HK6.out.step hz).cell G1.out (fun h => h)
           have w79_2 := (HK6.out.step hz).cell G2.out (fun h => h)
           have w79_3 := (HK6.out.step hz).cell G3.out (fun h => h)
           clear hz)
        | (go_at_call 19
           with_reducible refine (RefLinkM_at s _ ?_).mono ?_
           · exact (HM1.out.nil HK6.out).nil (by repeat (first | exact Kept.refl _ _ | assumption | refine Kept.drew ?_ | refine Kept.drewN ?_ _ | refine Kept.alloc ?_ _ | refine Kept.step ?_ (by assumption)))
           rintro e w82 ⟨rfl, hk82⟩
           have hz : Kept Nil w6 w82 := (by repeat (first | exact Kept.refl _ _ | assumption | refine Kept.drew ?_ | refine Kept.drewN ?_ _ | refine Kept.alloc ?_ _ | refine Kept.step ?_ (by assumption)))
           have w82_0 := (HK6.out.step hz).cell G0.out (fun h => h)
           have w82_1 := (HK6.out.step hz).cell G1.out (fun h => h)
           have w82_2 := (HK6.out.step hz).cell G2.out (fun h => h)
           have w82_3 := (HK6.out.step hz).cell G3.out (fun h => h)
           clear hz)
        | (go_at_call 21
           with_reducible refine (names_at 10000 _ ?_ ?_).mono ?_
           · exact (HM1.out.nil HK6.out).nil (by repeat (first | exact Kept.refl _ _ | assumption | refine Kept.drew ?_ | refine Kept.drewN ?_ _ | refine Kept.alloc ?_ _ | refine Kept.step ?_ (by assumption)))
           · exact HF.out
           rintro e w87 ⟨v87, rfl, hO87, hk87⟩
           rw [HNS.out, show ns.take (10000 : Int).toNat = ns from List.take_of_length_le (by simp only [Int.reduceToNat]; omega)] at hO87
           obtain ⟨-, A87, c87, rfl, hA87, -⟩ := strs_of_own hO87
           have HA87 := Lib.hid hA87
           clear hO87 hA87
           have hz : Kept Nil w6 w87 := (by repeat (first | exact Kept.refl _ _ | assumption | refine Kept.drew ?_ | refine Kept.drewN ?_ _ | refine Kept.alloc ?_ _ | refine Kept.step ?_ (by assumption)))
           have w87_0 := (HK6.out.step hz).cell G0.out (fun h => h)
           have w87_1 := (HK6.out.step hz).cell G1.out (fun h => h)
           have w87_2 := (HK6.out.step hz).cell G2.out (fun h => h)
           have w87_3 := (HK6.out.step hz).cell G3.out (fun h => h)
           clear hz)
        | (go_at_call 20
           with_reducible refine (Same_is ns A87 A6 c87 c6 _ ?_ ?_ ?_).mono ?_
           · exact strs_nil (by repeat (first | exact Kept.refl _ _ | assumption | refine Kept.drew ?_ | refine Kept.drewN ?_ _ | refine Kept.alloc ?_ _ | refine Kept.step ?_ (by assumption))) HA87.out
           · exact strs_nil (by repeat (first | exact Kept.refl _ _ | assumption | refine Kept.drew ?_ | refine Kept.drewN ?_ _ | refine Kept.alloc ?_ _ | refine Kept.step ?_ (by assumption))) HA6.out
           · omega
           rintro e w89 ⟨rfl, hk89⟩
           have hz : Kept Nil w6 w89 := (by repeat (first | exact Kept.refl _ _ | assumption | refine Kept.drew ?_ | refine Kept.drewN ?_ _ | refine Kept.alloc ?_ _ | refine Kept.step ?_ (by assumption)))
           have w89_0 := (HK6.out.step hz).cell G0.out (fun h => h)
           have w89_1 := (HK6.out.step hz).cell G1.out (fun h => h)
           have w89_2 := (HK6.out.step hz).cell G2.out (fun h => h)
           have w89_3 := (HK6.out.step hz).cell G3.out (fun h => h)
           clear hz)
        | (go_at_call 21
           with_reducible refine (names_at (bits .and .i64 most 15) _ ?_ ?_).mono ?_
           · exact (HM1.out.nil HK6.out).nil (by repeat (first | exact Kept.refl _ _ | assumption | refine Kept.drew ?_ | refine Kept.drewN ?_ _ | refine Kept.alloc ?_ _ | refine Kept.step ?_ (by assumption)))
           · exact HF.out
           rintro e w95 ⟨v95, rfl, hO95, hk95⟩
           rw [HNS.out, HAA.out, Int.toNat_natCast, HTK.out] at hO95
           obtain ⟨-, A95, c95, rfl, hA95, -⟩ := strs_of_own hO95
           have HA95 := Lib.hid hA95
           clear hO95 hA95
           have hz : Kept Nil w6 w95 := (by repeat (first | exact Kept.refl _ _ | assumption | refine Kept.drew ?_ | refine Kept.drewN ?_ _ | refine Kept.alloc ?_ _ | refine Kept.step ?_ (by assumption)))
           have w95_0 := (HK6.out.step hz).cell G0.out (fun h => h)
           have w95_1 := (HK6.out.step hz).cell G1.out (fun h => h)
           have w95_2 := (HK6.out.step hz).cell G2.out (fun h => h)
           have w95_3 := (HK6.out.step hz).cell G3.out (fun h => h)
           clear hz)
        | (go_at_call 20
           with_reducible refine (Same_is tk A95 A6 c95 c6 _ ?_ ?_ ?_).mono ?_
           · exact strs_nil (by repeat (first | exact Kept.refl _ _ | assumption | refine Kept.drew ?_ | refine Kept.drewN ?_ _ | refine Kept.alloc ?_ _ | refine Kept.step ?_ (by assumption))) HA95.out
           · exact strs_nil (by repeat (first | exact Kept.refl _ _ | assumption | refine Kept.drew ?_ | refine Kept.drewN ?_ _ | refine Kept.alloc ?_ _ | refine Kept.step ?_ (by assumption))) (show RStrs w6 A6 tk by have h9 := strs_take HA6.out a; rw [HTK.out] at h9; exact h9)
           · omega
           rintro e w99 ⟨rfl, hk99⟩
           have hz : Kept Nil w6 w99 := (by repeat (first | exact Kept.refl _ _ | assumption | refine Kept.drew ?_ | refine Kept.drewN ?_ _ | refine Kept.alloc ?_ _ | refine Kept.step ?_ (by assumption)))
           have w99_0 := (HK6.out.step hz).cell G0.out (fun h => h)
           have w99_1 := (HK6.out.step hz).cell G1.out (fun h => h)
           have w99_2 := (HK6.out.step hz).cell G2.out (fun h => h)
           have w99_3 := (HK6.out.step hz).cell G3.out (fun h => h)
           clear hz)
        )
      all_goals (try go_wp2_with fail)
      all_goals (go_ret; exact ⟨rfl, HK.out.step (HK6.out.step (by repeat (first | exact Kept.refl _ _ | assumption | refine Kept.drew ?_ | refine Kept.drewN ?_ _ | refine Kept.alloc ?_ _ | refine Kept.step ?_ (by assumption))))⟩)
end Go.Proofs.Ytehecolejeonaaa.Mo
