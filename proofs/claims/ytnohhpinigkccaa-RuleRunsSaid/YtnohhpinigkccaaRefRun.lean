/- The walk of sandtableref26.Run. -/
import Derived.Test.YtnohhpinigkccaaRun
import Derived.Test.YtnohhpinigkccaaRefAM
import Derived.Test.YtnohhpinigkccaaAppendR
import Derived.Test.YtnohhpinigkccaaRuleA
import Derived.Deep.Cut
import Derived.Deep.CutRange
namespace Go.Proofs.Ytnohhpinigkccaa.Mo
open Go Go.RowKit Go.Proofs.Ytnohhpinigkccaa.Lb
set_option linter.unusedVariables false
set_option linter.unusedSimpArgs false

theorem infoSendR : (Try.prog.info? 67).map (fun i => (i.zero, i.size, i.bytes)) = some (some (.agg #[.string ⟨#[]⟩, .int .i64 0]), 2, 24) := by kernel_rfl
/-- Rows of unlike things lie in unlike blocks. -/
theorem own_apart {w : World} {base base' e e' size size' n n' : Nat} {v v' : Value} {xs xs' : List Value} (h : w.ownsRow base e size v n xs) (h' : w.ownsRow base' e' size' v' n' xs') (hne : e ≠ e') (i : Nat) (hi : v.ownBlock = some i) : v'.ownBlock ≠ some i := by
  intro hj
  rcases h.2 with ⟨h1, _⟩ | ⟨g, cap, cur, h1, _, h2, _⟩
  · subst h1; simp [Value.ownBlock] at hi
  rcases h'.2 with ⟨k1, _⟩ | ⟨g', cap', cur', k1, _, k2, _⟩
  · subst k1; simp [Value.ownBlock] at hj
  subst h1 k1
  simp [Value.ownBlock] at hi hj
  subst hi hj
  rw [h2] at k2
  cases k2
  exact hne rfl
def RanR (B : Nat) (w' : World) (u v : Value) (r : Int × List Int × List Se) : Prop :=
  w'.ownsRow B 2 1 u r.2.1.length (r.2.1.map (Value.int .i64)) ∧ w'.ownsRow B 67 2 v r.2.2.length (r.2.2.flatMap sc)
theorem RanR.nil (B : Nat) (w : World) (e : Int) : RanR B w (.slice none 0 0) (.slice none 0 0) (e, [], []) := ⟨World.ownsRow_nil _ _ _ _, World.ownsRow_nil _ _ _ _⟩
/-- What the second loop holds. -/
structure RAt (B : Nat) (vs : List V) (value : Int) (ss : List S) (vars : List Int) (k : Nat) (nv sv : Value) (w : World) : Prop where
  ex : ∃ (now : List Int) (sent : List Se), runFrom vs value (ss.take k) vars [] = some (now, sent) ∧ w.ownsRow B 2 1 nv vars.length (now.map (Value.int .i64)) ∧ w.ownsRow B 67 2 sv sent.length (sent.flatMap sc) ∧
    now.length = vars.length ∧ sent.length ≤ k ∧ ∀ z ∈ now, Sc.I64 z
theorem RAt.nil {B k : Nat} {vs : List V} {value : Int} {ss : List S} {vars : List Int} {nv sv : Value} {w w' : World} (h : RAt B vs value ss vars k nv sv w) (hk : Kept Nil w w') : RAt B vs value ss vars k nv sv w' := by
  obtain ⟨now, sent, h1, h2, h3, h4, h5, h6⟩ := h.ex
  exact ⟨now, sent, h1, hk.own h2 (fun _ _ h => h), hk.own h3 (fun _ _ h => h), h4, h5, h6⟩
theorem own_addr {w : World} {base e size n m c : Nat} {A : Option Addr} {xs : List Value} (h : w.ownsRow base e size (.slice A m c) n xs) (hn : 0 < n) : ∃ g, A = some ⟨g, 0, none⟩ ∧ m = n ∧ base ≤ g ∧ g < w.heap.size := by
  rcases own_form h with ⟨h1, h2, _⟩ | ⟨g, cap, h1, h2, h3, _⟩
  · omega
  · cases h1
    exact ⟨g, rfl, rfl, h2, h3⟩
theorem sc_one (l : List Se) : ∀ u ∈ l.flatMap sc, u.oneCell' = true := fun u hu => by
  obtain ⟨e, _, he⟩ := List.mem_flatMap.1 hu
  simp only [sc, List.mem_cons, List.not_mem_nil, or_false] at he
  rcases he with rfl | rfl <;> rfl
theorem RAt.put {B k j g cp : Nat} {vs : List V} {value x : Int} {ss : List S} {vars now : List Int} {sent : List Se} {sv : Value} {w : World} (h1 : w.ownsRow B 2 1 (.slice (some ⟨g, 0, none⟩) vars.length cp) vars.length (now.map (Value.int .i64))) (h2 : w.ownsRow B 67 2 sv sent.length (sent.flatMap sc))
    (hq : runFrom vs value (ss.take (k + 1)) vars [] = some (now.set j x, sent)) (h4 : now.length = vars.length) (h5 : sent.length ≤ k + 1) (h6 : ∀ z ∈ now, Sc.I64 z) (hx : Sc.I64 x) :
    RAt B vs value ss vars (k + 1) (.slice (some ⟨g, 0, none⟩) vars.length cp) sv (w.setCell ⟨g, j, none⟩ (.int .i64 x)) := by
  have hk : Kept (fun i => i = g) w (w.setCell ⟨g, j, none⟩ (.int .i64 x)) := (Kept.refl (fun i => i = g) w).setCell (.inl rfl) _
  refine ⟨now.set j x, sent, hq, ?_, hk.own h2 (fun i e h => own_apart h1 h2 (by decide) g rfl (h ▸ e)), by rw [List.length_set]; exact h4, h5, fun z hz => ?_⟩
  · have := (h1.stored j (.int .i64 x)).1
    rw [List.map_set]
    exact this
  · rcases List.mem_or_eq_of_mem_set hz with h | h
    · exact h6 z h
    · subst h; exact hx
set_option maxRecDepth 4000 in
set_option maxHeartbeats 8000000 in
theorem RefRun_is (p : Pr) (A : Option Addr) (cap : Nat) (vars : List Int) (value : Int) (w : World) (hp : RProc w p) (hr : Sc.Reads w .i64 A vars) (hc : A = none → cap = 0) (hi : ∀ z ∈ vars, Sc.I64 z) (hv : Sc.I64 value) (hl : vars.length ≤ 1000) (hsl : p.ss.length ≤ 1000) :
    Calls Try.prog 10 #[p.val, .slice A vars.length cap, .int .i64 value] w fun e w' => ∃ u v, e = .returned (.tuple #[u, v, .int .i64 (runP p vars value).1]) ∧ RanR w.heap.size w' u v (runP p vars value) ∧ Kept Nil w w' := by
  obtain ⟨j0, hjnf, hy0, hy1, hy2⟩ := info_parts infoI64
  obtain ⟨i0, hinf, hz0, hz1, hz2⟩ := info_parts infoSendR
  obtain ⟨pn, pw, va, vs, vc, sa, ss, pc_⟩ := p
  simp only at *
  have HP := Lib.hid hp
  have HR := Lib.hid hr
  have HC := Lib.hid hc
  have HI := Lib.hid hi
  have HV := Lib.hid hv
  obtain ⟨r, hrr⟩ : ∃ r, runP ⟨pn, pw, va, vs, vc, sa, ss, pc_⟩ vars value = r := ⟨_, rfl⟩
  rw [hrr]
  have HRR := Lib.hid hrr
  have hvl := hp.vl
  unfold maxLen at hvl
  clear hp hr hc hi hv hrr
  obtain ⟨W0, hW0⟩ : ∃ W0, w.alloc (.cells #[.string pn, .int .i64 pw, .slice va vs.length vc, .slice sa ss.length pc_] 25) = W0 := ⟨_, rfl⟩
  have hk0 : Kept Nil w W0 := by rw [← hW0]; exact (Kept.refl Nil w).alloc _
  have p0 : W0.cell? ⟨w.heap.size, 0, none⟩ = some (.string pn) := by rw [← hW0]; simp
  have p1 : W0.cell? ⟨w.heap.size, 1, none⟩ = some (.int .i64 pw) := by rw [← hW0]; simp
  have p2 : W0.cell? ⟨w.heap.size, 2, none⟩ = some (.slice va vs.length vc) := by rw [← hW0]; simp
  have p3 : W0.cell? ⟨w.heap.size, 3, none⟩ = some (.slice sa ss.length pc_) := by rw [← hW0]; simp
  have hsz : W0.heap.size = w.heap.size + 1 := by rw [← hW0]; simp
  have HW0 := Lib.hid hW0
  have HK0 := Lib.hid hk0
  have HP0 := Lib.hid (HP.out.nil hk0)
  have G0 := Lib.hid p0
  have G1 := Lib.hid p1
  have G2 := Lib.hid p2
  have G3 := Lib.hid p3
  have HSZ := Lib.hid hsz
  clear hW0 hk0 hsz p0 p1

  by_cases hlen : vars.length = vs.length
  · have hlb : ((vars.length : Int) != (vs.length : Int)) = false := by simp [hlen]
    have HLEN := Lib.hid hlen
    clear hlen
    unfold Pr.val
    go_enter Try.func10, Try.ntmps10
    go_wp2_with fail
    rw [HW0.out]
    clear p2 p3
    go_loopw [9] (fun i wr => ∃ k : Nat, k ≤ ss.length ∧ i = .int .i64 k ∧ (∀ (j : Nat) (s : S), j < k → ss[j]? = some s → rightB vs s = true) ∧ Kept Nil W0 wr) (fun i _ => ss.length - (intOf i).toNat)
    case atStart => exact ⟨0, Nat.zero_le _, rfl, fun j s h => by omega, Kept.refl _ _⟩
    case round =>
      obtain ⟨k, hk, rfl, hall, hK⟩ := hrel
      have HALL := Lib.hid hall
      have HK := Lib.hid hK
      have q0 := (hK).cell G0.out (fun h => h)
      have q1 := (hK).cell G1.out (fun h => h)
      have q2 := (hK).cell G2.out (fun h => h)
      have q3 := (hK).cell G3.out (fun h => h)
      have hbx : w.heap.size < wr.heap.size := by have := HSZ.out; have := hK.size; omega
      clear hall hK
      by_cases hlt : k < ss.length
      · obtain ⟨s, es⟩ : ∃ s, ss[k]? = some s := ⟨_, List.getElem?_eq_getElem hlt⟩
        obtain ⟨b, off, e1, c0, c1, c2, c3, c4⟩ := (HP0.out.nil HK.out).s.at es
        simp only at e1
        subst e1
        have HES := Lib.hid es
        have hbs : b < wr.heap.size := World.block_lt_of_cell? _ _ c0
        clear es
        go_wp2_with fail
        refine region_tail 6 (by kernel_rfl) (by kernel_rfl) ?_
        simp only [List.take_succ_cons, List.take_zero, List.drop_succ_cons, List.drop_zero]
        repeat still_step
        refine wpStill_nil ?_
        go_wp2_with fail
        refine (RefRight_is _ s _ (HP0.out.nil HK.out.drew)).mono ?_
        rintro e w3 ⟨rfl, hk3⟩
        have HK3 := Lib.hid (HK.out.drew.step hk3)
        clear hk3
        cases hb : rightB vs s with
        | false =>
          have hr1 : r = (21, [], []) := by
            rw [← HRR.out]; unfold runP
            rw [if_neg (by simp [HLEN.out]), if_neg]
            intro h
            have := List.all_eq_true.1 h s (List.mem_of_getElem? HES.out)
            rw [hb] at this; cases this
          subst hr1
          go_wp2_with fail
          go_ret3
          exact ⟨_, _, rfl, RanR.nil _ _ _, HK0.out.step HK3.out⟩
        | true =>
          have HB := Lib.hid hb
          clear hb
          go_wp2_with fail
          go_round
          case measure => (simp [intOf] <;> omega)
          refine ⟨k + 1, by omega, by go_num, fun j u hj hu => ?_, HK3.out⟩
          by_cases e : j = k
          · subst e
            rw [HES.out] at hu; cases hu
            exact HB.out
          · exact HALL.out j u (by omega) hu
      · obtain rfl : k = ss.length := by omega
        have hallB : ss.all (rightB vs) = true := by
          rw [List.all_eq_true]
          intro s hs
          obtain ⟨j, hj⟩ := List.mem_iff_getElem?.1 hs
          exact HALL.out j s (List.getElem?_eq_some_iff.1 hj).1 hj
        have HAB := Lib.hid hallB
        clear hallB hlt hk
        obtain ⟨wa, hwa⟩ : ∃ x, x = wr := ⟨_, rfl⟩
        subst hwa
        go_wp2_with (at_builtin; refine stop_append _ _ _ rfl ?_)
        unfold StopA
        refine wpList_append_reads rfl _ _ 26 rfl W0.heap.size 2 j0 (.int .i64 0) 8 Try.underlying26 hjnf hy0 hy1 hy2 rfl (.slice (some ⟨wa.heap.size, 0, none⟩) 0 0) 0 [] rfl (World.ownsRow_lit wa #[] 0 HK.out.size (by decide) rfl) .i64 A cap vars rfl (reads_kept HR.out ((HK0.out.step HK.out).alloc _) (fun _ _ _ h => h)) HC.out (by unfold maxLen; omega) (by omega) (by have := HK.out.size; simp; omega) ?_
        intro v3 w3 hO3 hg3
        obtain ⟨A3, cp3, rfl⟩ := own_slice hO3
        simp only [Nat.zero_add] at hO3
        have hk3 : Kept Nil wa w3 := ((Kept.refl Nil wa).alloc _).grown hg3 (fun j e => .inr (by simp [Value.ownBlock] at e; omega))
        have hO3' : w3.ownsRow W0.heap.size 2 1 (.slice A3 vars.length cp3) vars.length (vars.map (Value.int .i64)) := by simpa using hO3
        have HO3 := Lib.hid hO3'
        have HK3 := Lib.hid (HK.out.step hk3)
        have hs3 := hk3.size
        clear hO3 hO3' hg3 hk3 q0 q1 q2 q3
        have q0 := (HK3.out).cell G0.out (fun h => h)
        have q1 := (HK3.out).cell G1.out (fun h => h)
        have q2 := (HK3.out).cell G2.out (fun h => h)
        have q3 := (HK3.out).cell G3.out (fun h => h)
        have hb3 : w.heap.size < w3.heap.size := by omega
        go_wp2_with fail
        have hR0 : RAt W0.heap.size vs value ss vars 0 (.slice A3 vars.length cp3) (.slice (some ⟨w3.heap.size, 0, none⟩) 0 0) (w3.alloc (.cells #[] 67)) :=
          ⟨vars, [], rfl, HO3.out.alloc _, World.ownsRow_lit w3 #[] 0 HK3.out.size (by decide) rfl, rfl, Nat.le_refl _, HI.out⟩
        have HR0 := Lib.hid hR0
        clear hR0 q0 q1 q2 q3
        go_loopw [11, 12] (fun sv i wr => ∃ k : Nat, k ≤ ss.length ∧ i = .int .i64 k ∧ RAt W0.heap.size vs value ss vars k (.slice A3 vars.length cp3) sv wr ∧ Kept Nil W0 wr) (fun _ i _ => ss.length - (intOf i).toNat)
        case atStart => exact ⟨0, Nat.zero_le _, rfl, HR0.out, HK3.out.alloc _⟩
        case round =>
          obtain ⟨k, hk, rfl, hA, hK⟩ := hrel
          have HAt := Lib.hid hA
          have HKr := Lib.hid hK
          have hszr := hK.size
          have hbr : w.heap.size < wr.heap.size := by have := HSZ.out; omega
          clear hA hK
          have q0 := (HKr.out).cell G0.out (fun h => h)
          have q1 := (HKr.out).cell G1.out (fun h => h)
          have q2 := (HKr.out).cell G2.out (fun h => h)
          have q3 := (HKr.out).cell G3.out (fun h => h)
          by_cases hlt : k < ss.length
          · obtain ⟨s, es⟩ : ∃ s, ss[k]? = some s := ⟨_, List.getElem?_eq_getElem hlt⟩
            obtain ⟨b, off, e1, c0, c1, c2, c3, c4⟩ := (HP0.out.nil HKr.out).s.at es
            simp only at e1
            subst e1
            have HES := Lib.hid es
            have hbs : b < wr.heap.size := World.block_lt_of_cell? _ _ c0
            have hrt := right_parts (List.all_eq_true.1 HAB.out s (List.mem_of_getElem? es))
            have hsi : Sc.I64 s.an := HP.out.si s (List.mem_of_getElem? es)
            obtain ⟨now, sent, r1, r2, r3, r4, r5, r6⟩ := HAt.out.ex
            obtain ⟨n, hn⟩ : ∃ n, argV vs now value s = n := ⟨_, rfl⟩
            have hni : Sc.I64 n := by rw [← hn]; exact argV_i64 HV.out hsi r6
            have htk : runFrom vs value (ss.take (k + 1)) vars [] = stepP vs value now sent s := by
              rw [List.take_add_one, es, Option.toList_some, runFrom_snoc, r1, Option.bind_some]
            have hstop : stepP vs value now sent s = none → r = (30, [], []) := fun h => by
              rw [← HRR.out]; unfold runP
              rw [if_neg (by simp [HLEN.out]), if_pos HAB.out]
              have h9 := runFrom_append vs value (ss.take (k + 1)) (ss.drop (k + 1)) vars []
              rw [List.take_append_drop, htk, h, Option.bind_none] at h9
              simp only [h9]
            obtain ⟨k0, nm, ak, an, as_⟩ := s
            simp only at hrt hsi c0 c1 c2 c3 c4
            have HRT := Lib.hid hrt
            have R1 := Lib.hid r1
            have R2 := Lib.hid r2
            have R3 := Lib.hid r3
            have R4 := Lib.hid r4
            have R6 := Lib.hid r6
            have HN := Lib.hid hn
            have HNI := Lib.hid hni
            have HTK := Lib.hid htk
            have HST := Lib.hid hstop
            clear hrt hsi es r1 r2 r3 r4 r6 hn hni htk hstop
            obtain ⟨W2, hW2⟩ : ∃ W2, wr.alloc (.cells #[.int .i64 k0, .string nm, .int .i64 ak, .int .i64 an, .string as_] 47) = W2 := ⟨_, rfl⟩
            have hk2 : Kept Nil wr W2 := by rw [← hW2]; exact (Kept.refl Nil wr).alloc _
            have b0 : W2.cell? ⟨wr.heap.size, 0, none⟩ = some (.int .i64 k0) := by rw [← hW2]; simp
            have b1 : W2.cell? ⟨wr.heap.size, 1, none⟩ = some (.string nm) := by rw [← hW2]; simp
            have b2 : W2.cell? ⟨wr.heap.size, 2, none⟩ = some (.int .i64 ak) := by rw [← hW2]; simp
            have b3 : W2.cell? ⟨wr.heap.size, 3, none⟩ = some (.int .i64 an) := by rw [← hW2]; simp
            have b4 : W2.cell? ⟨wr.heap.size, 4, none⟩ = some (.string as_) := by rw [← hW2]; simp
            have hs2 : W2.heap.size = wr.heap.size + 1 := by rw [← hW2]; simp
            have HW2 := Lib.hid hW2
            have HK2 := Lib.hid (HKr.out.step hk2)
            have HKr2 := Lib.hid hk2
            have hbs2 : wr.heap.size < W2.heap.size := by omega
            have hbp2 : w.heap.size < W2.heap.size := by omega
            have B0 := Lib.hid b0
            have B1 := Lib.hid b1
            have B2 := Lib.hid b2
            have B3 := Lib.hid b3
            have B4 := Lib.hid b4
            clear hW2 hk2 b0 b1 b2 b3 b4 hs2
            go_upto_if 61 with fail
            rw [HW2.out]
            clear q0 q1 q2 q3 c0 c1 c2 c3 c4
            have q0 := (HK2.out).cell G0.out (fun h => h)
            have q1 := (HK2.out).cell G1.out (fun h => h)
            have q2 := (HK2.out).cell G2.out (fun h => h)
            have q3 := (HK2.out).cell G3.out (fun h => h)
            have b0 := B0.out
            have b1 := B1.out
            have b2 := B2.out
            have b3 := B3.out
            have b4 := B4.out

            by_cases h1 : ak = 1
            · obtain ⟨j, hx, hjl⟩ : ∃ j : Nat, varIx vs as_ = (j : Int) ∧ j < vs.length := by
                rcases varIx_cases vs as_ with h | ⟨j, _, h, h'⟩
                · rcases HRT.out.2.2.2.2.2 with h9 | h9
                  · exact absurd h1 h9
                  · omega
                · exact ⟨j, h, h'⟩
              have hjv : j < vars.length := by have := HLEN.out; omega
              have hjn : now[j]? = some n := by
                have h9 := HN.out
                unfold argV at h9
                simp only [if_pos h1] at h9
                rw [hx, Int.toNat_natCast] at h9
                obtain ⟨z, ez⟩ : ∃ z, now[j]? = some z := ⟨_, List.getElem?_eq_getElem (by have := R4.out; omega)⟩
                rw [ez] at h9 ⊢
                simpa using h9
              obtain ⟨g0, e3, _, _, _⟩ := own_addr R2.out (by omega)
              have hR2 := R2.out
              rw [e3] at hR2
              have cj : wr.cell? ⟨g0, j, none⟩ = some (.int .i64 n) := own_cell hR2 (by rw [List.getElem?_map, hjn]; rfl)
              have CJ := Lib.hid (HKr2.out.cell cj (fun h => h))
              have HX := Lib.hid hx
              have hjI : (j : Int) < (vars.length : Int) := by omega
              have h2b : (ak == 2) = false := by simp [h1]
              have h1b : (ak == 1) = true := by simp [h1]
              have H1 := Lib.hid h1
              subst e3
              clear hx hjn hR2 cj h1
              go_wp2_with fail
              refine (RefVar_is _ as_ W2 (HP0.out.nil HK2.out)).mono ?_
              rintro e w4 ⟨rfl, hk4⟩
              rw [show varIx _ _ = _ from HX.out]
              have cj4 := hk4.cell CJ.out (fun h => h)
              have HK4 := Lib.hid hk4
              have c2b := hk4.cell B2.out (fun h => h)
              have hbs4 : wr.heap.size < w4.heap.size := by have := hk4.size; omega
              clear hk4
              go_upto_if 73 with fail
              clear c2b
              clear q0 q1 q2 q3 b0 b1 b2 b3 b4 cj4
              obtain ⟨W5, hW5⟩ : ∃ x, x = w4 := ⟨_, rfl⟩
              subst hW5
              have HK25 := Lib.hid HK4.out
              have HK5 := Lib.hid (HK2.out.step HK4.out)
              have HKr5 := Lib.hid (HKr2.out.step HK4.out)
              have hbs5 : wr.heap.size < W5.heap.size := by have := HK4.out.size; omega
              have hbp5 : w.heap.size < W5.heap.size := by omega
              have R25 := Lib.hid (HKr5.out.own R2.out (fun _ _ h => h))
              have R35 := Lib.hid (HKr5.out.own R3.out (fun _ _ h => h))
              have q0 := (HK5.out).cell G0.out (fun h => h)
              have q1 := (HK5.out).cell G1.out (fun h => h)
              have q2 := (HK5.out).cell G2.out (fun h => h)
              have q3 := (HK5.out).cell G3.out (fun h => h)
              have b0 := (HK25.out).cell B0.out (fun h => h)
              have b1 := (HK25.out).cell B1.out (fun h => h)
              have b2 := (HK25.out).cell B2.out (fun h => h)
              have b3 := (HK25.out).cell B3.out (fun h => h)
              have b4 := (HK25.out).cell B4.out (fun h => h)
              by_cases h4 : k0 = 4
              · have HQ := Lib.hid (show runFrom vs value (ss.take (k + 1)) vars [] = some (now, sent ++ [(nm, n)]) by
                  rw [HTK.out]
                  simp [stepP, h4]
                  exact HN.out)
                have h4b : (k0 == 4) = true := by simp [h4]
                clear h4
                go_wp2_with (at_builtin; refine stop_append _ _ _ rfl ?_)
                unfold StopA
                refine wpList_append_own _ rfl _ _ 33 rfl W0.heap.size 67 i0 (.agg #[.string ⟨#[]⟩, .int .i64 0]) 2 24 Try.underlying33 hinf hz0 hz1 hz2 rfl (by decide) _ _ _ rfl (R35.out.alloc _) ⟨W5.heap.size, 0, none⟩ 1 1 [.string nm, .int .i64 n] rfl rfl (cells_new _ _ _) (by simp [Value.oneCell']) (by unfold maxLen; omega) (by omega) (by have := HK5.out.size; simp; omega) ?_
                intro sv' w6 hown' hgrow _
                have hk6 : Kept (fun i => u11.ownBlock = some i) W5 w6 := ((Kept.refl _ W5).alloc _).grown hgrow (fun j e => .inl e)
                have HR6 := Lib.hid (show RAt W0.heap.size vs value ss vars (k + 1) (.slice _ vars.length cp3) sv' w6 from
                  ⟨now, sent ++ [(nm, n)], HQ.out, hk6.own R25.out (fun i e h => own_apart R25.out R35.out (by decide) i e h), by simpa [sc] using hown', R4.out, by simp; omega, R6.out⟩)
                have HK6 := Lib.hid ((HK5.out.alloc (.cells #[.string nm, .int .i64 n] 67)).grown hgrow (fun j e => .inr (R35.out.lt j e).1))
                clear hown' hgrow hk6
                go_wp2_with fail
                go_round
                case measure => (simp [intOf] <;> omega)
                exact ⟨k + 1, by omega, by go_num, HR6.out, HK6.out⟩
              · obtain ⟨j, hx, hjl⟩ : ∃ j : Nat, varIx vs nm = (j : Int) ∧ j < vs.length := by
                  rcases varIx_cases vs nm with h | ⟨j, _, h, h'⟩
                  · rcases HRT.out.2.2.2.2.1 with h9 | h9
                    · exact absurd h9 h4
                    · omega
                  · exact ⟨j, h, h'⟩
                have hjv : j < vars.length := by have := HLEN.out; omega
                obtain ⟨x, ex⟩ : ∃ z, now[j]? = some z := ⟨_, List.getElem?_eq_getElem (by have := R4.out; omega)⟩
                obtain ⟨g, e3, _, hg1, hg2⟩ := own_addr R25.out (by omega)
                cases e3
                have CJ := Lib.hid (own_cell R25.out (j := j) (u := .int .i64 x) (by rw [List.getElem?_map, ex]; rfl))
                have hxi := R6.out x (List.mem_of_getElem? ex)
                have HXI := Lib.hid hxi
                have HX := Lib.hid hx
                have hjI : (j : Int) < (vars.length : Int) := by omega
                have h4b : (k0 == 4) = false := by simp [h4]
                have HS := Lib.hid (show stepP vs value now sent ⟨k0, nm, ak, an, as_⟩ = if k0 = 2 then if Sc.fits (x + n) = true then some (now.set j (x + n), sent) else none else if k0 = 3 then if Sc.fits (x * n) = true then some (now.set j (x * n), sent) else none else some (now.set j n, sent) by
                  unfold stepP
                  simp only [if_neg h4]
                  rw [HN.out, hx, Int.toNat_natCast, ex]
                  simp)
                clear hx ex h4 hxi
                go_wp2_with fail
                refine (RefVar_is _ nm W5 (HP0.out.nil HK5.out)).mono ?_
                rintro e w6 ⟨rfl, hk6⟩
                rw [show varIx _ _ = _ from HX.out]
                have cj := hk6.cell CJ.out (fun h => h)
                have b6 := hk6.cell b0 (fun h => h)
                have hgb6 := Nat.lt_of_lt_of_le hg2 hk6.size
                have hbs6 : wr.heap.size < w6.heap.size := by have := hk6.size; omega
                have R26 := Lib.hid (hk6.own R25.out (fun _ _ h => h))
                have R36 := Lib.hid (hk6.own R35.out (fun _ _ h => h))
                have fj := R26.out.frozenAt j
                have HK6 := Lib.hid (HK5.out.step hk6)
                clear hk6 q0 q1 q2 q3 b0 b1 b2 b3 b4
                by_cases h2 : k0 = 2
                · subst h2
                  go_wp2_with fail
                  refine (Sc.RAdd_calls x n _ HXI.out HNI.out).mono ?_
                  rintro e w7 ⟨rfl, rfl⟩
                  cases hf : Sc.fits (x + n) with
                  | true =>
                    rw [Sc.held_yes hf]
                    have HQ := Lib.hid (show runFrom vs value (ss.take (k + 1)) vars [] = some (now.set j (x + n), sent) by rw [HTK.out, HS.out]; simp [hf])
                    have hxx := Sc.fits_iff.1 hf
                    clear hf
                    go_wp2_with fail
                    go_round
                    case measure => (simp [intOf] <;> omega)
                    exact ⟨k + 1, by omega, by go_num, RAt.put R26.out R36.out HQ.out R4.out (by omega) R6.out hxx, HK6.out.setCell (.inr hg1) _⟩
                  | false =>
                    rw [Sc.held_no hf]
                    have hq : stepP vs value now sent ⟨2, nm, ak, an, as_⟩ = none := by rw [HS.out]; simp [hf]
                    clear hf
                    have HE := Lib.hid (HST.out hq)
                    clear hq
                    go_wp2_with fail
                    go_ret3
                    rw [HE.out]
                    exact ⟨_, _, rfl, RanR.nil _ _ _, HK0.out.step HK6.out⟩
                · have h2b : (k0 == 2) = false := by simp [h2]
                  by_cases h3 : k0 = 3
                  · subst h3
                    go_wp2_with fail
                    refine (Sc.RMul_calls x n _ HXI.out HNI.out).mono ?_
                    rintro e w7 ⟨rfl, rfl⟩
                    cases hf : Sc.fits (x * n) with
                    | true =>
                      rw [Sc.held_yes hf]
                      have HQ := Lib.hid (show runFrom vs value (ss.take (k + 1)) vars [] = some (now.set j (x * n), sent) by rw [HTK.out, HS.out]; simp [hf])
                      have hxx := Sc.fits_iff.1 hf
                      clear hf
                      go_wp2_with fail
                      go_round
                      case measure => (simp [intOf] <;> omega)
                      exact ⟨k + 1, by omega, by go_num, RAt.put R26.out R36.out HQ.out R4.out (by omega) R6.out hxx, HK6.out.setCell (.inr hg1) _⟩
                    | false =>
                      rw [Sc.held_no hf]
                      have hq : stepP vs value now sent ⟨3, nm, ak, an, as_⟩ = none := by rw [HS.out]; simp [hf]
                      clear hf
                      have HE := Lib.hid (HST.out hq)
                      clear hq
                      go_wp2_with fail
                      go_ret3
                      rw [HE.out]
                      exact ⟨_, _, rfl, RanR.nil _ _ _, HK0.out.step HK6.out⟩
                  · have h3b : (k0 == 3) = false := by simp [h3]
                    have HQ := Lib.hid (show runFrom vs value (ss.take (k + 1)) vars [] = some (now.set j n, sent) by rw [HTK.out, HS.out]; simp [h2, h3])
                    have hxx := HNI.out
                    clear h2 h3
                    go_wp2_with fail
                    go_round
                    case measure => (simp [intOf] <;> omega)
                    exact ⟨k + 1, by omega, by go_num, RAt.put R26.out R36.out HQ.out R4.out (by omega) R6.out hxx, HK6.out.setCell (.inr hg1) _⟩
            · have h1b : (ak == 1) = false := by simp [h1]
              clear q0 q1 q2 q3 b0 b1 b2 b3 b4
              obtain ⟨W5, hW5⟩ : ∃ x, x = W2 := ⟨_, rfl⟩
              subst hW5
              have HK25 := Lib.hid (Kept.refl Nil W5)
              have HK5 := Lib.hid HK2.out
              have HKr5 := Lib.hid HKr2.out
              have hbs5 : wr.heap.size < W5.heap.size := hbs2
              have hbp5 : w.heap.size < W5.heap.size := hbp2
              by_cases h2 : ak = 2
              · have h2b : (ak == 2) = true := by simp [h2]
                obtain rfl : value = n := by have := HN.out; unfold argV at this; simpa [h2] using this
                clear h1 h2
                have R25 := Lib.hid (HKr5.out.own R2.out (fun _ _ h => h))
                have R35 := Lib.hid (HKr5.out.own R3.out (fun _ _ h => h))
                have q0 := (HK5.out).cell G0.out (fun h => h)
                have q1 := (HK5.out).cell G1.out (fun h => h)
                have q2 := (HK5.out).cell G2.out (fun h => h)
                have q3 := (HK5.out).cell G3.out (fun h => h)
                have b0 := (HK25.out).cell B0.out (fun h => h)
                have b1 := (HK25.out).cell B1.out (fun h => h)
                have b2 := (HK25.out).cell B2.out (fun h => h)
                have b3 := (HK25.out).cell B3.out (fun h => h)
                have b4 := (HK25.out).cell B4.out (fun h => h)
                by_cases h4 : k0 = 4
                · have HQ := Lib.hid (show runFrom vs value (ss.take (k + 1)) vars [] = some (now, sent ++ [(nm, value)]) by
                    rw [HTK.out]
                    simp [stepP, h4]
                    exact HN.out)
                  have h4b : (k0 == 4) = true := by simp [h4]
                  clear h4
                  go_wp2_with (at_builtin; refine stop_append _ _ _ rfl ?_)
                  unfold StopA
                  refine wpList_append_own _ rfl _ _ 33 rfl W0.heap.size 67 i0 (.agg #[.string ⟨#[]⟩, .int .i64 0]) 2 24 Try.underlying33 hinf hz0 hz1 hz2 rfl (by decide) _ _ _ rfl (R35.out.alloc _) ⟨W5.heap.size, 0, none⟩ 1 1 [.string nm, .int .i64 value] rfl rfl (cells_new _ _ _) (by simp [Value.oneCell']) (by unfold maxLen; omega) (by omega) (by have := HK5.out.size; simp; omega) ?_
                  intro sv' w6 hown' hgrow _
                  have hk6 : Kept (fun i => u11.ownBlock = some i) W5 w6 := ((Kept.refl _ W5).alloc _).grown hgrow (fun j e => .inl e)
                  have HR6 := Lib.hid (show RAt W0.heap.size vs value ss vars (k + 1) (.slice _ vars.length cp3) sv' w6 from
                    ⟨now, sent ++ [(nm, value)], HQ.out, hk6.own R25.out (fun i e h => own_apart R25.out R35.out (by decide) i e h), by simpa [sc] using hown', R4.out, by simp; omega, R6.out⟩)
                  have HK6 := Lib.hid ((HK5.out.alloc (.cells #[.string nm, .int .i64 value] 67)).grown hgrow (fun j e => .inr (R35.out.lt j e).1))
                  clear hown' hgrow hk6
                  go_wp2_with fail
                  go_round
                  case measure => (simp [intOf] <;> omega)
                  exact ⟨k + 1, by omega, by go_num, HR6.out, HK6.out⟩
                · obtain ⟨j, hx, hjl⟩ : ∃ j : Nat, varIx vs nm = (j : Int) ∧ j < vs.length := by
                    rcases varIx_cases vs nm with h | ⟨j, _, h, h'⟩
                    · rcases HRT.out.2.2.2.2.1 with h9 | h9
                      · exact absurd h9 h4
                      · omega
                    · exact ⟨j, h, h'⟩
                  have hjv : j < vars.length := by have := HLEN.out; omega
                  obtain ⟨x, ex⟩ : ∃ z, now[j]? = some z := ⟨_, List.getElem?_eq_getElem (by have := R4.out; omega)⟩
                  obtain ⟨g, e3, _, hg1, hg2⟩ := own_addr R25.out (by omega)
                  cases e3
                  have CJ := Lib.hid (own_cell R25.out (j := j) (u := .int .i64 x) (by rw [List.getElem?_map, ex]; rfl))
                  have hxi := R6.out x (List.mem_of_getElem? ex)
                  have HXI := Lib.hid hxi
                  have HX := Lib.hid hx
                  have hjI : (j : Int) < (vars.length : Int) := by omega
                  have h4b : (k0 == 4) = false := by simp [h4]
                  have HS := Lib.hid (show stepP vs value now sent ⟨k0, nm, ak, an, as_⟩ = if k0 = 2 then if Sc.fits (x + value) = true then some (now.set j (x + value), sent) else none else if k0 = 3 then if Sc.fits (x * value) = true then some (now.set j (x * value), sent) else none else some (now.set j value, sent) by
                    unfold stepP
                    simp only [if_neg h4]
                    rw [HN.out, hx, Int.toNat_natCast, ex]
                    simp)
                  clear hx ex h4 hxi
                  go_wp2_with fail
                  refine (RefVar_is _ nm W5 (HP0.out.nil HK5.out)).mono ?_
                  rintro e w6 ⟨rfl, hk6⟩
                  rw [show varIx _ _ = _ from HX.out]
                  have cj := hk6.cell CJ.out (fun h => h)
                  have b6 := hk6.cell b0 (fun h => h)
                  have hgb6 := Nat.lt_of_lt_of_le hg2 hk6.size
                  have hbs6 : wr.heap.size < w6.heap.size := by have := hk6.size; omega
                  have R26 := Lib.hid (hk6.own R25.out (fun _ _ h => h))
                  have R36 := Lib.hid (hk6.own R35.out (fun _ _ h => h))
                  have fj := R26.out.frozenAt j
                  have HK6 := Lib.hid (HK5.out.step hk6)
                  clear hk6 q0 q1 q2 q3 b0 b1 b2 b3 b4
                  by_cases h2 : k0 = 2
                  · subst h2
                    go_wp2_with fail
                    refine (Sc.RAdd_calls x value _ HXI.out HNI.out).mono ?_
                    rintro e w7 ⟨rfl, rfl⟩
                    cases hf : Sc.fits (x + value) with
                    | true =>
                      rw [Sc.held_yes hf]
                      have HQ := Lib.hid (show runFrom vs value (ss.take (k + 1)) vars [] = some (now.set j (x + value), sent) by rw [HTK.out, HS.out]; simp [hf])
                      have hxx := Sc.fits_iff.1 hf
                      clear hf
                      go_wp2_with fail
                      go_round
                      case measure => (simp [intOf] <;> omega)
                      exact ⟨k + 1, by omega, by go_num, RAt.put R26.out R36.out HQ.out R4.out (by omega) R6.out hxx, HK6.out.setCell (.inr hg1) _⟩
                    | false =>
                      rw [Sc.held_no hf]
                      have hq : stepP vs value now sent ⟨2, nm, ak, an, as_⟩ = none := by rw [HS.out]; simp [hf]
                      clear hf
                      have HE := Lib.hid (HST.out hq)
                      clear hq
                      go_wp2_with fail
                      go_ret3
                      rw [HE.out]
                      exact ⟨_, _, rfl, RanR.nil _ _ _, HK0.out.step HK6.out⟩
                  · have h2b : (k0 == 2) = false := by simp [h2]
                    by_cases h3 : k0 = 3
                    · subst h3
                      go_wp2_with fail
                      refine (Sc.RMul_calls x value _ HXI.out HNI.out).mono ?_
                      rintro e w7 ⟨rfl, rfl⟩
                      cases hf : Sc.fits (x * value) with
                      | true =>
                        rw [Sc.held_yes hf]
                        have HQ := Lib.hid (show runFrom vs value (ss.take (k + 1)) vars [] = some (now.set j (x * value), sent) by rw [HTK.out, HS.out]; simp [hf])
                        have hxx := Sc.fits_iff.1 hf
                        clear hf
                        go_wp2_with fail
                        go_round
                        case measure => (simp [intOf] <;> omega)
                        exact ⟨k + 1, by omega, by go_num, RAt.put R26.out R36.out HQ.out R4.out (by omega) R6.out hxx, HK6.out.setCell (.inr hg1) _⟩
                      | false =>
                        rw [Sc.held_no hf]
                        have hq : stepP vs value now sent ⟨3, nm, ak, an, as_⟩ = none := by rw [HS.out]; simp [hf]
                        clear hf
                        have HE := Lib.hid (HST.out hq)
                        clear hq
                        go_wp2_with fail
                        go_ret3
                        rw [HE.out]
                        exact ⟨_, _, rfl, RanR.nil _ _ _, HK0.out.step HK6.out⟩
                    · have h3b : (k0 == 3) = false := by simp [h3]
                      have HQ := Lib.hid (show runFrom vs value (ss.take (k + 1)) vars [] = some (now.set j value, sent) by rw [HTK.out, HS.out]; simp [h2, h3])
                      have hxx := HNI.out
                      clear h2 h3
                      go_wp2_with fail
                      go_round
                      case measure => (simp [intOf] <;> omega)
                      exact ⟨k + 1, by omega, by go_num, RAt.put R26.out R36.out HQ.out R4.out (by omega) R6.out hxx, HK6.out.setCell (.inr hg1) _⟩
              · have h2b : (ak == 2) = false := by simp [h2]
                obtain rfl : an = n := by have := HN.out; unfold argV at this; simpa [h1, h2] using this
                clear h1 h2
                have R25 := Lib.hid (HKr5.out.own R2.out (fun _ _ h => h))
                have R35 := Lib.hid (HKr5.out.own R3.out (fun _ _ h => h))
                have q0 := (HK5.out).cell G0.out (fun h => h)
                have q1 := (HK5.out).cell G1.out (fun h => h)
                have q2 := (HK5.out).cell G2.out (fun h => h)
                have q3 := (HK5.out).cell G3.out (fun h => h)
                have b0 := (HK25.out).cell B0.out (fun h => h)
                have b1 := (HK25.out).cell B1.out (fun h => h)
                have b2 := (HK25.out).cell B2.out (fun h => h)
                have b3 := (HK25.out).cell B3.out (fun h => h)
                have b4 := (HK25.out).cell B4.out (fun h => h)
                by_cases h4 : k0 = 4
                · have HQ := Lib.hid (show runFrom vs value (ss.take (k + 1)) vars [] = some (now, sent ++ [(nm, an)]) by
                    rw [HTK.out]
                    simp [stepP, h4]
                    exact HN.out)
                  have h4b : (k0 == 4) = true := by simp [h4]
                  clear h4
                  go_wp2_with (at_builtin; refine stop_append _ _ _ rfl ?_)
                  unfold StopA
                  refine wpList_append_own _ rfl _ _ 33 rfl W0.heap.size 67 i0 (.agg #[.string ⟨#[]⟩, .int .i64 0]) 2 24 Try.underlying33 hinf hz0 hz1 hz2 rfl (by decide) _ _ _ rfl (R35.out.alloc _) ⟨W5.heap.size, 0, none⟩ 1 1 [.string nm, .int .i64 an] rfl rfl (cells_new _ _ _) (by simp [Value.oneCell']) (by unfold maxLen; omega) (by omega) (by have := HK5.out.size; simp; omega) ?_
                  intro sv' w6 hown' hgrow _
                  have hk6 : Kept (fun i => u11.ownBlock = some i) W5 w6 := ((Kept.refl _ W5).alloc _).grown hgrow (fun j e => .inl e)
                  have HR6 := Lib.hid (show RAt W0.heap.size vs value ss vars (k + 1) (.slice _ vars.length cp3) sv' w6 from
                    ⟨now, sent ++ [(nm, an)], HQ.out, hk6.own R25.out (fun i e h => own_apart R25.out R35.out (by decide) i e h), by simpa [sc] using hown', R4.out, by simp; omega, R6.out⟩)
                  have HK6 := Lib.hid ((HK5.out.alloc (.cells #[.string nm, .int .i64 an] 67)).grown hgrow (fun j e => .inr (R35.out.lt j e).1))
                  clear hown' hgrow hk6
                  go_wp2_with fail
                  go_round
                  case measure => (simp [intOf] <;> omega)
                  exact ⟨k + 1, by omega, by go_num, HR6.out, HK6.out⟩
                · obtain ⟨j, hx, hjl⟩ : ∃ j : Nat, varIx vs nm = (j : Int) ∧ j < vs.length := by
                    rcases varIx_cases vs nm with h | ⟨j, _, h, h'⟩
                    · rcases HRT.out.2.2.2.2.1 with h9 | h9
                      · exact absurd h9 h4
                      · omega
                    · exact ⟨j, h, h'⟩
                  have hjv : j < vars.length := by have := HLEN.out; omega
                  obtain ⟨x, ex⟩ : ∃ z, now[j]? = some z := ⟨_, List.getElem?_eq_getElem (by have := R4.out; omega)⟩
                  obtain ⟨g, e3, _, hg1, hg2⟩ := own_addr R25.out (by omega)
                  cases e3
                  have CJ := Lib.hid (own_cell R25.out (j := j) (u := .int .i64 x) (by rw [List.getElem?_map, ex]; rfl))
                  have hxi := R6.out x (List.mem_of_getElem? ex)
                  have HXI := Lib.hid hxi
                  have HX := Lib.hid hx
                  have hjI : (j : Int) < (vars.length : Int) := by omega
                  have h4b : (k0 == 4) = false := by simp [h4]
                  have HS := Lib.hid (show stepP vs value now sent ⟨k0, nm, ak, an, as_⟩ = if k0 = 2 then if Sc.fits (x + an) = true then some (now.set j (x + an), sent) else none else if k0 = 3 then if Sc.fits (x * an) = true then some (now.set j (x * an), sent) else none else some (now.set j an, sent) by
                    unfold stepP
                    simp only [if_neg h4]
                    rw [HN.out, hx, Int.toNat_natCast, ex]
                    simp)
                  clear hx ex h4 hxi
                  go_wp2_with fail
                  refine (RefVar_is _ nm W5 (HP0.out.nil HK5.out)).mono ?_
                  rintro e w6 ⟨rfl, hk6⟩
                  rw [show varIx _ _ = _ from HX.out]
                  have cj := hk6.cell CJ.out (fun h => h)
                  have b6 := hk6.cell b0 (fun h => h)
                  have hgb6 := Nat.lt_of_lt_of_le hg2 hk6.size
                  have hbs6 : wr.heap.size < w6.heap.size := by have := hk6.size; omega
                  have R26 := Lib.hid (hk6.own R25.out (fun _ _ h => h))
                  have R36 := Lib.hid (hk6.own R35.out (fun _ _ h => h))
                  have fj := R26.out.frozenAt j
                  have HK6 := Lib.hid (HK5.out.step hk6)
                  clear hk6 q0 q1 q2 q3 b0 b1 b2 b3 b4
                  by_cases h2 : k0 = 2
                  · subst h2
                    go_wp2_with fail
                    refine (Sc.RAdd_calls x an _ HXI.out HNI.out).mono ?_
                    rintro e w7 ⟨rfl, rfl⟩
                    cases hf : Sc.fits (x + an) with
                    | true =>
                      rw [Sc.held_yes hf]
                      have HQ := Lib.hid (show runFrom vs value (ss.take (k + 1)) vars [] = some (now.set j (x + an), sent) by rw [HTK.out, HS.out]; simp [hf])
                      have hxx := Sc.fits_iff.1 hf
                      clear hf
                      go_wp2_with fail
                      go_round
                      case measure => (simp [intOf] <;> omega)
                      exact ⟨k + 1, by omega, by go_num, RAt.put R26.out R36.out HQ.out R4.out (by omega) R6.out hxx, HK6.out.setCell (.inr hg1) _⟩
                    | false =>
                      rw [Sc.held_no hf]
                      have hq : stepP vs value now sent ⟨2, nm, ak, an, as_⟩ = none := by rw [HS.out]; simp [hf]
                      clear hf
                      have HE := Lib.hid (HST.out hq)
                      clear hq
                      go_wp2_with fail
                      go_ret3
                      rw [HE.out]
                      exact ⟨_, _, rfl, RanR.nil _ _ _, HK0.out.step HK6.out⟩
                  · have h2b : (k0 == 2) = false := by simp [h2]
                    by_cases h3 : k0 = 3
                    · subst h3
                      go_wp2_with fail
                      refine (Sc.RMul_calls x an _ HXI.out HNI.out).mono ?_
                      rintro e w7 ⟨rfl, rfl⟩
                      cases hf : Sc.fits (x * an) with
                      | true =>
                        rw [Sc.held_yes hf]
                        have HQ := Lib.hid (show runFrom vs value (ss.take (k + 1)) vars [] = some (now.set j (x * an), sent) by rw [HTK.out, HS.out]; simp [hf])
                        have hxx := Sc.fits_iff.1 hf
                        clear hf
                        go_wp2_with fail
                        go_round
                        case measure => (simp [intOf] <;> omega)
                        exact ⟨k + 1, by omega, by go_num, RAt.put R26.out R36.out HQ.out R4.out (by omega) R6.out hxx, HK6.out.setCell (.inr hg1) _⟩
                      | false =>
                        rw [Sc.held_no hf]
                        have hq : stepP vs value now sent ⟨3, nm, ak, an, as_⟩ = none := by rw [HS.out]; simp [hf]
                        clear hf
                        have HE := Lib.hid (HST.out hq)
                        clear hq
                        go_wp2_with fail
                        go_ret3
                        rw [HE.out]
                        exact ⟨_, _, rfl, RanR.nil _ _ _, HK0.out.step HK6.out⟩
                    · have h3b : (k0 == 3) = false := by simp [h3]
                      have HQ := Lib.hid (show runFrom vs value (ss.take (k + 1)) vars [] = some (now.set j an, sent) by rw [HTK.out, HS.out]; simp [h2, h3])
                      have hxx := HNI.out
                      clear h2 h3
                      go_wp2_with fail
                      go_round
                      case measure => (simp [intOf] <;> omega)
                      exact ⟨k + 1, by omega, by go_num, RAt.put R26.out R36.out HQ.out R4.out (by omega) R6.out hxx, HK6.out.setCell (.inr hg1) _⟩
          · obtain rfl : k = ss.length := by omega
            obtain ⟨now, sent, r1, r2, r3, r4, r5, r6⟩ := HAt.out.ex
            rw [List.take_length] at r1
            have HE := Lib.hid (show r = (0, now, sent) by
              rw [← HRR.out]; unfold runP
              rw [if_neg (by simp [HLEN.out]), if_pos HAB.out]
              simp only [r1])
            have hO1 := own_lower (base' := w.heap.size) r2 (fun i e => by have := (r2.lt i e).1; have := HSZ.out; omega)
            have hO2 := own_lower (base' := w.heap.size) r3 (fun i e => by have := (r3.lt i e).1; have := HSZ.out; omega)
            rw [← r4] at hO1
            have HE3 := Lib.hid (show Value.slice A3 vars.length cp3 = Value.slice A3 now.length cp3 by rw [r4])
            have HO1 := Lib.hid hO1
            have HO2 := Lib.hid hO2
            obtain ⟨As, cs, rfl⟩ := own_slice r3
            clear r1 r2 r3 r4 r5 r6 hO1 hO2
            go_wp2_with fail
            go_ret3
            rw [HE.out]
            exact ⟨_, _, by rw [HE3.out]; rfl, ⟨HO1.out, HO2.out⟩, HK0.out.step HKr.out⟩
  · have hlb : ((vars.length : Int) != (vs.length : Int)) = true := by simp; omega
    have hr1 : r = (1, [], []) := by rw [← HRR.out]; unfold runP; rw [if_pos hlen]
    subst hr1
    clear hlen
    unfold Pr.val
    go_enter Try.func10, Try.ntmps10
    go_wp2_with fail
    go_ret3
    exact ⟨_, _, rfl, RanR.nil _ _ _, by rw [HW0.out]; exact HK0.out⟩
end Go.Proofs.Ytnohhpinigkccaa.Mo
