/- The walk of rule.Run. -/
import Derived.Test.YtnohhpinigkccaaStep
import Derived.Test.YtnohhpinigkccaaReads
import Derived.Laws.CopyOwn
import Derived.Laws.MakeOwn
namespace Go.Proofs.Ytnohhpinigkccaa.Mo
open Go Go.RowKit Go.Proofs.Ytnohhpinigkccaa.Lb
set_option linter.unusedVariables false
set_option linter.unusedSimpArgs false

def runFrom (vs : List V) (value : Int) : List S → List Int → List Se → Option (List Int × List Se)
  | [], now, sent => some (now, sent)
  | s :: ss, now, sent => match stepP vs value now sent s with
    | none => none
    | some q => runFrom vs value ss q.1 q.2
theorem runFrom_append (vs : List V) (value : Int) : ∀ (xs ys : List S) (now : List Int) (sent : List Se),
    runFrom vs value (xs ++ ys) now sent = (runFrom vs value xs now sent).bind (fun q => runFrom vs value ys q.1 q.2)
  | [], ys, now, sent => rfl
  | s :: xs, ys, now, sent => by
    simp only [List.cons_append, runFrom]
    cases stepP vs value now sent s with
    | none => rfl
    | some q => exact runFrom_append vs value xs ys q.1 q.2
theorem runFrom_snoc (vs : List V) (value : Int) (xs : List S) (s : S) (now : List Int) (sent : List Se) :
    runFrom vs value (xs ++ [s]) now sent = (runFrom vs value xs now sent).bind (fun q => stepP vs value q.1 q.2 s) := by
  rw [runFrom_append]
  congr 1
  funext q
  simp only [runFrom]
  cases stepP vs value q.1 q.2 s <;> rfl
theorem stepP_sent {vs : List V} {value : Int} {now : List Int} {sent : List Se} {s : S} {q : List Int × List Se} (h : stepP vs value now sent s = some q) : q.1.length = now.length ∧ q.2.length ≤ sent.length + 1 := by
  unfold stepP at h
  repeat' split at h
  all_goals (first | cases h | skip)
  all_goals simp
/-- What a run leaves: the error's number, the variables, what is sent. -/
def runP (p : Pr) (vars : List Int) (value : Int) : Int × List Int × List Se :=
  if vars.length ≠ p.vs.length then (1, [], [])
  else if p.ss.all (rightB p.vs) = true then
    match runFrom p.vs value p.ss vars [] with
    | none => (30, [], [])
    | some q => (0, q.1, q.2)
  else (21, [], [])
theorem infoI64 : (Try.prog.info? 2).map (fun i => (i.zero, i.size, i.bytes)) = some (some (.int .i64 0), 1, 8) := by kernel_rfl
def StopC (p : Prop) : Prop := p
theorem stop_copy {P : Program} {w : World} {ops : Array Oper} {rest : List Oper} {o : Oper} {a : Act} {Q : Exit → Act → World → Prop} (s x : Operand) (t u : TypeId)
    (ho : o.op = .call { callee := .builtin .copy, args := #[s, x], argTypes := #[t, u] }) (h : StopC (wpList P ops Q (o :: rest) a w)) : wpList P ops Q (o :: rest) a w := h
theorem take_ints (l : List Int) : (l.map (Value.int .i64)).toArray.toList.take (l.length * 1) = l.map (Value.int .i64) := List.take_of_length_le (by simp)
theorem splice_all {α : Type} (L cs : List α) (h : L.length = cs.length) : splice L 0 cs = cs := by
  unfold splice
  simp [← h]
/-- What the answer of a run is in memory. -/
def Ran (B : Nat) (w' : World) (u v : Value) (r : Int × List Int × List Se) : Prop :=
  w'.ownsRow B 2 1 u r.2.1.length (r.2.1.map (Value.int .i64)) ∧ w'.ownsRow B 54 2 v r.2.2.length (r.2.2.flatMap sc)
theorem Ran.nil (B : Nat) (w : World) (e : Int) : Ran B w (.slice none 0 0) (.slice none 0 0) (e, [], []) := ⟨World.ownsRow_nil _ _ _ _, World.ownsRow_nil _ _ _ _⟩
set_option maxHeartbeats 4000000 in
theorem Run_is (p : Pr) (A : Option Addr) (cap : Nat) (vars : List Int) (value : Int) (w : World) (hp : RProc w p) (hr : Sc.Reads w .i64 A vars) (hi : ∀ z ∈ vars, Sc.I64 z) (hv : Sc.I64 value) (hl : vars.length ≤ 1000) (hsl : p.ss.length ≤ 1000) :
    Calls Try.prog 9 #[p.val, .slice A vars.length cap, .int .i64 value] w fun e w' => ∃ u v, e = .returned (.tuple #[u, v, .int .i64 (runP p vars value).1]) ∧ Ran w.heap.size w' u v (runP p vars value) ∧ Kept Nil w w' := by
  obtain ⟨j0, hjnf, hy0, hy1, hy2⟩ := info_parts infoI64
  obtain ⟨pn, pw, va, vs, vc, sa, ss, pc_⟩ := p
  simp only at *
  have HP := Lib.hid hp
  have HR := Lib.hid hr
  have HI := Lib.hid hi
  have HV := Lib.hid hv
  obtain ⟨r, hrr⟩ : ∃ r, runP ⟨pn, pw, va, vs, vc, sa, ss, pc_⟩ vars value = r := ⟨_, rfl⟩
  rw [hrr]
  have HRR := Lib.hid hrr
  have hvl := hp.vl
  unfold maxLen at hvl
  clear hp hr hi hv hrr
  obtain ⟨W0, hW0⟩ : ∃ W0, w.alloc (.cells #[.string pn, .int .i64 pw, .slice va vs.length vc, .slice sa ss.length pc_] 25) = W0 := ⟨_, rfl⟩
  have hk0 : Kept Nil w W0 := by rw [← hW0]; exact (Kept.refl Nil w).alloc _
  have p0 : W0.cell? ⟨w.heap.size, 0, none⟩ = some (.string pn) := by rw [← hW0]; simp
  have p1 : W0.cell? ⟨w.heap.size, 1, none⟩ = some (.int .i64 pw) := by rw [← hW0]; simp
  have p2 : W0.cell? ⟨w.heap.size, 2, none⟩ = some (.slice va vs.length vc) := by rw [← hW0]; simp
  have p3 : W0.cell? ⟨w.heap.size, 3, none⟩ = some (.slice sa ss.length pc_) := by rw [← hW0]; simp
  have hsz : W0.heap.size = w.heap.size + 1 := by rw [← hW0]; simp
  have HW0 := Lib.hid hW0
  have HK0 := Lib.hid hk0
  have HP0 := Lib.hid (HP.out.nil hk0)
  have G0 := Lib.hid p0
  have G1 := Lib.hid p1
  have G2 := Lib.hid p2
  have G3 := Lib.hid p3
  have HSZ := Lib.hid hsz
  clear hW0 hk0 hsz p0 p1
  by_cases hlen : vars.length = vs.length
  · have hlb : ((vars.length : Int) != (vs.length : Int)) = false := by simp [hlen]
    have HLEN := Lib.hid hlen
    clear hlen
    unfold Pr.val
    go_enter Try.func9, Try.ntmps9
    go_wp2_with fail
    rw [HW0.out]
    go_loopw [24] (fun i wr => ∃ k : Nat, k ≤ ss.length ∧ i = .int .i64 k ∧ (∀ (j : Nat) (s : S), j < k → ss[j]? = some s → rightB vs s = true) ∧ Kept Nil W0 wr) (fun i _ => ss.length - (intOf i).toNat)
    case atStart => exact ⟨0, Nat.zero_le _, rfl, fun j s h => by omega, Kept.refl _ _⟩
    case round =>
      obtain ⟨k, hk, rfl, hall, hK⟩ := hrel
      have HALL := Lib.hid hall
      have HK := Lib.hid hK
      have q0 := hK.cell G0.out (fun h => h)
      have q1 := hK.cell G1.out (fun h => h)
      have q2 := hK.cell G2.out (fun h => h)
      have q3 := hK.cell G3.out (fun h => h)
      have hzz := hK.size
      have hbx : w.heap.size < wr.heap.size := by have := HSZ.out; omega
      clear hall hK
      by_cases hlt : k < ss.length
      · obtain ⟨s, es⟩ : ∃ s, ss[k]? = some s := ⟨_, List.getElem?_eq_getElem hlt⟩
        obtain ⟨b, off, e1, c0, c1, c2, c3, c4⟩ := (HP0.out.nil HK.out).s.at es
        simp only at e1
        subst e1
        have HES := Lib.hid es
        have hbs : b < wr.heap.size := World.block_lt_of_cell? _ _ c0
        clear es
        go_wp2_with fail
        refine (right_is _ s _ (HP0.out.nil (HK.out.alloc _))).mono ?_
        rintro e w3 ⟨rfl, hk3⟩
        have HK3 := Lib.hid ((HK.out.alloc (.cells #[.int .i64 s.kind, .string s.name, .int .i64 s.ak, .int .i64 s.an, .string s.as_] 47)).step hk3)
        clear hk3
        cases hb : rightB vs s with
        | false =>
          have hr1 : r = (21, [], []) := by
            rw [← HRR.out]; unfold runP
            rw [if_neg (by simp [HLEN.out]), if_neg]
            intro h
            have := List.all_eq_true.1 h s (List.mem_of_getElem? HES.out)
            rw [hb] at this; cases this
          subst hr1
          go_wp2_with fail
          go_ret3
          exact ⟨_, _, rfl, Ran.nil _ _ _, HK0.out.step HK3.out⟩
        | true =>
          have HB := Lib.hid hb
          clear hb
          go_wp2_with fail
          go_round
          case measure => (simp [intOf] <;> omega)
          refine ⟨k + 1, by omega, by go_num, fun j u hj hu => ?_, HK3.out⟩
          by_cases e : j = k
          · subst e; rw [HES.out] at hu; cases hu; exact HB.out
          · exact HALL.out j u (by omega) hu
      · obtain rfl : k = ss.length := by omega
        have hall : ss.all (rightB vs) = true := List.all_eq_true.2 (fun s hs => by
          obtain ⟨j, hj, rfl⟩ := List.mem_iff_getElem.1 hs
          exact HALL.out j _ hj (List.getElem?_eq_getElem hj))
        have hr1 : (match runFrom vs value ss vars [] with | none => ((30 : Int), ([] : List Int), ([] : List Se)) | some q => (0, q.1, q.2)) = r := by
          rw [← HRR.out]; unfold runP
          rw [if_neg (by simp [HLEN.out]), if_pos hall]
        have HR1 := Lib.hid hr1
        clear hall hr1 hlt hk
        obtain ⟨cur0, hcur⟩ : ∃ cur0, madeCells (Value.int .i64 0).cells (vars.length * 1) = cur0 := ⟨_, rfl⟩
        have hcl : cur0.toList.length = vars.length := by rw [← hcur]; simp [madeCells]
        have hmk := run_makeSlice (P := Try.prog) wr 26 2 j0 (.int .i64 0) Try.underlying26 hjnf hy0 .i64 .i64 (vars.length : Int) (vars.length : Int) (by omega) (Int.le_refl _) (by rw [hy1]; simp; omega) (by rw [hy2]; omega) (by omega)
        simp only [Int.toNat_natCast, hy1] at hmk
        rw [hcur] at hmk
        have HCL := Lib.hid hcl
        clear hcur hcl
        obtain ⟨wa, hwa⟩ : ∃ x, x = wr := ⟨_, rfl⟩
        subst hwa
        go_wp2_with (with_reducible refine stop_copy _ _ _ _ rfl ?_)
        unfold StopC
        clear hmk
        refine wpList_copy_splice rfl _ _ 26 26 rfl 2 Try.underlying26 (by kernel_rfl) (some ⟨wa.heap.size, 0, none⟩) A vars.length vars.length vars.length cap rfl rfl wa.heap.size 0 cur0.toList 2 (by rw [heap_new]) (vars.map (Value.int .i64)) (by simp) (fun hpos => ⟨rfl, ?_⟩) (by simp [HCL.out]) (fun v hv => by obtain ⟨z, _, rfl⟩ := List.mem_map.1 hv; rfl) wa.heap.size wa (((Kept.refl Nil wa).alloc _).toBelow) (Nat.le_refl _) ?_
        · rcases HR.out with h | ⟨b, off, h, hcell⟩
          · subst h; simp at hpos
          · refine ⟨_, h, fun j v hj => ?_⟩
            rw [Go.WideShapes.add_plain]
            rw [List.getElem?_map] at hj
            cases hz : vars[j]? with
            | none => rw [hz] at hj; cases hj
            | some z =>
              rw [hz] at hj; cases hj
              have h9 := hcell j (List.getElem?_eq_some_iff.1 hz).1
              rw [hz] at h9
              exact ((HK0.out.step HK.out).alloc _).cell h9 (fun h => h)
        intro w6 hg6 hb6
        have hk6 : Kept Nil wa w6 := Kept.of_below hb6 (Nat.le_refl _)
        have hg6' : w6.heap[wa.heap.size]? = some (.cells (vars.map (Value.int .i64)).toArray 2 (0, 0)) := by
          have h9 : w6.heap[wa.heap.size]? = some (.cells (splice cur0.toList 0 (vars.map (Value.int .i64))).toArray 2 (0, 0)) := hg6
          rw [splice_all _ _ (by rw [HCL.out]; simp)] at h9
          exact h9
        have hlt6 : wa.heap.size < w6.heap.size := (Array.getElem?_eq_some_iff.1 hg6').1
        have HKw := Lib.hid ((HK0.out.step HK.out).step hk6)
        have hszw := ((HK0.out.step HK.out)).size
        have HM := Lib.hid (show Mach (w6.alloc (.cells #[.string pn, .int .i64 pw, .slice va vs.length vc, .slice sa ss.length pc_, .slice (some ⟨wa.heap.size, 0, none⟩) vars.length vars.length, .int .i64 value, .slice none 0 0] 65)) w.heap.size w6.heap.size wa.heap.size vars.length ⟨pn, pw, va, vs, vc, sa, ss, pc_⟩ value vars (.slice none 0 0) [] from
          { bm := by omega
            hd := heap_new _ _
            own1 := ⟨by simp, .inr ⟨wa.heap.size, vars.length, (vars.map (Value.int .i64)).toArray, rfl, hszw, by rw [heap_old _ _ hlt6]; exact hg6', Nat.le_refl _, by unfold maxLen; omega, by simp, take_ints vars⟩⟩
            own2 := World.ownsRow_nil _ _ _ _
            neg := by omega
            nes := by simp [Value.ownBlock]
            negs := by simp [Value.ownBlock]
            hva := fun b off hne e => HP.out.v.low b off hne e
            hsa := fun b off hne e => HP.out.s.low b off hne e
            pr := HP.out.nil (HKw.out.alloc _)
            nl := HLEN.out
            ni := HI.out
            vi := HV.out })
        have g0 := hk6.cell q0 (fun h => h)
        have g1 := hk6.cell q1 (fun h => h)
        have g2 := hk6.cell q2 (fun h => h)
        have g3 := hk6.cell q3 (fun h => h)
        have hlw : w.heap.size < w6.heap.size := by omega
        clear hg6 hb6 hk6 hg6' q0 q1 q2 q3
        go_wp2_with fail
        go_loopw [47] (fun i w' => ∃ (k : Nat) (now : List Int) (sv : Value) (sent : List Se), k ≤ ss.length ∧ i = .int .i64 k ∧ runFrom vs value (ss.take k) vars [] = some (now, sent) ∧ sent.length ≤ k ∧ Mach w' w.heap.size w6.heap.size wa.heap.size vars.length ⟨pn, pw, va, vs, vc, sa, ss, pc_⟩ value now sv sent ∧ Kept Nil w w') (fun i _ => ss.length - (intOf i).toNat)
        case atStart => exact ⟨0, vars, _, [], Nat.zero_le _, rfl, rfl, Nat.le_refl _, HM.out, HKw.out.alloc _⟩
        case round =>
          obtain ⟨k, now, sv, sent, hk, rfl, hrun, hsl2, hM, hK⟩ := hrel
          have HRUN := Lib.hid hrun
          have HMk := Lib.hid hM
          have HKk := Lib.hid hK
          have hzk := hK.size
          clear hrun hM hK
          by_cases hlt : k < ss.length
          · obtain ⟨s, es⟩ : ∃ s, ss[k]? = some s := ⟨_, List.getElem?_eq_getElem hlt⟩
            obtain ⟨b, off, e1, c0, c1, c2, c3, c4⟩ := HMk.out.pr.s.at es
            simp only at e1
            subst e1
            have HES := Lib.hid es
            have hbs : b < wr.heap.size := World.block_lt_of_cell? _ _ c0
            have hka : Kept Nil wr (wr.alloc (.cells #[.int .i64 s.kind, .string s.name, .int .i64 s.ak, .int .i64 s.an, .string s.as_] 47)) := (Kept.refl Nil wr).alloc _
            have HKA := Lib.hid hka
            clear es hka
            go_wp2_with fail
            refine (step_is (HMk.out.nil HKA.out) s (HALL.out k s hlt HES.out) (by omega) (HP.out.si s (List.mem_of_getElem? HES.out))).mono ?_
            rintro e w8 ⟨ok, rfl, hk8, h1, h2⟩
            have HK8 := Lib.hid ((HKk.out.step HKA.out).trans hk8 (fun i h => .inr (HMk.out.own_base i h)))
            clear hk8
            cases ok with
            | true =>
              obtain ⟨now', sv', sent', hst, hM', _⟩ := h1 rfl
              have hrun' : runFrom vs value (ss.take (k + 1)) vars [] = some (now', sent') := by
                rw [List.take_add_one, HES.out, Option.toList_some, runFrom_snoc, HRUN.out]
                exact hst
              have hsn := (stepP_sent hst).2
              have HRUN' := Lib.hid hrun'
              have HM' := Lib.hid hM'
              have hsn' : sent'.length ≤ k + 1 := by simp only at hsn; omega
              clear h1 h2 hst hM' hrun' hsn
              go_wp2_with fail
              go_round
              case measure => (simp [intOf] <;> omega)
              exact ⟨k + 1, now', sv', sent', by omega, by go_num, HRUN'.out, hsn', HM'.out, HK8.out⟩
            | false =>
              have hst := h2 rfl
              have hr2 : r = (30, [], []) := by
                rw [← HR1.out]
                have h9 : runFrom vs value ss vars [] = none := by
                  have e9 : ss = ss.take k ++ (s :: ss.drop (k + 1)) := by
                    rw [← List.getElem?_eq_some_iff.1 HES.out |>.2, ← List.drop_eq_getElem_cons hlt, List.take_append_drop]
                  rw [e9, runFrom_append, HRUN.out]
                  simp only [Option.bind_some, runFrom]
                  rw [show stepP vs value now sent s = none from hst]
                rw [h9]
              subst hr2
              clear h1 h2 hst
              go_wp2_with fail
              go_ret3
              exact ⟨_, _, rfl, Ran.nil _ _ _, HK8.out⟩
          · obtain rfl : k = ss.length := by omega
            have hr2 : r = (0, now, sent) := by
              rw [← HR1.out]
              have h9 := HRUN.out
              rw [List.take_length] at h9
              rw [h9]
            subst hr2
            obtain ⟨_, _, _, _, d4, _, d6, _, dm⟩ := HMk.out.cells
            clear hlt hk
            go_wp2_with fail
            go_big_quiet (fail)
            go_wp2_with fail
            go_ret3
            exact ⟨_, _, rfl, ⟨HMk.out.own1, HMk.out.own2⟩, HKk.out.drewN _⟩
  · have hr1 : r = (1, [], []) := by rw [← HRR.out]; unfold runP; rw [if_pos hlen]
    subst hr1
    have hlb : ((vars.length : Int) != (vs.length : Int)) = true := by simp; omega
    clear hlen
    unfold Pr.val
    go_enter Try.func9, Try.ntmps9
    go_wp2_with fail
    go_ret3
    exact ⟨_, _, rfl, Ran.nil _ _ _, (by (repeat (first | exact Kept.refl _ _ | refine Kept.drew ?_ | refine Kept.alloc ?_ _)))⟩
end Go.Proofs.Ytnohhpinigkccaa.Mo
