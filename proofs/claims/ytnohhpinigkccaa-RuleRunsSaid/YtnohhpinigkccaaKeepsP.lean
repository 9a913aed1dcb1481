/- What the statement RuleKeeps says of a run, plainly. -/
import Derived.Test.YtnohhpinigkccaaRuleAlive
namespace Go.Proofs.Ytnohhpinigkccaa.Mo
open Go Go.RowKit Go.Maps Go.Shelf Go.Proofs.Ytnohhpinigkccaa.Lb
set_option linter.unusedVariables false
set_option linter.unusedSimpArgs false

def isSend (s : S) : Bool := s.kind == 4
def sendsN (ss : List S) : Nat := (ss.filter isSend).length
theorem sendsN_take (ss : List S) {k : Nat} {s : S} (h : ss[k]? = some s) : sendsN (ss.take (k + 1)) = if s.kind = 4 then sendsN (ss.take k) + 1 else sendsN (ss.take k) := by
  unfold sendsN
  rw [List.take_add_one, h, Option.toList_some, List.filter_append, List.length_append]
  by_cases e : s.kind = 4
  · simp [isSend, e]
  · simp [isSend, e]
theorem step_sends {vs : List V} {value : Int} {now : List Int} {sent : List Se} {s : S} {q : List Int × List Se} (h : stepP vs value now sent s = some q) : q.1.length = now.length ∧ q.2.length = sent.length + (if s.kind = 4 then 1 else 0) := by
  unfold stepP at h
  by_cases h4 : s.kind = 4
  · rw [if_pos h4] at h; cases h; simp [h4]
  · rw [if_neg h4] at h
    repeat' split at h
    all_goals (first | cases h | skip)
    all_goals simp [h4]
theorem step_stays {vs : List V} {value : Int} {now : List Int} {sent : List Se} {s : S} {q : List Int × List Se} (h : stepP vs value now sent s = some q) (i : Nat) (hi : s.kind = 4 ∨ (varIx vs s.name).toNat ≠ i) : q.1[i]? = now[i]? := by
  unfold stepP at h
  by_cases h4 : s.kind = 4
  · rw [if_pos h4] at h; cases h; rfl
  · have hne := hi.resolve_left h4
    rw [if_neg h4] at h
    repeat' split at h
    all_goals (first | cases h | skip)
    all_goals (simp only; rw [List.getElem?_set_ne hne])
theorem run_sends {vs : List V} {value : Int} : ∀ {ss : List S} {now : List Int} {sent : List Se} {q : List Int × List Se}, runFrom vs value ss now sent = some q → q.1.length = now.length ∧ q.2.length = sent.length + sendsN ss
  | [], now, sent, q, h => by simp only [runFrom, Option.some.injEq] at h; subst h; simp [sendsN]
  | s :: ss, now, sent, q, h => by
    simp only [runFrom] at h
    cases hs : stepP vs value now sent s with
    | none => rw [hs] at h; cases h
    | some r =>
      rw [hs] at h
      obtain ⟨h1, h2⟩ := step_sends hs
      obtain ⟨h3, h4⟩ := run_sends h
      refine ⟨h3.trans h1, ?_⟩
      rw [h4, h2]
      unfold sendsN
      by_cases e : s.kind = 4
      · simp [isSend, e]; omega
      · simp [isSend, e]
theorem run_stays {vs : List V} {value : Int} (i : Nat) : ∀ {ss : List S} {now : List Int} {sent : List Se} {q : List Int × List Se}, runFrom vs value ss now sent = some q → (∀ s ∈ ss, s.kind = 4 ∨ (varIx vs s.name).toNat ≠ i) → q.1[i]? = now[i]?
  | [], now, sent, q, h, _ => by simp only [runFrom, Option.some.injEq] at h; subst h; rfl
  | s :: ss, now, sent, q, h, hn => by
    simp only [runFrom] at h
    cases hs : stepP vs value now sent s with
    | none => rw [hs] at h; cases h
    | some r =>
      rw [hs] at h
      rw [run_stays i h (fun s' hs' => hn s' (List.mem_cons_of_mem _ hs')), step_stays hs i (hn s (List.mem_cons_self ..))]
theorem runP_err {p : Pr} {vars : List Int} {value : Int} (h : (runP p vars value).1 ≠ 0) : (runP p vars value).2.1 = [] ∧ (runP p vars value).2.2 = [] := by
  unfold runP at h ⊢
  by_cases hl : vars.length ≠ p.vs.length
  · rw [if_pos hl]; exact ⟨rfl, rfl⟩
  · rw [if_neg hl] at h ⊢
    by_cases ha : p.ss.all (rightB p.vs) = true
    · rw [if_pos ha] at h ⊢
      cases hq : runFrom p.vs value p.ss vars [] with
      | none => exact ⟨rfl, rfl⟩
      | some q => rw [hq] at h; exact absurd rfl h
    · rw [if_neg ha]; exact ⟨rfl, rfl⟩
theorem runP_ok {p : Pr} {vars : List Int} {value : Int} (h : (runP p vars value).1 = 0) : vars.length = p.vs.length ∧ p.ss.all (rightB p.vs) = true ∧ runFrom p.vs value p.ss vars [] = some (runP p vars value).2 := by
  unfold runP at *
  split at h
  · simp at h
  · rename_i hl
    split at h
    · rename_i ha
      split at h
      · simp at h
      · rename_i q hq
        exact ⟨Classical.byContradiction hl, ha, by rw [if_neg hl, if_pos ha, hq]⟩
    · simp at h
/-- A variable whose name no step writes stays. -/
theorem keeps {p : Pr} {vars : List Int} {value : Int} (h : (runP p vars value).1 = 0) {i : Nat} {v : V} (hv : p.vs[i]? = some v) (hn : ∀ t ∈ wNames p.ss, t.toList ≠ v.name.toList) : (runP p vars value).2.1[i]? = vars[i]? := by
  obtain ⟨h1, h2, h3⟩ := runP_ok h
  refine run_stays i h3 (fun s hs => ?_)
  by_cases h4 : s.kind = 4
  · exact .inl h4
  · refine .inr (fun e => ?_)
    have hr := right_parts (List.all_eq_true.1 h2 s hs)
    rcases varIx_cases p.vs s.name with hx | ⟨j, hj, hx, _⟩
    · have := hr.2.2.2.2.1; omega
    · obtain ⟨_, u, hu, hn2⟩ := ix_lt hj
      rw [hx, Int.toNat_natCast] at e
      subst e
      rw [hv] at hu; cases hu
      refine hn s.name ?_ hn2.symm
      unfold wNames
      refine List.mem_map.2 ⟨s, List.mem_filter.2 ⟨hs, ?_⟩, rfl⟩
      simp [wrote]; omega
/-- The place of a string. -/
def asV (ns : List ByteArray) : List V := ns.map (fun n => ⟨n, 0⟩)
def findIx (ns : List ByteArray) (s : ByteArray) : Int := varIx (asV ns) s
theorem asV_get (ns : List ByteArray) (i : Nat) : (asV ns)[i]? = ns[i]?.map (fun n => ⟨n, 0⟩) := by unfold asV; rw [List.getElem?_map]
theorem findIx_neg {ns : List ByteArray} {s : ByteArray} (h : findIx ns s < 0) : ∀ t ∈ ns, t.toList ≠ s.toList := by
  intro t ht e
  obtain ⟨i, hi, rfl⟩ := List.mem_iff_getElem.1 ht
  rcases varIx_cases (asV ns) s with hx | ⟨j, hj, hx, _⟩
  · unfold varIx at hx
    cases hq : ix? (asV ns) s with
    | some j => rw [hq] at hx; (simp [ixOf] at hx <;> omega)
    | none =>
      have : ∀ (l : List V) (k : Nat), ixFrom l s k = none → ∀ v ∈ l, v.name.toList ≠ s.toList := by
        intro l
        induction l with
        | nil => intro k _ v hv; cases hv
        | cons a l ih =>
          intro k hk v hv
          rw [ixFrom] at hk
          split at hk
          · cases hk
          · rename_i hne
            rcases List.mem_cons.1 hv with rfl | hv
            · exact hne
            · exact ih _ hk v hv
      exact this _ _ hq ⟨ns[i], 0⟩ (List.mem_map.2 ⟨ns[i], ht, rfl⟩) e
  · unfold findIx at h; omega
theorem dist_names {ns : List ByteArray} {s : ByteArray} (h : ∀ t ∈ dist ns, t.toList ≠ s.toList) : ∀ t ∈ ns, t.toList ≠ s.toList := by
  intro t ht e
  have : ky t ∈ (dist ns).map ky := (dist_mem _ _).2 (List.mem_map.2 ⟨t, ht, rfl⟩)
  obtain ⟨u, hu, hk⟩ := List.mem_map.1 this
  refine h u hu ?_
  rw [← e, ByteArray.toList_eq, ByteArray.toList_eq]
  exact hk
end Go.Proofs.Ytnohhpinigkccaa.Mo
