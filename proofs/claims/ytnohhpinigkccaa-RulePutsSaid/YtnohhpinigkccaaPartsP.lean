/- What the statement RuleParts says of runs, plainly. -/
import Derived.Test.YtnohhpinigkccaaKeepsP
namespace Go.Proofs.Ytnohhpinigkccaa.Mo
open Go Go.RowKit Go.Maps Go.Shelf Go.Proofs.Ytnohhpinigkccaa.Lb
set_option linter.unusedVariables false
set_option linter.unusedSimpArgs false

theorem step_pre {vs : List V} {value : Int} {now : List Int} {pre sent : List Se} {s : S} : stepP vs value now (pre ++ sent) s = (stepP vs value now sent s).map (fun q => (q.1, pre ++ q.2)) := by
  unfold stepP
  by_cases h4 : s.kind = 4
  · simp [h4]
  · simp only [if_neg h4]
    split
    · split <;> rfl
    · split
      · split <;> rfl
      · rfl
theorem run_pre {vs : List V} {value : Int} {pre : List Se} : ∀ (ss : List S) (now : List Int) (sent : List Se), runFrom vs value ss now (pre ++ sent) = (runFrom vs value ss now sent).map (fun q => (q.1, pre ++ q.2))
  | [], now, sent => rfl
  | s :: ss, now, sent => by
    simp only [runFrom]
    rw [step_pre]
    cases stepP vs value now sent s with
    | none => rfl
    | some q => exact run_pre ss q.1 q.2
def withSteps (p : Pr) (sa : Option Addr) (ss : List S) (sc : Nat) : Pr := ⟨p.name, p.weight, p.va, p.vs, p.vc, sa, ss, sc⟩
theorem runP_zero {p : Pr} {vars : List Int} {value : Int} {q : List Int × List Se} (h1 : vars.length = p.vs.length) (h2 : p.ss.all (rightB p.vs) = true) (h3 : runFrom p.vs value p.ss vars [] = some q) : runP p vars value = (0, q.1, q.2) := by
  unfold runP
  rw [if_neg (by simp [h1]), if_pos h2, h3]
/-- Both parts, if the whole runs. -/
theorem parts {p : Pr} {vars : List Int} {value : Int} (m : Nat) (a1 a2 : Option Addr) (c1 c2 : Nat) (h : (runP p vars value).1 = 0) :
    ∃ x t u, runP (withSteps p a1 (p.ss.take m) c1) vars value = (0, x, t) ∧ runP (withSteps p a2 (p.ss.drop m) c2) x value = (0, (runP p vars value).2.1, u) ∧ (runP p vars value).2.2 = t ++ u ∧ x.length = vars.length := by
  obtain ⟨h1, h2, h3⟩ := runP_ok h
  have hall : (p.ss.take m).all (rightB p.vs) = true ∧ (p.ss.drop m).all (rightB p.vs) = true := by
    rw [← List.take_append_drop m p.ss, List.all_append, Bool.and_eq_true] at h2
    simpa using h2
  have h4 := h3
  rw [← List.take_append_drop m p.ss, runFrom_append] at h4
  cases hq : runFrom p.vs value (p.ss.take m) vars [] with
  | none => rw [hq] at h4; cases h4
  | some q =>
    rw [hq, Option.bind_some] at h4
    have h5 := run_pre (vs := p.vs) (value := value) (pre := q.2) (p.ss.drop m) q.1 []
    rw [List.append_nil, h4] at h5
    cases hz : runFrom p.vs value (p.ss.drop m) q.1 [] with
    | none => rw [hz] at h5; cases h5
    | some z =>
      rw [hz] at h5
      simp only [Option.map_some, Option.some.injEq] at h5
      have hxl := (run_sends hq).1
      refine ⟨q.1, q.2, z.2, runP_zero (p := withSteps p a1 (p.ss.take m) c1) h1 hall.1 hq, ?_, by rw [h5], hxl⟩
      rw [runP_zero (p := withSteps p a2 (p.ss.drop m) c2) (hxl.trans h1) hall.2 hz]
      rw [h5]
/-- The whole runs, if both parts do. -/
theorem whole {p : Pr} {vars : List Int} {value : Int} (m : Nat) (a1 a2 : Option Addr) (c1 c2 : Nat) (h : (runP (withSteps p a1 (p.ss.take m) c1) vars value).1 = 0) (h' : (runP (withSteps p a2 (p.ss.drop m) c2) (runP (withSteps p a1 (p.ss.take m) c1) vars value).2.1 value).1 = 0) : (runP p vars value).1 = 0 := by
  obtain ⟨h1, h2, h3⟩ := runP_ok h
  obtain ⟨_, k2, k3⟩ := runP_ok h'
  have h2' : p.ss.all (rightB p.vs) = true := by
    rw [← List.take_append_drop m p.ss, List.all_append, Bool.and_eq_true]
    exact ⟨h2, k2⟩
  generalize (runP (withSteps p a1 (p.ss.take m) c1) vars value).2 = q at *
  have h5 := run_pre (vs := p.vs) (value := value) (pre := q.2) (p.ss.drop m) q.1 []
  rw [List.append_nil] at h5
  obtain ⟨z, hz⟩ : ∃ z, runFrom p.vs value (p.ss.drop m) q.1 [] = some z := ⟨_, k3⟩
  rw [hz, Option.map_some] at h5
  have h7 := runFrom_append p.vs value (p.ss.take m) (p.ss.drop m) vars []
  rw [List.take_append_drop] at h7
  have h3' : runFrom p.vs value (p.ss.take m) vars [] = some q := h3
  rw [h3', Option.bind_some, h5] at h7
  rw [runP_zero (p := p) h1 h2' h7]
theorem step_i64 {vs : List V} {value : Int} {now : List Int} {sent : List Se} {s : S} {q : List Int × List Se} (h : stepP vs value now sent s = some q) (hv : Sc.I64 value) (hs : Sc.I64 s.an) (hn : ∀ z ∈ now, Sc.I64 z) : ∀ z ∈ q.1, Sc.I64 z := by
  have ha : Sc.I64 (argV vs now value s) := argV_i64 hv hs hn
  have key : ∀ (j : Nat) (x : Int), Sc.I64 x → ∀ z ∈ now.set j x, Sc.I64 z := fun j x hx z hz => by
    rcases List.mem_or_eq_of_mem_set hz with h | h
    · exact hn z h
    · subst h; exact hx
  unfold stepP at h
  by_cases h4 : s.kind = 4
  · rw [if_pos h4] at h; cases h; exact hn
  · rw [if_neg h4] at h
    split at h
    · split at h
      · rename_i hf; cases h; exact key _ _ (Sc.fits_iff.1 hf)
      · cases h
    · split at h
      · split at h
        · rename_i hf; cases h; exact key _ _ (Sc.fits_iff.1 hf)
        · cases h
      · cases h; exact key _ _ ha
theorem run_i64 {vs : List V} {value : Int} (hv : Sc.I64 value) : ∀ {ss : List S} {now : List Int} {sent : List Se} {q : List Int × List Se}, runFrom vs value ss now sent = some q → (∀ s ∈ ss, Sc.I64 s.an) → (∀ z ∈ now, Sc.I64 z) → ∀ z ∈ q.1, Sc.I64 z
  | [], now, sent, q, h, _, hn => by simp only [runFrom, Option.some.injEq] at h; subst h; exact hn
  | s :: ss, now, sent, q, h, hs, hn => by
    simp only [runFrom] at h
    cases hq : stepP vs value now sent s with
    | none => rw [hq] at h; cases h
    | some r =>
      rw [hq] at h
      exact run_i64 hv h (fun s' h' => hs s' (List.mem_cons_of_mem _ h')) (step_i64 hq hv (hs s (List.mem_cons_self ..)) hn)
theorem RSteps.take {w : World} {A : Option Addr} {ss : List S} (h : RSteps w A ss) (m : Nat) : RSteps w A (ss.take m) := by
  rcases h with h | ⟨b, off, h, hc⟩
  · exact .inl (by rw [h]; simp)
  · exact .inr ⟨b, off, h, fun j s hj => hc j s (by rw [List.getElem?_take] at hj; split at hj; exact hj; cases hj)⟩
theorem RSteps.drop {w : World} {A : Option Addr} {ss : List S} (h : RSteps w A ss) (m cp : Nat) (hm : m ≤ ss.length) (hc : ss.length ≤ cp) : RSteps w (if cp = m then A else A.map (·.add (m * 5))) (ss.drop m) := by
  by_cases e : m = ss.length
  · exact .inl (by rw [e]; simp)
  · rw [if_neg (by omega)]
    rcases h with h | ⟨b, off, h, hcl⟩
    · exact .inl (by rw [h]; simp)
    · refine .inr ⟨b, off + m * 5, by rw [h]; simp [Go.WideShapes.add_plain], fun j s hj => ?_⟩
      rw [List.getElem?_drop] at hj
      obtain ⟨h1, h2, h3, h4, h5⟩ := hcl (m + j) s hj
      have e0 : off + (m + j) * 5 = off + m * 5 + j * 5 := by rw [Nat.add_mul]; omega
      rw [e0] at h1 h2 h3 h4 h5
      exact ⟨h1, h2, h3, h4, h5⟩
end Go.Proofs.Ytnohhpinigkccaa.Mo
