/- What the statement RulePuts says of a run, plainly. -/
import Derived.Test.YtnohhpinigkccaaPartsP
import Derived.Test.YtnohhpinigkccaaAppendS
namespace Go.Proofs.Ytnohhpinigkccaa.Mo
open Go Go.RowKit Go.Maps Go.Shelf Go.Proofs.Ytnohhpinigkccaa.Lb
set_option linter.unusedVariables false
set_option linter.unusedSimpArgs false

def putS (nm : ByteArray) : S := ⟨1, nm, 2, 0, ⟨#[]⟩⟩
def sendS (nm : ByteArray) : S := ⟨4, ⟨#[108]⟩, 1, 0, nm⟩
theorem puts {p : Pr} {vars : List Int} {value : Int} {nm : ByteArray} {j : Nat} (hj : varIx p.vs nm = (j : Int)) (hl : j < vars.length) (A : Option Addr) (c : Nat) (h : (runP p vars value).1 = 0) :
    runP (withSteps p A (p.ss ++ [putS nm, sendS nm]) c) vars value = (0, (runP p vars value).2.1.set j value, (runP p vars value).2.2 ++ [(ByteArray.mk #[108], value)]) := by
  obtain ⟨h1, h2, h3⟩ := runP_ok h
  have hnl := (run_sends h3).1
  have hr1 : rightB p.vs (putS nm) = true := by simp [rightB, putS, hj]
  have hr2 : rightB p.vs (sendS nm) = true := by simp [rightB, sendS, hj]
  generalize (runP p vars value).2 = q at *
  have h4 : runFrom p.vs value (p.ss ++ [putS nm, sendS nm]) vars [] = some (q.1.set j value, q.2 ++ [(ByteArray.mk #[108], value)]) := by
    have h3' : runFrom p.vs value p.ss vars [] = some q := h3
    rw [runFrom_append, h3', Option.bind_some]
    simp only [runFrom]
    have e1 : stepP p.vs value q.1 q.2 (putS nm) = some (q.1.set j value, q.2) := by simp [stepP, putS, argV, hj]
    rw [e1]
    simp only
    have e2 : stepP p.vs value (q.1.set j value) q.2 (sendS nm) = some (q.1.set j value, q.2 ++ [(ByteArray.mk #[108], value)]) := by
      simp [stepP, sendS, argV, hj, List.getElem?_set, hnl, hl]
    rw [e2]
  exact runP_zero (p := withSteps p A (p.ss ++ [putS nm, sendS nm]) c) (q := (q.1.set j value, q.2 ++ [(ByteArray.mk #[108], value)])) h1 (by simp [withSteps, hr1, hr2]; exact fun s hs => List.all_eq_true.1 h2 s hs) h4
theorem toList_inj {a b : ByteArray} (h : a.toList = b.toList) : a = b := by
  rw [ByteArray.toList_eq, ByteArray.toList_eq] at h
  cases a; cases b
  simp only at h
  have := Array.toList_inj.1 h
  rw [this]
theorem varIx_found {vs : List V} {nm : ByteArray} {m : Nat} {v : V} (h : vs[m]? = some v) (e : v.name = nm) : ∃ j : Nat, varIx vs nm = (j : Int) ∧ j < vs.length ∧ ∃ u, vs[j]? = some ⟨nm, u⟩ := by
  unfold varIx
  cases hx : ix? vs nm with
  | none =>
    exfalso
    have key : ∀ (vs : List V) (k m : Nat) (v : V), ixFrom vs nm k = none → vs[m]? = some v → v.name ≠ nm := by
      intro vs
      induction vs with
      | nil => intro k m v _ h; simp at h
      | cons u vs ih =>
        intro k m v hn h
        rw [ixFrom] at hn
        split at hn
        · cases hn
        · rename_i hne
          cases m with
          | zero => simp at h; subst h; exact fun e => hne (by rw [e])
          | succ m => exact ih (k + 1) m v hn (by simpa using h)
    exact key vs 0 m v hx h e
  | some j =>
    obtain ⟨h1, v', h2, h3⟩ := ix_lt hx
    refine ⟨j, rfl, h1, v'.init, ?_⟩
    rw [h2]
    obtain ⟨a, b⟩ := v'
    have := toList_inj h3
    simp only at this
    subst this
    rfl
theorem mod_of (n : Int) (len : Nat) (h0 : 0 ≤ n) (hl : 0 < len) : ∃ m : Nat, n.tmod (len : Int) = m ∧ m < len := by
  rw [Int.tmod_eq_emod_of_nonneg h0]
  have h1 := Int.emod_nonneg n (show (len : Int) ≠ 0 by omega)
  have h2 := Int.emod_lt_of_pos n (show 0 < (len : Int) by omega)
  exact ⟨(n % (len : Int)).toNat, by omega, by omega⟩
/-- The cells of a step. -/
def cellsS (s : S) : List Value := [.int .i64 s.kind, .string s.name, .int .i64 s.ak, .int .i64 s.an, .string s.as_]
theorem cellsS_len (ss : List S) : (ss.flatMap cellsS).length = ss.length * 5 := by
  induction ss with
  | nil => rfl
  | cons s ss ih => simp [List.flatMap_cons, ih, cellsS, Nat.add_mul]
theorem cellsS_one (ss : List S) : ∀ u ∈ ss.flatMap cellsS, u.oneCell' = true := fun u hu => by
  obtain ⟨e, _, he⟩ := List.mem_flatMap.1 hu
  simp only [cellsS, List.mem_cons, List.not_mem_nil, or_false] at he
  rcases he with rfl | rfl | rfl | rfl | rfl <;> rfl
theorem cellsS_at : ∀ (ss : List S) (j : Nat) (s : S), ss[j]? = some s → ∀ k, k < 5 → (ss.flatMap cellsS)[j * 5 + k]? = (cellsS s)[k]?
  | [], j, s, h, k, hk => by simp at h
  | t :: ss, 0, s, h, k, hk => by
    simp at h; subst h
    rw [List.flatMap_cons, List.getElem?_append_left (by simp [cellsS]; omega)]; simp
  | t :: ss, j + 1, s, h, k, hk => by
    rw [List.flatMap_cons, List.getElem?_append_right (by simp [cellsS]; omega)]
    rw [← cellsS_at ss j s (by simpa using h) k hk]
    congr 1; simp [cellsS]; omega
/-- Steps that lie in memory are a row to append. -/
theorem RSteps.src {w : World} {A : Option Addr} {ss : List S} {c : Nat} (h : RSteps w A ss) (hc : A = none → c = 0) : SrcRow w 5 (.slice A ss.length c) ss.length (ss.flatMap cellsS) := by
  cases A with
  | none =>
    rcases h with h | ⟨b, off, h, _⟩
    · subst h
      rw [hc rfl]; exact .inl ⟨rfl, rfl, rfl⟩
    · cases h
  | some ad =>
    refine .inr ⟨ad, c, rfl, cellsS_len ss, fun i u hu => ?_⟩
    have hi : i < (ss.flatMap cellsS).length := (List.getElem?_eq_some_iff.1 hu).1
    rw [cellsS_len] at hi
    rcases h with h | ⟨b, off, h, hcl⟩
    · subst h; simp at hi
    · cases h
      have hj : i / 5 < ss.length := Nat.div_lt_of_lt_mul (by omega)
      obtain ⟨s, es⟩ : ∃ s, ss[i / 5]? = some s := ⟨_, List.getElem?_eq_getElem hj⟩
      have hk : i % 5 < 5 := Nat.mod_lt _ (by decide)
      have e0 : i = i / 5 * 5 + i % 5 := by omega
      rw [e0, cellsS_at ss _ s es _ hk] at hu
      rw [Go.WideShapes.add_plain, e0]
      obtain ⟨c0, c1, c2, c3, c4⟩ := hcl _ s es
      have h5 : i % 5 = 0 ∨ i % 5 = 1 ∨ i % 5 = 2 ∨ i % 5 = 3 ∨ i % 5 = 4 := by omega
      rcases h5 with e | e | e | e | e <;> rw [e] at hu ⊢ <;> simp [cellsS] at hu <;> subst hu
      · exact c0
      · rw [← Nat.add_assoc]; exact c1
      · rw [← Nat.add_assoc]; exact c2
      · rw [← Nat.add_assoc]; exact c3
      · rw [← Nat.add_assoc]; exact c4
/-- A row of steps that a call owns, read. -/
theorem steps_of_own {w : World} {base : Nat} {v : Value} {ss : List S} (h : w.ownsRow base 47 5 v ss.length (ss.flatMap cellsS)) :
    ∃ A c, v = .slice A ss.length c ∧ RSteps w A ss ∧ ∀ b off, A = some ⟨b, off, none⟩ → base ≤ b := by
  rcases own_form h with ⟨e1, e2, e3⟩ | ⟨g, cap, e1, hb, _, _, _⟩
  · have : ss = [] := List.eq_nil_of_length_eq_zero e2
    subst this
    exact ⟨none, 0, e1, .inl rfl, fun b off h => by cases h⟩
  · subst e1
    refine ⟨_, _, rfl, .inr ⟨g, 0, rfl, fun j s hs => ?_⟩, fun b off e => by cases e; exact hb⟩
    have key : ∀ k, k < 5 → ∀ u, (cellsS s)[k]? = some u → w.cell? ⟨g, 0 + j * 5 + k, none⟩ = some u := fun k hk u hu => by
      have := own_cell (j := j * 5 + k) h (by rw [cellsS_at ss j s hs k hk]; exact hu)
      rw [Nat.zero_add]; exact this
    exact ⟨key 0 (by decide) _ rfl, key 1 (by decide) _ rfl, key 2 (by decide) _ rfl, key 3 (by decide) _ rfl, key 4 (by decide) _ rfl⟩
theorem own_lit0 {w : World} {B base : Nat} {e : TypeId} (hB : w.heap.size = B) (hb : base ≤ B) : (w.alloc (.cells #[] e)).ownsRow base e 5 (.slice (some ⟨B, 0, none⟩) 0 0) 0 [] := by
  subst hB
  exact World.ownsRow_lit w #[] 0 hb (by decide) rfl
theorem src2 {w : World} {B c : Nat} {cs : Array Value} {t : TypeId} {fr : Nat × Nat} {ss : List S} {n : Nat} (h : w.heap[B]? = some (.cells cs t fr)) (hc : cs.toList = ss.flatMap cellsS) (hn : ss.length = n) : SrcRow w 5 (.slice (some ⟨B, 0, none⟩) n c) n (ss.flatMap cellsS) := by
  subst hn
  refine .inr ⟨_, c, rfl, cellsS_len ss, fun j u hu => ?_⟩
  rw [← hc] at hu
  exact World.news_of_block h j u hu
theorem infoStep : (Try.prog.info? 47).map (fun i => (i.zero, i.size, i.bytes)) = some (some (.agg #[.int .i64 0, .string ⟨#[]⟩, .int .i64 0, .int .i64 0, .string ⟨#[]⟩]), 5, 56) := by kernel_rfl
abbrev zS : Value := .agg #[.int .i64 0, .string ⟨#[]⟩, .int .i64 0, .int .i64 0, .string ⟨#[]⟩]
end Go.Proofs.Ytnohhpinigkccaa.Mo
