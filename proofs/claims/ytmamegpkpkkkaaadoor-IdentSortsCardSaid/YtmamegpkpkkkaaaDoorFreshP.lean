/- Fresh names, names in order, plainly. Nothing of the program is named. -/
import Derived.Test.YtmamegpkpkkkaaaDoorFindP
import Derived.Test.YtmamegpkpkkkaaaDoorNameP
import Derived.Laws.Strings
namespace Go.Proofs.YtmamegpkpkkkaaaDoor.Mo
open Go Go.RowKit Go.Proofs.YtmamegpkpkkkaaaDoor.Lb
set_option linter.unusedVariables false
set_option linter.unusedSimpArgs false

theorem less_total : ∀ x y : List UInt8, (Op.bytesLess x y || x == y) = !Op.bytesLess y x
  | [], [] => by simp [Op.bytesLess]
  | [], b :: y => by simp [Op.bytesLess]
  | a :: x, [] => by simp [Op.bytesLess]
  | a :: x, b :: y => by
    have ih := less_total x y
    rw [Op.bytesLess, Op.bytesLess]
    by_cases h : a = b
    · subst h
      have e1 : (decide (a < a)) = false := by simp
      have e2 : (a == a) = true := by simp
      have e3 : ((a :: x) == (a :: x)) = true := by simp
      have e4 : ((a :: x) == (a :: y)) = (x == y) := by simp
      rw [e1, e2, e4]
      simpa using ih
    · have h' : ¬ b = a := fun e => h e.symm
      have e1 : (a == b) = false := by simp [h]
      have e2 : (b == a) = false := by simp [h']
      have e3 : ((a :: x) == (b :: y)) = false := by simp [h]
      rw [e1, e2, e3]
      by_cases hl : a < b
      · have h2 : ¬ b < a := by rw [UInt8.lt_iff_toNat_lt] at *; omega
        simp [hl, h2]
      · have h2 : b < a := by
          have hne : a.toNat ≠ b.toNat := fun e => h (UInt8.toNat_inj.1 e)
          rw [UInt8.lt_iff_toNat_lt] at *; omega
        simp [hl, h2]
/-- Each stands behind the one ahead. -/
def sortB (ns : List ByteArray) : Bool := (List.range ns.length).all (fun i => match ns[i]?, ns[i + 1]? with | some a, some b => Op.bytesLess a.toList b.toList | _, _ => true)
theorem sortB_true {ns : List ByteArray} (h : ∀ (i : Nat) (a b : ByteArray), ns[i]? = some a → ns[i + 1]? = some b → Op.bytesLess a.toList b.toList = true) : sortB ns = true := by
  unfold sortB
  rw [List.all_eq_true]
  intro i hi
  cases h1 : ns[i]? with
  | none => rfl
  | some a =>
    cases h2 : ns[i + 1]? with
    | none => rfl
    | some b => exact h i a b h1 h2
theorem sortB_at {ns : List ByteArray} (h : sortB ns = true) {i : Nat} {a b : ByteArray} (h1 : ns[i]? = some a) (h2 : ns[i + 1]? = some b) : Op.bytesLess a.toList b.toList = true := by
  unfold sortB at h
  rw [List.all_eq_true] at h
  have := h i (List.mem_range.2 (List.getElem?_eq_some_iff.1 h1).1)
  simpa only [h1, h2] using this
theorem sortB_false {ns : List ByteArray} {i : Nat} {a b : ByteArray} (h1 : ns[i]? = some a) (h2 : ns[i + 1]? = some b) (h : Op.bytesLess a.toList b.toList = false) : sortB ns = false := by
  cases hs : sortB ns with
  | false => rfl
  | true => have := sortB_at hs h1 h2; rw [h] at this; cases this
/-- The digits of a number below 100. -/
def dig (n : Nat) : List UInt8 := if n < 10 then [UInt8.ofNat (48 + n)] else [UInt8.ofNat (48 + n / 10), UInt8.ofNat (48 + n % 10)]
/-- The k-th candidate of a stem: itself, then with _2, _3 .. -/
def cand (stem : ByteArray) (k : Nat) : ByteArray := if k = 0 then stem else stem ++ ⟨#[95]⟩ ++ ⟨(dig (k + 1)).toArray⟩
theorem cand_list (stem : ByteArray) (k : Nat) : (cand stem (k + 1)).data.toList = stem.data.toList ++ 95 :: dig (k + 2) := by
  simp [cand, ByteArray.data_append]
theorem dig_inj : ∀ a b : Fin 100, dig a.1 = dig b.1 → a = b := by decide +kernel
theorem cand_inj {stem : ByteArray} {a b : Nat} (ha : a < 90) (hb : b < 90) (h : (cand stem a).data.toList = (cand stem b).data.toList) : a = b := by
  cases a with
  | zero =>
    cases b with
    | zero => rfl
    | succ b => rw [cand_list] at h; have := congrArg List.length h; simp [cand] at this
  | succ a =>
    cases b with
    | zero => rw [cand_list] at h; have := congrArg List.length h; simp [cand] at this
    | succ b =>
      rw [cand_list, cand_list] at h
      have h2 := List.append_cancel_left h
      have h3 := (List.cons.inj h2).2
      have := dig_inj ⟨a + 2, by omega⟩ ⟨b + 2, by omega⟩ h3
      have := congrArg Fin.val this
      simp only at this
      omega
theorem pigeon : ∀ (n : Nat) (g : Nat → Nat), (∀ i, i ≤ n → g i < n) → ∃ i j, i < j ∧ j ≤ n ∧ g i = g j
  | 0, g, h => absurd (h 0 (Nat.le_refl _)) (by omega)
  | n + 1, g, h => by
    by_cases hx : ∃ i, i ≤ n ∧ g i = g (n + 1)
    · obtain ⟨i, hi, e⟩ := hx
      exact ⟨i, n + 1, by omega, Nat.le_refl _, e⟩
    · have hx' : ∀ i, i ≤ n → g i ≠ g (n + 1) := fun i hi e => hx ⟨i, hi, e⟩
      obtain ⟨i, j, hij, hj, e⟩ := pigeon n (fun i => if g i = n then g (n + 1) else g i) (fun i hi => by
        have h1 := h i (by omega)
        have h2 := h (n + 1) (Nat.le_refl _)
        have h3 := hx' i hi
        show (if g i = n then g (n + 1) else g i) < n
        split <;> omega)
      refine ⟨i, j, hij, by omega, ?_⟩
      have e : (if g i = n then g (n + 1) else g i) = (if g j = n then g (n + 1) else g j) := e
      have h3 := hx' i (by omega)
      have h4 := hx' j hj
      split at e <;> split at e <;> omega
theorem findI_in {ns : List ByteArray} {s : ByteArray} (h : 0 ≤ findI ns s) : ∃ (k : Nat) (t : ByteArray), findI ns s = (k : Int) ∧ ns[k]? = some t ∧ t.toList = s.toList := by
  rcases findI_cases ns s with ⟨h1, _⟩ | ⟨k, t, h1, h2, h3, _⟩
  · rw [h1] at h; omega
  · exact ⟨k, t, h1, h2, h3⟩
/-- So many candidates that are used: so many names. -/
theorem used_le {ns : List ByteArray} {stem : ByteArray} {k : Nat} (hl : ns.length ≤ 80) (h : ∀ j, j ≤ k → 0 ≤ findI ns (cand stem j)) (hk : k ≤ ns.length) : k + 1 ≤ ns.length := by
  apply Classical.byContradiction
  intro hn
  obtain rfl : k = ns.length := by omega
  obtain ⟨i, j, hij, hj, e⟩ := pigeon ns.length (fun j => (findI ns (cand stem j)).toNat) (fun i hi => by
    obtain ⟨q, t, h1, h2, _⟩ := findI_in (h i hi)
    have := (List.getElem?_eq_some_iff.1 h2).1
    simp only [h1]
    omega)
  obtain ⟨q, t, h1, h2, h3⟩ := findI_in (h i (by omega))
  obtain ⟨q', t', h1', h2', h3'⟩ := findI_in (h j hj)
  simp only [h1, h1', Int.toNat_natCast] at e
  subst e
  rw [h2] at h2'
  cases h2'
  rw [h3] at h3'
  rw [ky_list, ky_list] at h3'
  have := cand_inj (by omega) (by omega) (show (cand stem i).data.toList = (cand stem j).data.toList from h3')
  omega
/-- The first candidate that is not used. -/
def freshK (ns : List ByteArray) (stem : ByteArray) : Nat := ((List.range (ns.length + 1)).find? (fun k => decide (findI ns (cand stem k) < 0))).getD 0
theorem freshK_eq {ns : List ByteArray} {stem : ByteArray} {k : Nat} (hk : k ≤ ns.length) (h0 : findI ns (cand stem k) < 0) (hj : ∀ j, j < k → 0 ≤ findI ns (cand stem j)) : freshK ns stem = k := by
  unfold freshK
  have : (List.range (ns.length + 1)).find? (fun k => decide (findI ns (cand stem k) < 0)) = some k := by
    rw [List.find?_range_eq_some]
    exact ⟨by simpa using h0, List.mem_range.2 (by omega), fun j hjk => by have := hj j hjk; simp; omega⟩
  rw [this]; rfl
theorem fresh_ex {ns : List ByteArray} {stem : ByteArray} (hl : ns.length ≤ 80) : ∃ k, k ≤ ns.length ∧ findI ns (cand stem k) < 0 ∧ ∀ j, j < k → 0 ≤ findI ns (cand stem j) := by
  have key : ∀ n, n ≤ ns.length → (∃ k, k ≤ n ∧ findI ns (cand stem k) < 0 ∧ ∀ j, j < k → 0 ≤ findI ns (cand stem j)) ∨ ∀ j, j ≤ n → 0 ≤ findI ns (cand stem j) := by
    intro n
    induction n with
    | zero =>
      intro _
      by_cases h : findI ns (cand stem 0) < 0
      · exact .inl ⟨0, Nat.le_refl _, h, fun j hj => by omega⟩
      · exact .inr fun j hj => by obtain rfl : j = 0 := by omega
                                  omega
    | succ n ih =>
      intro hn
      rcases ih (by omega) with ⟨k, h1, h2, h3⟩ | hall
      · exact .inl ⟨k, by omega, h2, h3⟩
      · by_cases h : findI ns (cand stem (n + 1)) < 0
        · exact .inl ⟨n + 1, Nat.le_refl _, h, fun j hj => hall j (by omega)⟩
        · exact .inr fun j hj => by
            by_cases e : j = n + 1
            · subst e; omega
            · exact hall j (by omega)
  rcases key ns.length (Nat.le_refl _) with ⟨k, h1, h2, h3⟩ | hall
  · exact ⟨k, h1, h2, h3⟩
  · have := used_le hl hall (Nat.le_refl _); omega
theorem freshK_is (ns : List ByteArray) (stem : ByteArray) (hl : ns.length ≤ 80) : freshK ns stem ≤ ns.length ∧ findI ns (cand stem (freshK ns stem)) < 0 ∧ ∀ j, j < freshK ns stem → 0 ≤ findI ns (cand stem j) := by
  obtain ⟨k, h1, h2, h3⟩ := fresh_ex (stem := stem) hl
  have e := freshK_eq h1 h2 h3
  rw [e]; exact ⟨h1, h2, h3⟩
/-- A fresh name, or none. -/
def freshB (ns : List ByteArray) (stem : ByteArray) : Bool := rightName stem && rightName (cand stem (freshK ns stem))
def freshS (ns : List ByteArray) (stem : ByteArray) : ByteArray := if freshB ns stem = true then cand stem (freshK ns stem) else ⟨#[]⟩
def freshE (ns : List ByteArray) (stem : ByteArray) : Int := if freshB ns stem = true then 0 else 40
theorem dig_ok : ∀ n : Fin 100, (dig n.1).all (fun c => letterB c || otherB c) = true ∧ 1 ≤ (dig n.1).length ∧ (dig n.1).length ≤ 2 ∧ ((dig n.1).length = 1 ↔ n.1 < 10) := by decide +kernel
theorem right_cand {stem : ByteArray} {k : Nat} (h : rightName stem = true) (hk : k + 2 < 100) : rightName (cand stem (k + 1)) = decide (stem.size + 1 + (dig (k + 2)).length ≤ 64) := by
  have h0 := h
  unfold rightName rightList at h0 ⊢
  simp only [Bool.and_eq_true, decide_eq_true_eq] at h0
  obtain ⟨⟨⟨h1, h2⟩, h3⟩, h4⟩ := h0
  rw [cand_list]
  have hd := (dig_ok ⟨k + 2, hk⟩).1
  have hs := size_list stem
  cases hl : stem.data.toList with
  | nil => rw [hl] at h1; simp at h1
  | cons c l =>
    rw [hl] at h3 h4 h2 hs
    simp only [List.length_cons] at hs h2
    have e : ((c :: l) ++ 95 :: dig (k + 2)).all (fun c => letterB c || otherB c) = true := by
      rw [List.all_append, h4, List.all_cons, hd]; decide
    rw [e]
    simp only [List.cons_append, List.length_cons, List.length_append, h3, Bool.and_true]
    rw [← hs]
    by_cases hq : l.length + (List.length (dig (k + 2)) + 1) + 1 ≤ 64
    · have : l.length + 1 + 1 + (dig (k + 2)).length ≤ 64 := by omega
      simp [hq, this]
    · have : ¬ l.length + 1 + 1 + (dig (k + 2)).length ≤ 64 := by omega
      simp [hq, this]
theorem cand_bad {stem : ByteArray} {a b : Nat} (hs : rightName stem = true) (ha : rightName (cand stem a) = false) (hab : a ≤ b) (hb : b < 90) : rightName (cand stem b) = false := by
  cases a with
  | zero => rw [show cand stem 0 = stem from rfl, hs] at ha; cases ha
  | succ a =>
    cases b with
    | zero => omega
    | succ b =>
      rw [right_cand hs (by omega)] at ha ⊢
      have d1 := dig_ok ⟨a + 2, by omega⟩
      have d2 := dig_ok ⟨b + 2, by omega⟩
      simp only [decide_eq_false_iff_not] at ha ⊢
      have : (dig (a + 2)).length ≤ (dig (b + 2)).length := by
        have := d1.2.2.2; have := d2.2.2.2; have := d1.2.1; have := d1.2.2.1; have := d2.2.1; have := d2.2.2.1
        simp only at *
        omega
      omega
theorem fresh_bad {ns : List ByteArray} {stem : ByteArray} {k : Nat} (hl : ns.length ≤ 80) (hk : k ≤ freshK ns stem) (h : rightName (cand stem k) = false) : freshB ns stem = false := by
  unfold freshB
  cases hs : rightName stem with
  | false => rfl
  | true => rw [cand_bad hs h hk (by have := (freshK_is ns stem hl).1; omega)]; rfl
theorem fresh_good {ns : List ByteArray} {stem : ByteArray} {k : Nat} (hl : ns.length ≤ 80) (hk : k ≤ ns.length) (h0 : findI ns (cand stem k) < 0) (hj : ∀ j, j < k → 0 ≤ findI ns (cand stem j)) (hs : rightName stem = true) (h : rightName (cand stem k) = true) : freshB ns stem = true ∧ freshS ns stem = cand stem k := by
  have e := freshK_eq hk h0 hj
  have hb : freshB ns stem = true := by unfold freshB; rw [hs, e, h]; rfl
  exact ⟨hb, by unfold freshS; rw [if_pos hb, e]⟩
end Go.Proofs.YtmamegpkpkkkaaaDoor.Mo
