/- Models, one up; the latest one; and those between: plain. Nothing of the program is named. -/
import Derived.Test.YthgbahlkflmgiaaOwn
import Derived.Test.YthgbahlkflmgiaaMdP
section
namespace Go.Proofs.Ythgbahlkflmgiaa.Mo
open Go Go.RowKit Go.Proofs.Ythgbahlkflmgiaa.Lb
set_option linter.unusedVariables false

theorem SameM.rfl' (m : Md) : SameM m m := ⟨rfl, SamePs.refl _, rfl, rfl⟩
theorem SamePs.symm {a b : List Pr} (h : SamePs a b) : SamePs b a := ⟨h.l.symm, fun j p q h1 h2 => (h.p j q p h2 h1).symm⟩
theorem SamePs.trans {a b c : List Pr} (h : SamePs a b) (k : SamePs b c) : SamePs a c := by
  refine ⟨h.l.trans k.l, fun j p q h1 h2 => ?_⟩
  have hj := (List.getElem?_eq_some_iff.1 h1).1
  obtain ⟨r, hr⟩ : ∃ r, b[j]? = some r := ⟨_, List.getElem?_eq_getElem (by rw [← h.l]; exact hj)⟩
  exact (h.p j p r h1 hr).trans (k.p j r q hr h2)
theorem SameM.symm {a b : Md} (h : SameM a b) : SameM b a := ⟨h.v.symm, h.p.symm, h.l.symm, h.e.symm⟩
theorem SameM.trans {a b c : Md} (h : SameM a b) (k : SameM b c) : SameM a c := ⟨h.v.trans k.v, h.p.trans k.p, h.l.trans k.l, h.e.trans k.e⟩
theorem SamePs.map {a b : List Pr} (h : SamePs a b) {β : Type} (f : Pr → β) (hf : ∀ p q, SameP p q → f p = f q) : a.map f = b.map f := by
  apply List.ext_getElem?
  intro j
  rw [List.getElem?_map, List.getElem?_map]
  by_cases hj : j < a.length
  · obtain ⟨p, hp⟩ : ∃ r, a[j]? = some r := ⟨_, List.getElem?_eq_getElem hj⟩
    obtain ⟨q, hq⟩ : ∃ r, b[j]? = some r := ⟨_, List.getElem?_eq_getElem (by rw [← h.l]; exact hj)⟩
    rw [hp, hq, Option.map_some, Option.map_some, hf p q (h.p j p q hp hq)]
  · rw [List.getElem?_eq_none (by omega), List.getElem?_eq_none (by rw [← h.l]; omega)]
theorem SamePs.names {a b : List Pr} (h : SamePs a b) : a.map Pr.name = b.map Pr.name := h.map Pr.name (fun _ _ k => k.n)
theorem SamePs.mapS {a b : List Pr} (h : SamePs a b) (f : Pr → Pr) (hf : ∀ p q, SameP p q → SameP (f p) (f q)) : SamePs (a.map f) (b.map f) := by
  refine ⟨by rw [List.length_map, List.length_map, h.l], fun j p q h1 h2 => ?_⟩
  rw [List.getElem?_map] at h1 h2
  obtain ⟨p', hp, rfl⟩ := Option.map_eq_some_iff.1 h1
  obtain ⟨q', hq, rfl⟩ := Option.map_eq_some_iff.1 h2
  exact hf _ _ (h.p j p' q' hp hq)
theorem procC_same {a b : Md} (h : SameM a b) (i : Nat) {p q : Pr} (k : SameP p q) : procC a i p = procC b i q := by
  have hs : (fun s => stepC a.ls p s) = fun s => stepC b.ls q s := by
    funext s
    unfold stepC
    rw [h.l, k.n, k.v]
  unfold procC
  rw [h.p.names, h.v, k.n, k.w, k.v, k.s]
  rw [show stepC a.ls p = stepC b.ls q from hs]
theorem linkC_same {a b : Md} (h : SameM a b) (i : Nat) (l : Lk) : linkC a i l = linkC b i l := by
  unfold linkC
  rw [h.p.names, h.v, h.l]
theorem eventC_same {a b : Md} (h : SameM a b) (e : Ev) : eventC a e = eventC b e := by
  unfold eventC
  rw [h.p.names]
theorem check_same {a b : Md} (h : SameM a b) : mdCheck a = mdCheck b := by
  have hP : codesP a = codesP b := by
    unfold codesP
    apply List.ext_getElem?
    intro j
    rw [List.getElem?_mapIdx, List.getElem?_mapIdx]
    by_cases hj : j < a.ps.length
    · obtain ⟨p, hp⟩ : ∃ r, a.ps[j]? = some r := ⟨_, List.getElem?_eq_getElem hj⟩
      obtain ⟨q, hq⟩ : ∃ r, b.ps[j]? = some r := ⟨_, List.getElem?_eq_getElem (by rw [← h.p.l]; exact hj)⟩
      rw [hp, hq, Option.map_some, Option.map_some, procC_same h j (h.p.p j p q hp hq)]
    · rw [List.getElem?_eq_none (by omega), List.getElem?_eq_none (by rw [← h.p.l]; omega)]
      rfl
  have hL : codesL a = codesL b := by
    unfold codesL
    rw [h.l]
    have : linkC a = linkC b := by funext i l; exact linkC_same h i l
    rw [this]
  have hE : codesE a = codesE b := by
    unfold codesE
    rw [h.e]
    have : eventC a = eventC b := by funext l; exact eventC_same h l
    rw [this]
  unfold mdCheck
  rw [hP, hL, hE, h.v, h.p.l, h.l, h.e]
/-- A model, one up: the fault, and the model. -/
def upF (m : Md) : Int × Int :=
  if (mdCheck m).1 ≠ 0 then mdCheck m
  else if m.version = 3 then (43, 0)
  else if m.version = 1 then (match m.ls.findIdx? overB with | some i => (30, (m.ps.length : Int) + (i : Int) + 1) | none => (0, 0))
  else (0, 0)
def upM (m : Md) : Md := if m.version = 1 then { m with version := 2, ls := m.ls.map dlL } else { m with version := 3, ps := m.ps.map wtP, ls := m.ls.map wtL }
theorem upF_same {a b : Md} (h : SameM a b) : upF a = upF b := by
  unfold upF
  rw [check_same h, h.v, h.l, h.p.l]
theorem wtP_same {p q : Pr} (h : SameP p q) : SameP (wtP p) (wtP q) := ⟨h.n, by simp only [wtP]; rw [h.w], h.v, h.s⟩
theorem upM_same {a b : Md} (h : SameM a b) : SameM (upM a) (upM b) := by
  unfold upM
  rw [h.v]
  split
  · exact ⟨rfl, h.p, by simp only; rw [h.l], h.e⟩
  · exact ⟨rfl, h.p.mapS _ (fun _ _ => wtP_same), by simp only; rw [h.l], h.e⟩
theorem wtB_wtI {v n : Int} (h : wtB v n = true) : wtB 3 (wtI n) = true := by
  unfold wtB wtI at *
  simp only [Bool.or_eq_true, Bool.and_eq_true, decide_eq_true_eq, beq_iff_eq] at *
  split <;> omega
theorem dl_names (ls : List Lk) (f : Lk → ByteArray) (hf : ∀ l, f (dlL l) = f l) : (ls.map dlL).map f = ls.map f := by
  rw [List.map_map]; congr 1; funext l; exact hf l
theorem wt_names (ls : List Lk) (f : Lk → ByteArray) (hf : ∀ l, f (wtL l) = f l) : (ls.map wtL).map f = ls.map f := by
  rw [List.map_map]; congr 1; funext l; exact hf l
theorem wt_pnames (ps : List Pr) : (ps.map wtP).map Pr.name = ps.map Pr.name := by
  rw [List.map_map]; rfl
theorem delays_right {m : Md} (h : MdRight m) (hv : m.version = 1) (ho : ∀ l ∈ m.ls, overB l = false) : MdRight { m with version := 2, ls := m.ls.map dlL } := by
  have e1 := dl_names m.ls Lk.name (fun _ => rfl)
  have e2 := dl_names m.ls Lk.src (fun _ => rfl)
  have hw : ∀ {n : Int}, wtB m.version n = true → wtB 2 n = true := by
    intro n hn
    rw [hv] at hn
    unfold wtB at *
    simp only [Bool.or_eq_true, Bool.and_eq_true, decide_eq_true_eq, beq_iff_eq] at *
    omega
  refine ⟨by simp, by have := h.n; simp only [List.length_map]; omega, fun j u hj => ?_, fun j u hj => ?_, fun j u hj => ?_⟩
  · have r := h.pr hj
    refine PrRight.zero ⟨r.n, r.f, hw r.w, r.l, r.v, ?_⟩
    have : (fun s => stepC (m.ls.map dlL) u s) = fun s => stepC m.ls u s := by funext s; exact stepC_congr e1 e2 u s
    show firstC (u.ss.map (fun s => stepC (m.ls.map dlL) u s)) = 0
    rw [this]
    exact r.s
  · simp only [List.getElem?_map] at hj
    obtain ⟨l, hl, rfl⟩ := Option.map_eq_some_iff.1 hj
    have r := h.lk hl
    have h9 := ho l (List.mem_of_getElem? hl)
    have hd := r.d
    refine LkRight.zero ⟨r.n, by simp only [e1]; exact r.f, r.e, ?_, hw r.w⟩
    unfold overB at h9
    simp only [decide_eq_false_iff_not] at h9
    simp only [dlL]
    omega
  · have r := h.ev hj
    exact EvRight.zero ⟨r.t, r.r⟩
theorem weights_right {m : Md} (h : MdRight m) : MdRight { m with version := 3, ps := m.ps.map wtP, ls := m.ls.map wtL } := by
  have e1 := wt_names m.ls Lk.name (fun _ => rfl)
  have e2 := wt_names m.ls Lk.src (fun _ => rfl)
  have e3 := wt_pnames m.ps
  refine ⟨by simp, by have := h.n; simp only [List.length_map]; omega, fun j u hj => ?_, fun j u hj => ?_, fun j u hj => ?_⟩
  · simp only [List.getElem?_map] at hj
    obtain ⟨p, hp, rfl⟩ := Option.map_eq_some_iff.1 hj
    have r := h.pr hp
    refine PrRight.zero ⟨r.n, by simp only [e3]; exact r.f, wtB_wtI r.w, r.l, r.v, ?_⟩
    have : (fun s => stepC (m.ls.map wtL) (wtP p) s) = fun s => stepC m.ls p s := by
      funext s
      rw [stepC_congr e1 e2]
      rfl
    show firstC (p.ss.map (fun s => stepC (m.ls.map wtL) (wtP p) s)) = 0
    rw [this]
    exact r.s
  · simp only [List.getElem?_map] at hj
    obtain ⟨l, hl, rfl⟩ := Option.map_eq_some_iff.1 hj
    have r := h.lk hl
    exact LkRight.zero ⟨r.n, by simp only [e1]; exact r.f, by simp only [e3]; exact r.e, r.d, wtB_wtI r.w⟩
  · have r := h.ev hj
    exact EvRight.zero ⟨by simp only [e3]; exact r.t, r.r⟩
theorem over_none {ls : List Lk} : ls.findIdx? overB = none ↔ ∀ l ∈ ls, overB l = false := by
  rw [List.findIdx?_eq_none_iff]
theorem up_cases {m : Md} (h : (upF m).1 = 0) : MdRight m ∧ ((m.version = 1 ∧ ∀ l ∈ m.ls, overB l = false) ∨ m.version = 2) ∧ upF m = (0, 0) := by
  unfold upF at *
  by_cases h0 : (mdCheck m).1 ≠ 0
  · rw [if_pos h0] at h; exact absurd h h0
  rw [if_neg h0] at h ⊢
  have hr := right_of (show (mdCheck m).1 = 0 by simpa using h0)
  have hv := hr.v
  by_cases h3 : m.version = 3
  · rw [if_pos h3] at h; simp at h
  rw [if_neg h3] at h ⊢
  by_cases h1 : m.version = 1
  · rw [if_pos h1] at h ⊢
    cases hf : m.ls.findIdx? overB with
    | some i => rw [hf] at h; simp at h
    | none => exact ⟨hr, .inl ⟨h1, over_none.1 hf⟩, rfl⟩
  · rw [if_neg h1]
    exact ⟨hr, .inr (by omega), rfl⟩
theorem up_right {m : Md} (h : (upF m).1 = 0) : MdRight (upM m) ∧ (upM m).version = m.version + 1 := by
  obtain ⟨hr, hc, _⟩ := up_cases h
  unfold upM
  rcases hc with ⟨h1, ho⟩ | h2
  · rw [if_pos h1]; exact ⟨delays_right hr h1 ho, by simp only; omega⟩
  · rw [if_neg (by omega)]; exact ⟨weights_right hr, by simp only; omega⟩
end Go.Proofs.Ythgbahlkflmgiaa.Mo
end
section
namespace Go.Proofs.Ythgbahlkflmgiaa.Mo
open Go Go.RowKit Go.Proofs.Ythgbahlkflmgiaa.Lb
set_option linter.unusedVariables false
/-- The latest version, with so many steps at most: the fault, and the model. -/
def latG : Nat → Md → (Int × Int) × Md
  | 0, m => ((0, 0), m)
  | k + 1, m => if m.version < 3 then (if (upF m).1 ≠ 0 then (upF m, m) else latG k (upM m)) else ((0, 0), m)
def latF (m : Md) : Int × Int := if (mdCheck m).1 ≠ 0 then mdCheck m else (latG 3 m).1
def latM (m : Md) : Md := (latG 3 m).2
theorem latG_same {a b : Md} (h : SameM a b) (k : Nat) : (latG k a).1 = (latG k b).1 ∧ SameM (latG k a).2 (latG k b).2 := by
  induction k generalizing a b with
  | zero => exact ⟨rfl, h⟩
  | succ k ih =>
    unfold latG
    rw [h.v, upF_same h]
    split
    · split
      · exact ⟨rfl, h⟩
      · exact ih (upM_same h)
    · exact ⟨rfl, h⟩
theorem latF_same {a b : Md} (h : SameM a b) : latF a = latF b := by
  unfold latF
  rw [check_same h, (latG_same h 3).1]
theorem latM_same {a b : Md} (h : SameM a b) : SameM (latM a) (latM b) := (latG_same h 3).2
theorem latG_done {k : Nat} {m : Md} (h : ¬ m.version < 3) : latG k m = ((0, 0), m) := by
  cases k with
  | zero => rfl
  | succ k => unfold latG; rw [if_neg h]
theorem latG_bad {k : Nat} {m : Md} (h : m.version < 3) (hu : (upF m).1 ≠ 0) : latG (k + 1) m = (upF m, m) := by
  conv => lhs; unfold latG
  rw [if_pos h, if_pos hu]
theorem latG_next {k : Nat} {m : Md} (h : m.version < 3) (hu : (upF m).1 = 0) : latG (k + 1) m = latG k (upM m) := by
  conv => lhs; unfold latG
  rw [if_pos h, if_neg (by simp [hu])]
/-- What stands between: a model on its way to its latest version. -/
structure Between (m c : Md) (k : Nat) : Prop where
  n : c.version + (k : Int) = m.version + 3
  r : MdRight c
  f : (latG k c).1 = (latG 3 m).1
  s : SameM (latG 3 m).2 (latG k c).2
theorem MdRight.same {a b : Md} (h : MdRight a) (hs : SameM a b) : MdRight b := right_of (by rw [← check_same hs, h.ok])
theorem Between.start {m c : Md} (hr : MdRight m) (h : SameM m c) : Between m c 3 :=
  ⟨by rw [h.v]; rfl, hr.same h, (latG_same h 3).1.symm, (latG_same h 3).2⟩
theorem Between.next {m c d : Md} {k : Nat} (hm : 1 ≤ m.version) (h : Between m c k) (hv : c.version < 3) (hu : (upF c).1 = 0) (hs : SameM (upM c) d) : ∃ j, k = j + 1 ∧ Between m d j := by
  have hk := h.n
  obtain ⟨j, rfl⟩ : ∃ j, k = j + 1 := ⟨k - 1, by omega⟩
  have hr := up_right hu
  have h1 := latG_next (k := j) hv hu
  refine ⟨j, rfl, ⟨?_, hr.1.same hs, ?_, ?_⟩⟩
  · rw [← hs.v, hr.2]; omega
  · rw [← h.f, h1, (latG_same hs j).1]
  · have h2 := h.s
    rw [h1] at h2
    exact h2.trans (latG_same hs j).2
theorem Between.done {m c : Md} {k : Nat} (h : Between m c k) (hc : (mdCheck m).1 = 0) (hv : ¬ c.version < 3) : latF m = (0, 0) ∧ SameM (latM m) c := by
  have h1 := h.f
  have h2 := h.s
  rw [latG_done hv] at h1 h2
  unfold latF latM
  rw [if_neg (by simp [hc]), ← h1]
  exact ⟨rfl, h2⟩
theorem Between.bad {m c : Md} {k : Nat} (hm : 1 ≤ m.version) (h : Between m c k) (hc : (mdCheck m).1 = 0) (hv : c.version < 3) (hu : (upF c).1 ≠ 0) : latF m = upF c := by
  have hk := h.n
  obtain ⟨j, rfl⟩ : ∃ j, k = j + 1 := ⟨k - 1, by omega⟩
  have h1 := h.f
  rw [latG_bad hv hu] at h1
  unfold latF
  rw [if_neg (by simp [hc]), ← h1]
end Go.Proofs.Ythgbahlkflmgiaa.Mo
end
section
namespace Go.Proofs.Ythgbahlkflmgiaa.Mo
open Go Go.RowKit Go.Proofs.Ythgbahlkflmgiaa.Lb
set_option linter.unusedVariables false
def wayL : Nat → Md → List Md
  | 0, _ => []
  | k + 1, m => m :: (if (upF m).1 ≠ 0 then [] else wayL k (upM m))
def waysL (m : Md) : List Md := if (mdCheck m).1 ≠ 0 then [] else wayL 3 m
structure SameMs (a b : List Md) : Prop where
  l : a.length = b.length
  p : ∀ (j : Nat) (p q : Md), a[j]? = some p → b[j]? = some q → SameM p q
theorem SameMs.refl (a : List Md) : SameMs a a := ⟨rfl, fun j p q h1 h2 => by rw [h1] at h2; cases h2; exact SameM.rfl' p⟩
theorem SameMs.cons {x y : Md} {a b : List Md} (h : SameM x y) (k : SameMs a b) : SameMs (x :: a) (y :: b) := by
  refine ⟨by simp [k.l], fun j p q h1 h2 => ?_⟩
  cases j with
  | zero => simp at h1 h2; subst h1; subst h2; exact h
  | succ j => simp at h1 h2; exact k.p j p q h1 h2
theorem SameMs.trans {a b c : List Md} (h : SameMs a b) (k : SameMs b c) : SameMs a c := by
  refine ⟨h.l.trans k.l, fun j p q h1 h2 => ?_⟩
  have hj := (List.getElem?_eq_some_iff.1 h1).1
  obtain ⟨r, hr⟩ : ∃ r, b[j]? = some r := ⟨_, List.getElem?_eq_getElem (by rw [← h.l]; exact hj)⟩
  exact (h.p j p r h1 hr).trans (k.p j r q hr h2)
theorem SameMs.append {a b c d : List Md} (h : SameMs a b) (k : SameMs c d) : SameMs (a ++ c) (b ++ d) := by
  induction a generalizing b with
  | nil => cases b with
    | nil => exact k
    | cons y b => have := h.l; simp at this
  | cons x a ih => cases b with
    | nil => have := h.l; simp at this
    | cons y b =>
      refine SameMs.cons (h.p 0 x y rfl rfl) (ih ⟨by have := h.l; simpa using this, fun j p q h1 h2 => h.p (j + 1) p q (by simpa using h1) (by simpa using h2)⟩)
theorem SameMs.take {a b : List Md} (h : SameMs a b) (n : Nat) : SameMs (a.take n) (b.take n) := by
  refine ⟨by simp [h.l], fun j p q h1 h2 => ?_⟩
  rw [List.getElem?_take] at h1 h2
  split at h1
  · rename_i hj
    rw [if_pos hj] at h2
    exact h.p j p q h1 h2
  · cases h1
theorem wayL_same {a b : Md} (h : SameM a b) (k : Nat) : SameMs (wayL k a) (wayL k b) := by
  induction k generalizing a b with
  | zero => exact SameMs.refl _
  | succ k ih =>
    unfold wayL
    refine SameMs.cons h ?_
    rw [upF_same h]
    split
    · exact SameMs.refl _
    · exact ih (upM_same h)
theorem waysL_same {a b : Md} (h : SameM a b) : SameMs (waysL a) (waysL b) := by
  unfold waysL
  rw [check_same h]
  split
  · exact SameMs.refl _
  · exact wayL_same h 3
def PreW (m : Md) (pre : List Md) : Prop := ∃ rest, SameMs (waysL m) (pre ++ rest)
theorem PreW.take {m : Md} {pre : List Md} (h : PreW m pre) : SameMs ((waysL m).take pre.length) pre := by
  obtain ⟨rest, h⟩ := h
  have := h.take pre.length
  rwa [List.take_left'] at this
  rfl
theorem wayL_len (k : Nat) (m : Md) : (wayL k m).length ≤ k := by
  induction k generalizing m with
  | zero => simp [wayL]
  | succ k ih =>
    unfold wayL
    simp only [List.length_cons]
    split
    · simp
    · have := ih (upM m); omega
theorem waysL_len (m : Md) : (waysL m).length ≤ 3 := by
  unfold waysL
  split
  · simp
  · exact wayL_len 3 m
theorem PreW.len {m : Md} {pre : List Md} (h : PreW m pre) : pre.length ≤ 3 := by
  obtain ⟨rest, h⟩ := h
  have h1 := h.l
  have h2 := waysL_len m
  rw [List.length_append] at h1
  omega
/-- c is the next to be handed out. -/
structure WayAt (m : Md) (pre : List Md) (c : Md) (k : Nat) : Prop where
  n : c.version + (k : Int) = m.version + 3
  r : MdRight c
  s : SameMs (waysL m) (pre ++ wayL k c)
theorem WayAt.start {m c : Md} (hr : MdRight m) (h : SameM m c) : WayAt m [] c 3 := by
  refine ⟨by rw [h.v]; rfl, hr.same h, ?_⟩
  unfold waysL
  rw [if_neg (by rw [hr.ok]; simp)]
  exact wayL_same h 3
theorem WayAt.pre {m c : Md} {pre : List Md} {k : Nat} (hm : 1 ≤ m.version) (h : WayAt m pre c k) : PreW m (pre ++ [c]) := by
  have hk := h.n
  have hv := h.r.v
  obtain ⟨j, rfl⟩ : ∃ j, k = j + 1 := ⟨k - 1, by omega⟩
  have h1 := h.s
  unfold wayL at h1
  exact ⟨_, by rw [List.append_assoc]; exact h1⟩
theorem WayAt.next {m c d : Md} {pre : List Md} {k : Nat} (hm : 1 ≤ m.version) (h : WayAt m pre c k) (hu : (upF c).1 = 0) (hs : SameM (upM c) d) : ∃ j, k = j + 1 ∧ WayAt m (pre ++ [c]) d j := by
  have hk := h.n
  have hv := h.r.v
  obtain ⟨j, rfl⟩ : ∃ j, k = j + 1 := ⟨k - 1, by omega⟩
  have hr := up_right hu
  have h1 := h.s
  unfold wayL at h1
  rw [if_neg (by simp [hu])] at h1
  refine ⟨j, rfl, ⟨by rw [← hs.v, hr.2]; omega, hr.1.same hs, ?_⟩⟩
  rw [List.append_assoc]
  exact h1.trans (SameMs.append (SameMs.refl _) (SameMs.cons (SameM.rfl' c) (wayL_same hs j)))
theorem WayAt.done {m c : Md} {pre : List Md} {k : Nat} (hm : 1 ≤ m.version) (h : WayAt m pre c k) (hu : (upF c).1 ≠ 0) : SameMs (waysL m) (pre ++ [c]) := by
  have hk := h.n
  have hv := h.r.v
  obtain ⟨j, rfl⟩ : ∃ j, k = j + 1 := ⟨k - 1, by omega⟩
  have h1 := h.s
  unfold wayL at h1
  rw [if_pos hu] at h1
  exact h1
theorem waysL_bad {m : Md} (h : (mdCheck m).1 ≠ 0) : SameMs (waysL m) [] := by
  unfold waysL
  rw [if_pos h]
  exact SameMs.refl _
/-- How far it is, from the cells of the model that stands next, and of the fault. -/
def wayM (a b : Value) (w : World) : Nat :=
  match a, b with
  | .pointer (some p), .pointer (some q) => if intOf ((w.cell? q).getD (.int .i64 1)) = 0 then 1 + (4 - intOf ((w.cell? p).getD (.int .i64 0))).toNat else 0
  | _, _ => 0
theorem wayM_go {p q : Addr} {w : World} {v : Int} (h1 : w.cell? q = some (.int .i64 0)) (h2 : w.cell? p = some (.int .i64 v)) : wayM (.pointer (some p)) (.pointer (some q)) w = 1 + (4 - v).toNat := by
  unfold wayM
  simp only
  rw [h1, h2]
  exact if_pos rfl
theorem wayM_stop {p q : Addr} {w : World} {c : Int} (h1 : w.cell? q = some (.int .i64 c)) (hc : c ≠ 0) : wayM (.pointer (some p)) (.pointer (some q)) w = 0 := by
  unfold wayM
  simp only
  rw [h1, if_neg (by simp [intOf, hc])]
end Go.Proofs.Ythgbahlkflmgiaa.Mo
end
