/- What the check of a model is, plainly. -/
import Derived.Test.YthgbahlkflmgiaaModels
import Derived.Test.YthgbahlkflmgiaaFindP
import Derived.Test.YthgbahlkflmgiaaNameP
namespace Go.Proofs.Ythgbahlkflmgiaa.Mo
open Go Go.RowKit Go.Proofs.Ythgbahlkflmgiaa.Lb
set_option linter.unusedVariables false

def numB (n : Int) : Bool := decide (-1099511627776 ≤ n) && decide (n ≤ 1099511627776)
def wtB (ver n : Int) : Bool := (decide (1 ≤ n) && decide (n ≤ 1048576)) || ((n == 0) && decide (ver < 3))
/-- "value" -/
def reservedL : List UInt8 := [118, 97, 108, 117, 101]
def argC (vs : List V) (s : S) : Int :=
  if s.ak = 0 then if numB s.an = true then if s.as_.toList = [] then 0 else 21 else 23
  else if s.an ≠ 0 then 21
  else if s.ak = 1 then if varIx vs s.as_ < 0 then 4 else 0
  else if s.ak = 2 then if s.as_.toList = [] then 0 else 21
  else 0
def stepC (ls : List Lk) (p : Pr) (s : S) : Int :=
  if s.kind < 1 ∨ 4 < s.kind ∨ s.ak < 0 ∨ 2 < s.ak then 21
  else if s.kind = 4 then
    if findI (ls.map Lk.name) s.name < 0 then 4
    else if (ls[(findI (ls.map Lk.name) s.name).toNat]?.map (fun l => l.src.toList)) = some p.name.toList then argC p.vs s else 47
  else if varIx p.vs s.name < 0 then 4 else argC p.vs s
/-- The first that is not 0. -/
def firstC : List Int → Int
  | [] => 0
  | c :: cs => if c = 0 then firstC cs else c
def varC (vs : List V) (k : Nat) (v : V) : Int :=
  if rightName v.name = false ∨ v.name.toList = reservedL then 40
  else if varIx vs v.name ≠ (k : Int) then 5
  else if numB v.init = true then 0 else 23
def varsC (vs : List V) : Int := firstC (vs.mapIdx (varC vs))
def procC (m : Md) (i : Nat) (p : Pr) : Int :=
  if rightName p.name = false then 40
  else if findI (m.ps.map Pr.name) p.name ≠ (i : Int) then 5
  else if wtB m.version p.weight = false then 41
  else if 64 < p.vs.length ∨ 256 < p.ss.length then 3
  else if varsC p.vs ≠ 0 then varsC p.vs
  else firstC (p.ss.map (stepC m.ls p))
def linkC (m : Md) (i : Nat) (l : Lk) : Int :=
  if rightName l.name = false then 40
  else if findI (m.ls.map Lk.name) l.name ≠ (i : Int) then 5
  else if findI (m.ps.map Pr.name) l.src < 0 ∨ findI (m.ps.map Pr.name) l.dst < 0 then 4
  else if l.delay < 1 ∨ 1099511627776 < l.delay then 42
  else if wtB m.version l.weight = false then 41
  else 0
def eventC (m : Md) (e : Ev) : Int :=
  if findI (m.ps.map Pr.name) e.to < 0 then 4
  else if e.at_ < 0 ∨ 1099511627776 < e.at_ ∨ numB e.value = false then 23
  else 0
/-- The first fault, its place counted behind k. -/
def firstAt : List Int → Nat → Int × Int
  | [], _ => (0, 0)
  | c :: cs, k => if c = 0 then firstAt cs (k + 1) else (c, (k : Int) + 1)
def codesP (m : Md) : List Int := m.ps.mapIdx (procC m)
def codesL (m : Md) : List Int := m.ls.mapIdx (linkC m)
def codesE (m : Md) : List Int := m.es.map (eventC m)
def mdCheck (m : Md) : Int × Int :=
  if m.version < 1 ∨ 3 < m.version then (43, 0)
  else if 4096 < m.ps.length ∨ 16384 < m.ls.length ∨ 16384 < m.es.length then (3, 0)
  else if (firstAt (codesP m) 0).1 ≠ 0 then firstAt (codesP m) 0
  else if (firstAt (codesL m) m.ps.length).1 ≠ 0 then firstAt (codesL m) m.ps.length
  else firstAt (codesE m) (m.ps.length + m.ls.length)
theorem firstAt_pre : ∀ (xs : List Int) (k : Nat) {j : Nat} {c : Int}, (∀ i, i < j → xs[i]? = some 0) → xs[j]? = some c → c ≠ 0 → firstAt xs k = (c, (k : Int) + j + 1)
  | [], k, j, c, _, h, _ => by simp at h
  | x :: xs, k, 0, c, _, h, hc => by
    simp at h; subst h
    simp [firstAt, hc]
  | x :: xs, k, j + 1, c, hp, h, hc => by
    have h0 : x = 0 := by have := hp 0 (by omega); simpa using this
    subst h0
    have := firstAt_pre xs (k + 1) (j := j) (c := c) (fun i hi => by have := hp (i + 1) (by omega); simpa using this) (by simpa using h) hc
    simp only [firstAt, if_true]
    rw [this]
    congr 1
    omega
theorem firstAt_none : ∀ (xs : List Int) (k : Nat), (∀ c ∈ xs, c = 0) → firstAt xs k = (0, 0)
  | [], k, _ => rfl
  | x :: xs, k, h => by
    have h0 := h x (List.mem_cons_self ..)
    subst h0
    simp only [firstAt, if_true]
    exact firstAt_none xs (k + 1) (fun c hc => h c (List.mem_cons_of_mem _ hc))
theorem firstC_pre : ∀ (xs : List Int) {j : Nat} {c : Int}, (∀ i, i < j → xs[i]? = some 0) → xs[j]? = some c → c ≠ 0 → firstC xs = c
  | [], j, c, _, h, _ => by simp at h
  | x :: xs, 0, c, _, h, hc => by
    simp at h; subst h
    simp [firstC, hc]
  | x :: xs, j + 1, c, hp, h, hc => by
    have h0 : x = 0 := by have := hp 0 (by omega); simpa using this
    subst h0
    simp only [firstC, if_true]
    exact firstC_pre xs (j := j) (fun i hi => by have := hp (i + 1) (by omega); simpa using this) (by simpa using h) hc
theorem firstC_none : ∀ (xs : List Int), (∀ c ∈ xs, c = 0) → firstC xs = 0
  | [], _ => rfl
  | x :: xs, h => by
    have h0 := h x (List.mem_cons_self ..)
    subst h0
    simp only [firstC, if_true]
    exact firstC_none xs (fun c hc => h c (List.mem_cons_of_mem _ hc))
/-- All of a list's places, by their getElem?. -/
theorem all_zero {xs : List Int} (h : ∀ i, i < xs.length → xs[i]? = some 0) : ∀ c ∈ xs, c = 0 := fun c hc => by
  obtain ⟨i, hi⟩ := List.mem_iff_getElem?.1 hc
  rw [h i (List.getElem?_eq_some_iff.1 hi).1] at hi
  exact (Option.some.inj hi).symm
theorem varIx_find (vs : List V) (s : ByteArray) : varIx vs s = findI (vs.map V.name) s := by
  rcases findI_cases (vs.map V.name) s with ⟨h1, h2⟩ | ⟨k, t, h1, h2, h3, h4⟩
  · rw [h1]
    exact varIx_none fun i v hv => h2 _ (List.mem_map.2 ⟨v, List.mem_of_getElem? hv, rfl⟩)
  · rw [h1]
    rw [List.getElem?_map] at h2
    obtain ⟨v, hv, e⟩ := Option.map_eq_some_iff.1 h2
    subst e
    exact varIx_some (fun i u hi hu => h4 i u.name hi (by rw [List.getElem?_map, hu]; rfl)) hv h3
/-- The first places of names, as a map has them. -/
def ixF (ns : List ByteArray) (t : List UInt8) : Option Int := (ns.findIdx? (fun x => ky x == t)).map (fun (k : Nat) => (k : Int))
theorem ixF_nil (t : List UInt8) : ixF [] t = none := rfl
theorem ixF_snoc (ns : List ByteArray) (s : ByteArray) (t : List UInt8) : ixF (ns ++ [s]) t = if ixF ns (ky s) = none then (if t = ky s then some (ns.length : Int) else ixF ns t) else ixF ns t := by
  unfold ixF
  rw [List.findIdx?_append]
  by_cases e : t = ky s
  · subst e
    cases h : ns.findIdx? (fun x => ky x == ky s) with
    | none => simp [List.findIdx?_cons]
    | some k => simp
  · have e' : (ky s == t) = false := by simp; exact fun h => e h.symm
    cases h : ns.findIdx? (fun x => ky x == t) with
    | none => simp [List.findIdx?_cons, e', e]
    | some k => simp [e]
theorem findI_ixF (ns : List ByteArray) (s : ByteArray) : findI ns s = (ixF ns (ky s)).getD (-1) := by
  have e : (fun t : ByteArray => t.toList == s.toList) = (fun x => ky x == ky s) := by funext t; rw [ky_list, ky_list]
  unfold findI findS ixF
  rw [e]
  cases ns.findIdx? (fun x => ky x == ky s) <;> rfl
theorem ixF_some_iff (ns : List ByteArray) (s : ByteArray) : (ixF ns (ky s)).isSome = !decide (findI ns s < 0) := by
  rw [findI_ixF]
  cases h : ixF ns (ky s) with
  | none => rfl
  | some k =>
    unfold ixF at h
    obtain ⟨j, _, hj⟩ := Option.map_eq_some_iff.1 h
    subst hj
    simp
/-- No text of a model is longer than any may be. -/
structure SzP (p : Pr) : Prop where
  n : p.name.size ≤ maxLen
  v : ∀ v ∈ p.vs, v.name.size ≤ maxLen
  s : ∀ s ∈ p.ss, s.name.size ≤ maxLen
structure SzM (m : Md) : Prop where
  p : ∀ p ∈ m.ps, SzP p
  ln : ∀ l ∈ m.ls, l.name.size ≤ maxLen
  lsrc : ∀ l ∈ m.ls, l.src.size ≤ maxLen
  ldst : ∀ l ∈ m.ls, l.dst.size ≤ maxLen
  e : ∀ e ∈ m.es, e.to.size ≤ maxLen
theorem varsC_bad {vs : List V} {k : Nat} {v : V} {c : Int} (hall : ∀ (j : Nat) (u : V), j < k → vs[j]? = some u → varC vs j u = 0) (hk : vs[k]? = some v) (he : varC vs k v = c) (hc : c ≠ 0) : varsC vs = c := by
  refine firstC_pre _ (j := k) (fun i hi => ?_) ?_ hc
  · have hil : i < vs.length := Nat.lt_trans hi (List.getElem?_eq_some_iff.1 hk).1
    rw [List.getElem?_mapIdx, List.getElem?_eq_getElem hil, Option.map_some, hall i _ hi (List.getElem?_eq_getElem hil)]
  · rw [List.getElem?_mapIdx, hk, Option.map_some, he]
theorem varsC_ok {vs : List V} (hall : ∀ (j : Nat) (u : V), j < vs.length → vs[j]? = some u → varC vs j u = 0) : varsC vs = 0 := by
  refine firstC_none _ (all_zero fun i hi => ?_)
  have hil : i < vs.length := by simpa using hi
  rw [List.getElem?_mapIdx, List.getElem?_eq_getElem hil, Option.map_some, hall i _ hil (List.getElem?_eq_getElem hil)]
theorem procC_vars {m : Md} {i : Nat} {p : Pr} {c : Int} (h1 : rightName p.name = true) (h2 : findI (m.ps.map Pr.name) p.name = (i : Int)) (h3 : wtB m.version p.weight = true) (h4 : ¬ 64 < p.vs.length) (h5 : ¬ 256 < p.ss.length) (hv : varsC p.vs = c) (hc : c ≠ 0) : procC m i p = c := by
  unfold procC
  simp [h1, h2, h3, hv, hc]
  omega
theorem procC_steps {m : Md} {i : Nat} {p : Pr} (h1 : rightName p.name = true) (h2 : findI (m.ps.map Pr.name) p.name = (i : Int)) (h3 : wtB m.version p.weight = true) (h4 : ¬ 64 < p.vs.length) (h5 : ¬ 256 < p.ss.length) (hv : varsC p.vs = 0) : procC m i p = firstC (p.ss.map (stepC m.ls p)) := by
  unfold procC
  simp [h1, h2, h3, hv]
  omega
theorem stepsC_bad {ls : List Lk} {p : Pr} {ss : List S} {k : Nat} {s : S} {c : Int} (hall : ∀ (j : Nat) (u : S), j < k → ss[j]? = some u → stepC ls p u = 0) (hk : ss[k]? = some s) (he : stepC ls p s = c) (hc : c ≠ 0) : firstC (ss.map (stepC ls p)) = c := by
  refine firstC_pre _ (j := k) (fun i hi => ?_) ?_ hc
  · have hil : i < ss.length := Nat.lt_trans hi (List.getElem?_eq_some_iff.1 hk).1
    rw [List.getElem?_map, List.getElem?_eq_getElem hil, Option.map_some, hall i _ hi (List.getElem?_eq_getElem hil)]
  · rw [List.getElem?_map, hk, Option.map_some, he]
theorem stepsC_ok {ls : List Lk} {p : Pr} {ss : List S} (hall : ∀ (j : Nat) (u : S), j < ss.length → ss[j]? = some u → stepC ls p u = 0) : firstC (ss.map (stepC ls p)) = 0 := by
  refine firstC_none _ (all_zero fun i hi => ?_)
  have hil : i < ss.length := by simpa using hi
  rw [List.getElem?_map, List.getElem?_eq_getElem hil, Option.map_some, hall i _ hil (List.getElem?_eq_getElem hil)]
theorem first_mapIdx {α : Type} {f : Nat → α → Int} {xs : List α} {k a : Nat} {x : α} {c : Int} (hall : ∀ (j : Nat) (u : α), j < k → xs[j]? = some u → f j u = 0) (hk : xs[k]? = some x) (he : f k x = c) (hc : c ≠ 0) : firstAt (xs.mapIdx f) a = (c, (a : Int) + k + 1) := by
  refine firstAt_pre _ _ (j := k) (fun i hi => ?_) ?_ hc
  · have hil : i < xs.length := Nat.lt_trans hi (List.getElem?_eq_some_iff.1 hk).1
    rw [List.getElem?_mapIdx, List.getElem?_eq_getElem hil, Option.map_some, hall i _ hi (List.getElem?_eq_getElem hil)]
  · rw [List.getElem?_mapIdx, hk, Option.map_some, he]
theorem first_mapIdx_ok {α : Type} {f : Nat → α → Int} {xs : List α} {a : Nat} (hall : ∀ (j : Nat) (u : α), j < xs.length → xs[j]? = some u → f j u = 0) : firstAt (xs.mapIdx f) a = (0, 0) := by
  refine firstAt_none _ _ (all_zero fun i hi => ?_)
  have hil : i < xs.length := by simpa using hi
  rw [List.getElem?_mapIdx, List.getElem?_eq_getElem hil, Option.map_some, hall i _ hil (List.getElem?_eq_getElem hil)]
theorem codesE_idx (m : Md) : codesE m = m.es.mapIdx (fun _ e => eventC m e) := by
  unfold codesE
  apply List.ext_getElem?
  intro i
  rw [List.getElem?_map, List.getElem?_mapIdx]
theorem md_procs {m : Md} (hv : ¬ (m.version < 1 ∨ 3 < m.version)) (hn : ¬ (4096 < m.ps.length ∨ 16384 < m.ls.length ∨ 16384 < m.es.length)) {k : Nat} {p : Pr} {c : Int} (hall : ∀ (j : Nat) (u : Pr), j < k → m.ps[j]? = some u → procC m j u = 0) (hk : m.ps[k]? = some p) (he : procC m k p = c) (hc : c ≠ 0) : mdCheck m = (c, (k : Int) + 1) := by
  have h := first_mapIdx (f := procC m) (a := 0) hall hk he hc
  unfold mdCheck codesP
  rw [if_neg hv, if_neg hn, if_pos (by rw [h]; exact hc), h]
  simp
theorem md_links {m : Md} (hv : ¬ (m.version < 1 ∨ 3 < m.version)) (hn : ¬ (4096 < m.ps.length ∨ 16384 < m.ls.length ∨ 16384 < m.es.length)) (hp : ∀ (j : Nat) (u : Pr), j < m.ps.length → m.ps[j]? = some u → procC m j u = 0) {k : Nat} {l : Lk} {c : Int} (hall : ∀ (j : Nat) (u : Lk), j < k → m.ls[j]? = some u → linkC m j u = 0) (hk : m.ls[k]? = some l) (he : linkC m k l = c) (hc : c ≠ 0) : mdCheck m = (c, (m.ps.length : Int) + k + 1) := by
  have h0 := first_mapIdx_ok (f := procC m) (a := 0) hp
  have h := first_mapIdx (f := linkC m) (a := m.ps.length) hall hk he hc
  unfold mdCheck codesP codesL
  rw [if_neg hv, if_neg hn, if_neg (by rw [h0]; simp), if_pos (by rw [h]; exact hc), h]
theorem md_events {m : Md} (hv : ¬ (m.version < 1 ∨ 3 < m.version)) (hn : ¬ (4096 < m.ps.length ∨ 16384 < m.ls.length ∨ 16384 < m.es.length)) (hp : ∀ (j : Nat) (u : Pr), j < m.ps.length → m.ps[j]? = some u → procC m j u = 0) (hl : ∀ (j : Nat) (u : Lk), j < m.ls.length → m.ls[j]? = some u → linkC m j u = 0) {k : Nat} {e : Ev} {c : Int} (hall : ∀ (j : Nat) (u : Ev), j < k → m.es[j]? = some u → eventC m u = 0) (hk : m.es[k]? = some e) (he : eventC m e = c) (hc : c ≠ 0) : mdCheck m = (c, (m.ps.length : Int) + m.ls.length + k + 1) := by
  have h0 := first_mapIdx_ok (f := procC m) (a := 0) hp
  have h1 := first_mapIdx_ok (f := linkC m) (a := m.ps.length) hl
  have h := first_mapIdx (f := fun _ e => eventC m e) (a := m.ps.length + m.ls.length) hall hk he hc
  unfold mdCheck codesP codesL
  rw [if_neg hv, if_neg hn, if_neg (by rw [h0]; simp), if_neg (by rw [h1]; simp), codesE_idx, h]
  simp
theorem md_ok {m : Md} (hv : ¬ (m.version < 1 ∨ 3 < m.version)) (hn : ¬ (4096 < m.ps.length ∨ 16384 < m.ls.length ∨ 16384 < m.es.length)) (hp : ∀ (j : Nat) (u : Pr), j < m.ps.length → m.ps[j]? = some u → procC m j u = 0) (hl : ∀ (j : Nat) (u : Lk), j < m.ls.length → m.ls[j]? = some u → linkC m j u = 0) (he : ∀ (j : Nat) (u : Ev), j < m.es.length → m.es[j]? = some u → eventC m u = 0) : mdCheck m = (0, 0) := by
  have h0 := first_mapIdx_ok (f := procC m) (a := 0) hp
  have h1 := first_mapIdx_ok (f := linkC m) (a := m.ps.length) hl
  have h2 := first_mapIdx_ok (f := fun _ e => eventC m e) (a := m.ps.length + m.ls.length) he
  unfold mdCheck codesP codesL
  rw [if_neg hv, if_neg hn, if_neg (by rw [h0]; simp), if_neg (by rw [h1]; simp), codesE_idx, h2]
end Go.Proofs.Ythgbahlkflmgiaa.Mo
