/- What the check of a model is, plainly; A model that came in, opened: how its parts lie, and their bounds; The rows of a model as rows of cells. -/
import Derived.Test.YtniocgnfgpaioaaGreatG2
import Derived.Test.YtniocgnfgpaioaaGreatG1
set_option linter.unusedVariables false
set_option linter.unusedSimpArgs false
section
namespace Go.Proofs.YtniocgnfgpaioaaGreat.Mo
open Go Go.RowKit Go.Proofs.YtniocgnfgpaioaaGreat.Lb

def numB (n : Int) : Bool := decide (-1099511627776 ≤ n) && decide (n ≤ 1099511627776)
def wtB (ver n : Int) : Bool := (decide (1 ≤ n) && decide (n ≤ 1048576)) || ((n == 0) && decide (ver < 3))
/-- "value" -/
def reservedL : List UInt8 := [118, 97, 108, 117, 101]
def argC (vs : List V) (s : S) : Int :=
 if s.ak = 0 then if numB s.an = true then if s.as_.toList = [] then 0 else 21 else 23
 else if s.an ≠ 0 then 21
 else if s.ak = 1 then if varIx vs s.as_ < 0 then 4 else 0
 else if s.ak = 2 then if s.as_.toList = [] then 0 else 21
 else 0
def stepC (ls : List Lk) (p : Pr) (s : S) : Int :=
 if s.kind < 1 ∨ 4 < s.kind ∨ s.ak < 0 ∨ 2 < s.ak then 21
 else if s.kind = 4 then
  if findI (ls.map Lk.name) s.name < 0 then 4
  else if (ls[(findI (ls.map Lk.name) s.name).toNat]?.map (fun l => l.src.toList)) = some p.name.toList then argC p.vs s else 47
 else if varIx p.vs s.name < 0 then 4 else argC p.vs s
/-- The first that is not 0. -/
def firstC : List Int → Int
 | [] => 0
 | c :: cs => if c = 0 then firstC cs else c
def varC (vs : List V) (k : Nat) (v : V) : Int :=
 if rightName v.name = false ∨ v.name.toList = reservedL then 40
 else if varIx vs v.name ≠ (k : Int) then 5
 else if numB v.init = true then 0 else 23
def varsC (vs : List V) : Int := firstC (vs.mapIdx (varC vs))
def procC (m : Md) (i : Nat) (p : Pr) : Int :=
 if rightName p.name = false then 40
 else if findI (m.ps.map Pr.name) p.name ≠ (i : Int) then 5
 else if wtB m.version p.weight = false then 41
 else if 64 < p.vs.length ∨ 256 < p.ss.length then 3
 else if varsC p.vs ≠ 0 then varsC p.vs
 else firstC (p.ss.map (stepC m.ls p))
def linkC (m : Md) (i : Nat) (l : Lk) : Int :=
 if rightName l.name = false then 40
 else if findI (m.ls.map Lk.name) l.name ≠ (i : Int) then 5
 else if findI (m.ps.map Pr.name) l.src < 0 ∨ findI (m.ps.map Pr.name) l.dst < 0 then 4
 else if l.delay < 1 ∨ 1099511627776 < l.delay then 42
 else if wtB m.version l.weight = false then 41
 else 0
def eventC (m : Md) (e : Ev) : Int :=
 if findI (m.ps.map Pr.name) e.to < 0 then 4
 else if e.at_ < 0 ∨ 1099511627776 < e.at_ ∨ numB e.value = false then 23
 else 0
/-- The first fault, its place counted behind k. -/
def firstAt : List Int → Nat → Int × Int
 | [], _ => (0, 0)
 | c :: cs, k => if c = 0 then firstAt cs (k + 1) else (c, (k : Int) + 1)
def codesP (m : Md) : List Int := m.ps.mapIdx (procC m)
def codesL (m : Md) : List Int := m.ls.mapIdx (linkC m)
def codesE (m : Md) : List Int := m.es.map (eventC m)
def mdCheck (m : Md) : Int × Int :=
 if m.version < 1 ∨ 3 < m.version then (43, 0)
 else if 4096 < m.ps.length ∨ 16384 < m.ls.length ∨ 16384 < m.es.length then (3, 0)
 else if (firstAt (codesP m) 0).1 ≠ 0 then firstAt (codesP m) 0
 else if (firstAt (codesL m) m.ps.length).1 ≠ 0 then firstAt (codesL m) m.ps.length
 else firstAt (codesE m) (m.ps.length + m.ls.length)
theorem firstAt_pre : ∀ (xs : List Int) (k : Nat) {j : Nat} {c : Int}, (∀ i, i < j → xs[i]? = some 0) → xs[j]? = some c → c ≠ 0 → firstAt xs k = (c, (k : Int) + j + 1)
 | [], k, j, c, _, h, _ => by simp at h
 | x :: xs, k, 0, c, _, h, hc => by
  simp at h; subst h
  simp [firstAt, hc]
 | x :: xs, k, j + 1, c, hp, h, hc => by
  have h0 : x = 0 := by have := hp 0 (by omega); simpa using this
  subst h0
  have := firstAt_pre xs (k + 1) (j := j) (c := c) (fun i hi => by have := hp (i + 1) (by omega); simpa using this) (by simpa using h) hc
  simp only [firstAt, if_true]
  rw [this]
  congr 1
  omega
theorem firstAt_none : ∀ (xs : List Int) (k : Nat), (∀ c ∈ xs, c = 0) → firstAt xs k = (0, 0)
 | [], k, _ => rfl
 | x :: xs, k, h => by
  have h0 := h x (List.mem_cons_self ..)
  subst h0
  simp only [firstAt, if_true]
  exact firstAt_none xs (k + 1) (fun c hc => h c (List.mem_cons_of_mem _ hc))
theorem firstC_pre : ∀ (xs : List Int) {j : Nat} {c : Int}, (∀ i, i < j → xs[i]? = some 0) → xs[j]? = some c → c ≠ 0 → firstC xs = c
 | [], j, c, _, h, _ => by simp at h
 | x :: xs, 0, c, _, h, hc => by
  simp at h; subst h
  simp [firstC, hc]
 | x :: xs, j + 1, c, hp, h, hc => by
  have h0 : x = 0 := by have := hp 0 (by omega); simpa using this
  subst h0
  simp only [firstC, if_true]
  exact firstC_pre xs (j := j) (fun i hi => by have := hp (i + 1) (by omega); simpa using this) (by simpa using h) hc
theorem firstC_none : ∀ (xs : List Int), (∀ c ∈ xs, c = 0) → firstC xs = 0
 | [], _ => rfl
 | x :: xs, h => by
  have h0 := h x (List.mem_cons_self ..)
  subst h0
  simp only [firstC, if_true]
  exact firstC_none xs (fun c hc => h c (List.mem_cons_of_mem _ hc))
/-- All of a list's places, by their getElem?. -/
theorem all_zero {xs : List Int} (h : ∀ i, i < xs.length → xs[i]? = some 0) : ∀ c ∈ xs, c = 0 := fun c hc => by
 obtain ⟨i, hi⟩ := List.mem_iff_getElem?.1 hc
 rw [h i (List.getElem?_eq_some_iff.1 hi).1] at hi
 exact (Option.some.inj hi).symm
theorem varIx_find (vs : List V) (s : ByteArray) : varIx vs s = findI (vs.map V.name) s := by
 rcases findI_cases (vs.map V.name) s with ⟨h1, h2⟩ | ⟨k, t, h1, h2, h3, h4⟩
 ·rw [h1]
  exact varIx_none fun i v hv => h2 _ (List.mem_map.2 ⟨v, List.mem_of_getElem? hv, rfl⟩)
 ·rw [h1]
  rw [List.getElem?_map] at h2
  obtain ⟨v, hv, e⟩ := Option.map_eq_some_iff.1 h2
  subst e
  exact varIx_some (fun i u hi hu => h4 i u.name hi (by rw [List.getElem?_map, hu]; rfl)) hv h3
/-- The first places of names, as a map has them. -/
def ixF (ns : List ByteArray) (t : List UInt8) : Option Int := (ns.findIdx? (fun x => ky x == t)).map (fun (k : Nat) => (k : Int))
theorem ixF_nil (t : List UInt8) : ixF [] t = none := rfl
theorem ixF_snoc (ns : List ByteArray) (s : ByteArray) (t : List UInt8) : ixF (ns ++ [s]) t = if ixF ns (ky s) = none then (if t = ky s then some (ns.length : Int) else ixF ns t) else ixF ns t := by
 unfold ixF
 rw [List.findIdx?_append]
 by_cases e : t = ky s
 ·subst e
  cases h : ns.findIdx? (fun x => ky x == ky s) with
  | none => simp [List.findIdx?_cons]
  | some k => simp
 ·have e' : (ky s == t) = false := by simp; exact fun h => e h.symm
  cases h : ns.findIdx? (fun x => ky x == t) with
  | none => simp [List.findIdx?_cons, e', e]
  | some k => simp [e]
theorem findI_ixF (ns : List ByteArray) (s : ByteArray) : findI ns s = (ixF ns (ky s)).getD (-1) := by
 have e : (fun t : ByteArray => t.toList == s.toList) = (fun x => ky x == ky s) := by funext t; rw [ky_list, ky_list]
 unfold findI findS ixF
 rw [e]
 cases ns.findIdx? (fun x => ky x == ky s) <;> rfl
theorem ixF_some_iff (ns : List ByteArray) (s : ByteArray) : (ixF ns (ky s)).isSome = !decide (findI ns s < 0) := by
 rw [findI_ixF]
 cases h : ixF ns (ky s) with
 | none => rfl
 | some k =>
  unfold ixF at h
  obtain ⟨j, _, hj⟩ := Option.map_eq_some_iff.1 h
  subst hj
  simp
/-- No text of a model is longer than any may be. -/
structure SzP (p : Pr) : Prop where
 n : p.name.size ≤ maxLen
 v : ∀ v ∈ p.vs, v.name.size ≤ maxLen
 s : ∀ s ∈ p.ss, s.name.size ≤ maxLen
structure SzM (m : Md) : Prop where
 p : ∀ p ∈ m.ps, SzP p
 ln : ∀ l ∈ m.ls, l.name.size ≤ maxLen
 lsrc : ∀ l ∈ m.ls, l.src.size ≤ maxLen
 ldst : ∀ l ∈ m.ls, l.dst.size ≤ maxLen
 e : ∀ e ∈ m.es, e.to.size ≤ maxLen
theorem varsC_bad {vs : List V} {k : Nat} {v : V} {c : Int} (hall : ∀ (j : Nat) (u : V), j < k → vs[j]? = some u → varC vs j u = 0) (hk : vs[k]? = some v) (he : varC vs k v = c) (hc : c ≠ 0) : varsC vs = c := by
 refine firstC_pre _ (j := k) (fun i hi => ?_) ?_ hc
 ·have hil : i < vs.length := Nat.lt_trans hi (List.getElem?_eq_some_iff.1 hk).1
  rw [List.getElem?_mapIdx, List.getElem?_eq_getElem hil, Option.map_some, hall i _ hi (List.getElem?_eq_getElem hil)]
 ·rw [List.getElem?_mapIdx, hk, Option.map_some, he]
theorem varsC_ok {vs : List V} (hall : ∀ (j : Nat) (u : V), j < vs.length → vs[j]? = some u → varC vs j u = 0) : varsC vs = 0 := by
 refine firstC_none _ (all_zero fun i hi => ?_)
 have hil : i < vs.length := by simpa using hi
 rw [List.getElem?_mapIdx, List.getElem?_eq_getElem hil, Option.map_some, hall i _ hil (List.getElem?_eq_getElem hil)]
theorem procC_vars {m : Md} {i : Nat} {p : Pr} {c : Int} (h1 : rightName p.name = true) (h2 : findI (m.ps.map Pr.name) p.name = (i : Int)) (h3 : wtB m.version p.weight = true) (h4 : ¬ 64 < p.vs.length) (h5 : ¬ 256 < p.ss.length) (hv : varsC p.vs = c) (hc : c ≠ 0) : procC m i p = c := by
 unfold procC
 simp [h1, h2, h3, hv, hc]
 omega
theorem procC_steps {m : Md} {i : Nat} {p : Pr} (h1 : rightName p.name = true) (h2 : findI (m.ps.map Pr.name) p.name = (i : Int)) (h3 : wtB m.version p.weight = true) (h4 : ¬ 64 < p.vs.length) (h5 : ¬ 256 < p.ss.length) (hv : varsC p.vs = 0) : procC m i p = firstC (p.ss.map (stepC m.ls p)) := by
 unfold procC
 simp [h1, h2, h3, hv]
 omega
theorem stepsC_bad {ls : List Lk} {p : Pr} {ss : List S} {k : Nat} {s : S} {c : Int} (hall : ∀ (j : Nat) (u : S), j < k → ss[j]? = some u → stepC ls p u = 0) (hk : ss[k]? = some s) (he : stepC ls p s = c) (hc : c ≠ 0) : firstC (ss.map (stepC ls p)) = c := by
 refine firstC_pre _ (j := k) (fun i hi => ?_) ?_ hc
 ·have hil : i < ss.length := Nat.lt_trans hi (List.getElem?_eq_some_iff.1 hk).1
  rw [List.getElem?_map, List.getElem?_eq_getElem hil, Option.map_some, hall i _ hi (List.getElem?_eq_getElem hil)]
 ·rw [List.getElem?_map, hk, Option.map_some, he]
theorem stepsC_ok {ls : List Lk} {p : Pr} {ss : List S} (hall : ∀ (j : Nat) (u : S), j < ss.length → ss[j]? = some u → stepC ls p u = 0) : firstC (ss.map (stepC ls p)) = 0 := by
 refine firstC_none _ (all_zero fun i hi => ?_)
 have hil : i < ss.length := by simpa using hi
 rw [List.getElem?_map, List.getElem?_eq_getElem hil, Option.map_some, hall i _ hil (List.getElem?_eq_getElem hil)]
theorem first_mapIdx {α : Type} {f : Nat → α → Int} {xs : List α} {k a : Nat} {x : α} {c : Int} (hall : ∀ (j : Nat) (u : α), j < k → xs[j]? = some u → f j u = 0) (hk : xs[k]? = some x) (he : f k x = c) (hc : c ≠ 0) : firstAt (xs.mapIdx f) a = (c, (a : Int) + k + 1) := by
 refine firstAt_pre _ _ (j := k) (fun i hi => ?_) ?_ hc
 ·have hil : i < xs.length := Nat.lt_trans hi (List.getElem?_eq_some_iff.1 hk).1
  rw [List.getElem?_mapIdx, List.getElem?_eq_getElem hil, Option.map_some, hall i _ hi (List.getElem?_eq_getElem hil)]
 ·rw [List.getElem?_mapIdx, hk, Option.map_some, he]
theorem first_mapIdx_ok {α : Type} {f : Nat → α → Int} {xs : List α} {a : Nat} (hall : ∀ (j : Nat) (u : α), j < xs.length → xs[j]? = some u → f j u = 0) : firstAt (xs.mapIdx f) a = (0, 0) := by
 refine firstAt_none _ _ (all_zero fun i hi => ?_)
 have hil : i < xs.length := by simpa using hi
 rw [List.getElem?_mapIdx, List.getElem?_eq_getElem hil, Option.map_some, hall i _ hil (List.getElem?_eq_getElem hil)]
theorem codesE_idx (m : Md) : codesE m = m.es.mapIdx (fun _ e => eventC m e) := by
 unfold codesE
 apply List.ext_getElem?
 intro i
 rw [List.getElem?_map, List.getElem?_mapIdx]
theorem md_procs {m : Md} (hv : ¬ (m.version < 1 ∨ 3 < m.version)) (hn : ¬ (4096 < m.ps.length ∨ 16384 < m.ls.length ∨ 16384 < m.es.length)) {k : Nat} {p : Pr} {c : Int} (hall : ∀ (j : Nat) (u : Pr), j < k → m.ps[j]? = some u → procC m j u = 0) (hk : m.ps[k]? = some p) (he : procC m k p = c) (hc : c ≠ 0) : mdCheck m = (c, (k : Int) + 1) := by
 have h := first_mapIdx (f := procC m) (a := 0) hall hk he hc
 unfold mdCheck codesP
 rw [if_neg hv, if_neg hn, if_pos (by rw [h]; exact hc), h]
 simp
theorem md_links {m : Md} (hv : ¬ (m.version < 1 ∨ 3 < m.version)) (hn : ¬ (4096 < m.ps.length ∨ 16384 < m.ls.length ∨ 16384 < m.es.length)) (hp : ∀ (j : Nat) (u : Pr), j < m.ps.length → m.ps[j]? = some u → procC m j u = 0) {k : Nat} {l : Lk} {c : Int} (hall : ∀ (j : Nat) (u : Lk), j < k → m.ls[j]? = some u → linkC m j u = 0) (hk : m.ls[k]? = some l) (he : linkC m k l = c) (hc : c ≠ 0) : mdCheck m = (c, (m.ps.length : Int) + k + 1) := by
 have h0 := first_mapIdx_ok (f := procC m) (a := 0) hp
 have h := first_mapIdx (f := linkC m) (a := m.ps.length) hall hk he hc
 unfold mdCheck codesP codesL
 rw [if_neg hv, if_neg hn, if_neg (by rw [h0]; simp), if_pos (by rw [h]; exact hc), h]
theorem md_events {m : Md} (hv : ¬ (m.version < 1 ∨ 3 < m.version)) (hn : ¬ (4096 < m.ps.length ∨ 16384 < m.ls.length ∨ 16384 < m.es.length)) (hp : ∀ (j : Nat) (u : Pr), j < m.ps.length → m.ps[j]? = some u → procC m j u = 0) (hl : ∀ (j : Nat) (u : Lk), j < m.ls.length → m.ls[j]? = some u → linkC m j u = 0) {k : Nat} {e : Ev} {c : Int} (hall : ∀ (j : Nat) (u : Ev), j < k → m.es[j]? = some u → eventC m u = 0) (hk : m.es[k]? = some e) (he : eventC m e = c) (hc : c ≠ 0) : mdCheck m = (c, (m.ps.length : Int) + m.ls.length + k + 1) := by
 have h0 := first_mapIdx_ok (f := procC m) (a := 0) hp
 have h1 := first_mapIdx_ok (f := linkC m) (a := m.ps.length) hl
 have h := first_mapIdx (f := fun _ e => eventC m e) (a := m.ps.length + m.ls.length) hall hk he hc
 unfold mdCheck codesP codesL
 rw [if_neg hv, if_neg hn, if_neg (by rw [h0]; simp), if_neg (by rw [h1]; simp), codesE_idx, h]
 simp
theorem md_ok {m : Md} (hv : ¬ (m.version < 1 ∨ 3 < m.version)) (hn : ¬ (4096 < m.ps.length ∨ 16384 < m.ls.length ∨ 16384 < m.es.length)) (hp : ∀ (j : Nat) (u : Pr), j < m.ps.length → m.ps[j]? = some u → procC m j u = 0) (hl : ∀ (j : Nat) (u : Lk), j < m.ls.length → m.ls[j]? = some u → linkC m j u = 0) (he : ∀ (j : Nat) (u : Ev), j < m.es.length → m.es[j]? = some u → eventC m u = 0) : mdCheck m = (0, 0) := by
 have h0 := first_mapIdx_ok (f := procC m) (a := 0) hp
 have h1 := first_mapIdx_ok (f := linkC m) (a := m.ps.length) hl
 have h2 := first_mapIdx_ok (f := fun _ e => eventC m e) (a := m.ps.length + m.ls.length) he
 unfold mdCheck codesP codesL
 rw [if_neg hv, if_neg hn, if_neg (by rw [h0]; simp), if_neg (by rw [h1]; simp), codesE_idx, h2]
end Go.Proofs.YtniocgnfgpaioaaGreat.Mo
end
section
namespace Go.Proofs.YtniocgnfgpaioaaGreat.Mo
open Go Go.RowKit Go.ChangeShapes Go.WideShapes Go.Proofs.YtniocgnfgpaioaaGreat.Ro Go.Proofs.YtniocgnfgpaioaaGreat.Lb
set_option maxRecDepth 8000

/-- The bounds that each value of a type has. -/
structure OkV (v : V) : Prop where
 n : v.name.size ≤ maxLen
 i : Sc.I64 v.init
structure OkS (s : S) : Prop where
 k : Sc.I64 s.kind
 n : s.name.size ≤ maxLen
 ak : Sc.I64 s.ak
 an : Sc.I64 s.an
 as_ : s.as_.size ≤ maxLen
structure OkP (p : Pr) : Prop where
 n : p.name.size ≤ maxLen
 w : Sc.I64 p.weight
 v : ∀ v ∈ p.vs, OkV v
 s : ∀ s ∈ p.ss, OkS s
 vc : p.vs.length ≤ p.vc
 vn : p.va = none → p.vc = 0
 sc : p.ss.length ≤ p.sc
 sn : p.sa = none → p.sc = 0
structure OkL (l : Lk) : Prop where
 n : l.name.size ≤ maxLen
 s : l.src.size ≤ maxLen
 d : l.dst.size ≤ maxLen
 dl : Sc.I64 l.delay
 w : Sc.I64 l.weight
structure OkE (e : Ev) : Prop where
 t : e.to.size ≤ maxLen
 a : Sc.I64 e.at_
 v : Sc.I64 e.value
structure OkM (m : Md) : Prop where
 v : Sc.I64 m.version
 p : ∀ p ∈ m.ps, OkP p
 l : ∀ l ∈ m.ls, OkL l
 e : ∀ e ∈ m.es, OkE e
 pc : m.ps.length ≤ m.pc
 pn : m.pa = none → m.pc = 0
 lc : m.ls.length ≤ m.lc
 ln : m.la = none → m.lc = 0
 ec : m.es.length ≤ m.ec
 en : m.ea = none → m.ec = 0
theorem OkM.sz {m : Md} (h : OkM m) : SzM m :=
 ⟨fun p hp => ⟨(h.p p hp).n, fun v hv => ((h.p p hp).v v hv).n, fun s hs => ((h.p p hp).s s hs).n⟩, fun l hl => (h.l l hl).n, fun l hl => (h.l l hl).s, fun l hl => (h.l l hl).d, fun e he => (h.e e he).t⟩
section
variable {H : Type} {enc : TypeId × Value → H} {w : World} {base : Nat} {spare : Nat → Bool} {held : Bool}
theorem slice_capM {t e : TypeId} {fuel n cap : Nat} {A : Option Addr} {x : DataW H × List MemPlace} (ht : Tryz.prog.underlying t = some (.slice e)) (h : DataW.trod enc Tryz.prog w base spare held fuel t [.slice A n cap] = some x) : n ≤ cap ∧ (A = none → cap = 0) := by
 rcases Go.Deep.open_slice ht h with ⟨h0, _⟩ | ⟨a, len, cap', m, n', D, Pl, hcs, hb, hl, hm, _⟩
 ·simp at h0; obtain ⟨_, h1, h2⟩ := h0; exact ⟨by omega, fun _ => h2⟩
 ·simp at hcs; exact ⟨by omega, fun e => by rw [e] at hcs; cases hcs.1⟩
theorem rows_gen {α : Type} {t e : TypeId} {fuel C : Nat} {cs : List Value} {x : DataW H × List MemPlace} (ht : Tryz.prog.underlying t = some (.slice e)) (hC : Tryz.prog.cellsOf e = C) (hpos : 0 < C) (Q : α → Prop) (cells : α → List Value)
  (hopen : ∀ {es : List Value} {n : Nat} {y : DataW H × List MemPlace}, es.length = C → DataW.trod enc Tryz.prog w base spare held n e es = some y → ∃ o, es = cells o ∧ Q o)
  (h : DataW.trod enc Tryz.prog w base spare held fuel t cs = some x) :
  ∃ (A : Option Addr) (cap : Nat) (l : List α), cs = [.slice A l.length cap] ∧ l.length ≤ maxLen ∧
   (l = [] ∨ ∃ b off, A = some ⟨b, off, none⟩ ∧ ∀ j o, l[j]? = some o → ∀ c, c < C → w.cell? ⟨b, off + j * C + c, none⟩ = (cells o)[c]?) ∧ (∀ o ∈ l, Q o) ∧ l.length ≤ cap ∧ (A = none → cap = 0) := by
 have hr := rows_open ht (by rw [hC]; omega) h
 rw [hC] at hr
 rcases hr with h0 | ⟨a, len, cap, e', hm, h0⟩
 ·exact ⟨none, 0, [], h0, by simp [maxLen], .inl rfl, by simp, by simp, fun _ => rfl⟩
 ·rw [e'] at h
  obtain ⟨hcap, hnone⟩ := slice_capM ht h
  rcases h0 with rfl | ⟨b, off, rfl, hi⟩
  ·exact ⟨some a, cap, [], e', hm, .inl rfl, by simp, hcap, hnone⟩
  ·obtain ⟨l, hl, hp⟩ := list_of (α := α) (p := fun i o => (∀ c, c < C → w.cell? ⟨b, off + i * C + c, none⟩ = (cells o)[c]?) ∧ Q o) len (fun i hil => by
    obtain ⟨es, n, y, hes, hc, htr⟩ := hi i hil
    obtain ⟨o, rfl, hq⟩ := hopen hes htr
    exact ⟨o, hc, hq⟩)
   subst hl
   refine ⟨_, cap, l, e', hm, .inr ⟨b, off, rfl, fun j o hj => (hp j o hj).1⟩, fun o ho => ?_, hcap, hnone⟩
   obtain ⟨j, hj, rfl⟩ := List.mem_iff_getElem.1 ho
   exact (hp j _ (List.getElem?_eq_getElem hj)).2
theorem tdM {cs : List Value} {o n j : Nat} (hj : j < n) : ((cs.drop o).take n)[j]? = cs[o + j]? := by
 rw [List.getElem?_take_of_lt hj, List.getElem?_drop]
theorem var_openM {fuel : Nat} {cs : List Value} {x : DataW H × List MemPlace} (hl : cs.length = 2) (h : DataW.trod enc Tryz.prog w base spare held fuel 40 cs = some x) :
  ∃ v : V, cs = [.string v.name, .int .i64 v.init] ∧ OkV v := by
 obtain ⟨n, hf⟩ := field_at Tryz.underlying40 h
 obtain ⟨y0, h0⟩ := hf 0 _ rfl
 obtain ⟨y1, h1⟩ := hf 1 _ rfl
 obtain ⟨a0, e0, z0⟩ := str_at (o := 0) Tryz.underlying9 (by kernel_rfl) h0
 obtain ⟨a1, e1, z1⟩ := int_at (o := 1) Tryz.underlying2 (by kernel_rfl) h1
 refine ⟨⟨a0, a1⟩, ?_, z0, Sc.I64.of_wf z1⟩
 match cs, hl with
 | [q0, q1], _ => simp at e0 e1; rw [e0, e1]
theorem step_openM {fuel : Nat} {cs : List Value} {x : DataW H × List MemPlace} (hl : cs.length = 5) (h : DataW.trod enc Tryz.prog w base spare held fuel 38 cs = some x) :
  ∃ s : S, cs = [.int .i64 s.kind, .string s.name, .int .i64 s.ak, .int .i64 s.an, .string s.as_] ∧ OkS s := by
 obtain ⟨n, hf⟩ := field_at Tryz.underlying38 h
 obtain ⟨y0, h0⟩ := hf 0 _ rfl
 obtain ⟨y1, h1⟩ := hf 1 _ rfl
 obtain ⟨y2, h2⟩ := hf 2 _ rfl
 obtain ⟨a0, e0, z0⟩ := int_at (o := 0) Tryz.underlying3 (by kernel_rfl) h0
 obtain ⟨a1, e1, z1⟩ := str_at (o := 1) Tryz.underlying9 (by kernel_rfl) h1
 have hC : Tryz.prog.cellsOf 36 = 3 := by kernel_rfl
 have h2' : DataW.trod enc Tryz.prog w base spare held n 36 ((cs.drop 2).take (Tryz.prog.cellsOf 36)) = some y2 := h2
 rw [hC] at h2'
 obtain ⟨n', hg⟩ := field_at Tryz.underlying36 h2'
 obtain ⟨y3, g0⟩ := hg 0 _ rfl
 obtain ⟨y4, g1⟩ := hg 1 _ rfl
 obtain ⟨y5, g2⟩ := hg 2 _ rfl
 obtain ⟨b0, f0, z2⟩ := int_at (o := 0) Tryz.underlying3 (by kernel_rfl) g0
 obtain ⟨b1, f1, z3⟩ := int_at (o := 1) Tryz.underlying2 (by kernel_rfl) g1
 obtain ⟨b2, f2, z4⟩ := str_at (o := 2) Tryz.underlying9 (by kernel_rfl) g2
 rw [tdM (by omega)] at f0 f1 f2
 refine ⟨⟨a0, a1, b0, b1, b2⟩, ?_, Sc.I64.of_wf z0, z1, Sc.I64.of_wf z2, Sc.I64.of_wf z3, z4⟩
 match cs, hl with
 | [q0, q1, q2, q3, q4], _ => simp at e0 e1 f0 f1 f2; rw [e0, e1, f0, f1, f2]
def prCells (p : Pr) : List Value := [.string p.name, .int .i64 p.weight, .slice p.va p.vs.length p.vc, .slice p.sa p.ss.length p.sc]
theorem proc_openM {fuel : Nat} {cs : List Value} {x : DataW H × List MemPlace} (hl : cs.length = 4) (h : DataW.trod enc Tryz.prog w base spare held fuel 34 cs = some x) :
  ∃ p : Pr, cs = prCells p ∧ (RProc w p ∧ OkP p) := by
 obtain ⟨n, hf⟩ := field_at Tryz.underlying34 h
 obtain ⟨y0, h0⟩ := hf 0 _ rfl
 obtain ⟨y1, h1⟩ := hf 1 _ rfl
 obtain ⟨y2, h2⟩ := hf 2 _ rfl
 obtain ⟨y3, h3⟩ := hf 3 _ rfl
 obtain ⟨a0, e0, z0⟩ := str_at (o := 0) Tryz.underlying9 (by kernel_rfl) h0
 obtain ⟨a1, e1, z1⟩ := int_at (o := 1) Tryz.underlying2 (by kernel_rfl) h1
 have h2' : DataW.trod enc Tryz.prog w base spare held n 31 ((cs.drop 2).take (Tryz.prog.cellsOf 31)) = some y2 := h2
 rw [show Tryz.prog.cellsOf 31 = 1 by kernel_rfl] at h2'
 obtain ⟨va, vc, vs, c2, hvl, hv, hvq, hvc, hvn⟩ := rows_gen (C := 2) Tryz.underlying31 (by kernel_rfl) (by decide) OkV (fun v => [.string v.name, .int .i64 v.init]) (fun hl h => var_openM hl h) h2'
 have h3' : DataW.trod enc Tryz.prog w base spare held n 32 ((cs.drop 3).take (Tryz.prog.cellsOf 32)) = some y3 := h3
 rw [show Tryz.prog.cellsOf 32 = 1 by kernel_rfl] at h3'
 obtain ⟨sa, sc, ss, c3, hsl, hs, hsq, hsc, hsn⟩ := rows_gen (C := 5) Tryz.underlying32 (by kernel_rfl) (by decide) OkS (fun s => [.int .i64 s.kind, .string s.name, .int .i64 s.ak, .int .i64 s.an, .string s.as_]) (fun hl h => step_openM hl h) h3'
 have e2 := cell_one c2
 have e3 := cell_one c3
 refine ⟨⟨a0, a1, va, vs, vc, sa, ss, sc⟩, ?_, ⟨?_, ?_, hvl, hsl, fun s h => (hsq s h).an⟩, z0, Sc.I64.of_wf z1, hvq, hsq, hvc, hvn, hsc, hsn⟩
 ·match cs, hl with
  | [q0, q1, q2, q3], _ => simp at e0 e1 e2 e3; rw [e0, e1, e2, e3]; rfl
 ·rcases hv with h | ⟨b, off, e, hc⟩
  ·exact .inl h
  ·exact .inr ⟨b, off, e, fun j v hj => ⟨hc j v hj 0 (by decide), hc j v hj 1 (by decide)⟩⟩
 ·rcases hs with h | ⟨b, off, e, hc⟩
  ·exact .inl h
  ·exact .inr ⟨b, off, e, fun j v hj => ⟨hc j v hj 0 (by decide), hc j v hj 1 (by decide), hc j v hj 2 (by decide), hc j v hj 3 (by decide), hc j v hj 4 (by decide)⟩⟩
theorem link_openM {fuel : Nat} {cs : List Value} {x : DataW H × List MemPlace} (hl : cs.length = 5) (h : DataW.trod enc Tryz.prog w base spare held fuel 42 cs = some x) :
  ∃ l : Lk, cs = [.string l.name, .string l.src, .string l.dst, .int .i64 l.delay, .int .i64 l.weight] ∧ OkL l := by
 obtain ⟨n, hf⟩ := field_at Tryz.underlying42 h
 obtain ⟨y0, h0⟩ := hf 0 _ rfl
 obtain ⟨y1, h1⟩ := hf 1 _ rfl
 obtain ⟨y2, h2⟩ := hf 2 _ rfl
 obtain ⟨y3, h3⟩ := hf 3 _ rfl
 obtain ⟨y4, h4⟩ := hf 4 _ rfl
 obtain ⟨a0, e0, z0⟩ := str_at (o := 0) Tryz.underlying9 (by kernel_rfl) h0
 obtain ⟨a1, e1, z1⟩ := str_at (o := 1) Tryz.underlying9 (by kernel_rfl) h1
 obtain ⟨a2, e2, z2⟩ := str_at (o := 2) Tryz.underlying9 (by kernel_rfl) h2
 obtain ⟨a3, e3, z3⟩ := int_at (o := 3) Tryz.underlying2 (by kernel_rfl) h3
 obtain ⟨a4, e4, z4⟩ := int_at (o := 4) Tryz.underlying2 (by kernel_rfl) h4
 refine ⟨⟨a0, a1, a2, a3, a4⟩, ?_, z0, z1, z2, Sc.I64.of_wf z3, Sc.I64.of_wf z4⟩
 match cs, hl with
 | [q0, q1, q2, q3, q4], _ => simp at e0 e1 e2 e3 e4; rw [e0, e1, e2, e3, e4]
theorem event_openM {fuel : Nat} {cs : List Value} {x : DataW H × List MemPlace} (hl : cs.length = 3) (h : DataW.trod enc Tryz.prog w base spare held fuel 48 cs = some x) :
  ∃ e : Ev, cs = [.string e.to, .int .i64 e.at_, .int .i64 e.value] ∧ OkE e := by
 obtain ⟨n, hf⟩ := field_at Tryz.underlying48 h
 obtain ⟨y0, h0⟩ := hf 0 _ rfl
 obtain ⟨y1, h1⟩ := hf 1 _ rfl
 obtain ⟨y2, h2⟩ := hf 2 _ rfl
 obtain ⟨a0, e0, z0⟩ := str_at (o := 0) Tryz.underlying9 (by kernel_rfl) h0
 obtain ⟨a1, e1, z1⟩ := int_at (o := 1) Tryz.underlying2 (by kernel_rfl) h1
 obtain ⟨a2, e2, z2⟩ := int_at (o := 2) Tryz.underlying2 (by kernel_rfl) h2
 refine ⟨⟨a0, a1, a2⟩, ?_, z0, Sc.I64.of_wf z1, Sc.I64.of_wf z2⟩
 match cs, hl with
 | [q0, q1, q2], _ => simp at e0 e1 e2; rw [e0, e1, e2]
theorem model_openM {fuel : Nat} {cs : List Value} {x : DataW H × List MemPlace} (h : DataW.trod enc Tryz.prog w base spare held fuel 26 cs = some x) :
  ∃ m : Md, cs = [.int .i64 m.version, .slice m.pa m.ps.length m.pc, .slice m.la m.ls.length m.lc, .slice m.ea m.es.length m.ec] ∧ RModel w m ∧ OkM m := by
 have hl : cs.length = 4 := by
  obtain ⟨_, _, _, _, hl, _⟩ := DataW.trod_struct Tryz.underlying26 h
  rw [hl]; kernel_rfl
 obtain ⟨n, hf⟩ := field_at Tryz.underlying26 h
 obtain ⟨y0, h0⟩ := hf 0 _ rfl
 obtain ⟨y1, h1⟩ := hf 1 _ rfl
 obtain ⟨y2, h2⟩ := hf 2 _ rfl
 obtain ⟨y3, h3⟩ := hf 3 _ rfl
 obtain ⟨a0, e0, z0⟩ := int_at (o := 0) Tryz.underlying3 (by kernel_rfl) h0
 have h1' : DataW.trod enc Tryz.prog w base spare held n 22 ((cs.drop 1).take (Tryz.prog.cellsOf 22)) = some y1 := h1
 rw [show Tryz.prog.cellsOf 22 = 1 by kernel_rfl] at h1'
 obtain ⟨pa, pc, ps, c1, hpl, hp, hpq, hpc, hpn⟩ := rows_gen (C := 4) Tryz.underlying22 (by kernel_rfl) (by decide) (fun p => RProc w p ∧ OkP p) prCells (fun hl h => proc_openM hl h) h1'
 have h2' : DataW.trod enc Tryz.prog w base spare held n 23 ((cs.drop 2).take (Tryz.prog.cellsOf 23)) = some y2 := h2
 rw [show Tryz.prog.cellsOf 23 = 1 by kernel_rfl] at h2'
 obtain ⟨la, lc, ls, c2, hll, hlk, hlq, hlc, hln⟩ := rows_gen (C := 5) Tryz.underlying23 (by kernel_rfl) (by decide) OkL (fun l => [.string l.name, .string l.src, .string l.dst, .int .i64 l.delay, .int .i64 l.weight]) (fun hl h => link_openM hl h) h2'
 have h3' : DataW.trod enc Tryz.prog w base spare held n 24 ((cs.drop 3).take (Tryz.prog.cellsOf 24)) = some y3 := h3
 rw [show Tryz.prog.cellsOf 24 = 1 by kernel_rfl] at h3'
 obtain ⟨ea, ec, es, c3, hel, hev, heq, hec, hen⟩ := rows_gen (C := 3) Tryz.underlying24 (by kernel_rfl) (by decide) OkE (fun e => [.string e.to, .int .i64 e.at_, .int .i64 e.value]) (fun hl h => event_openM hl h) h3'
 have e1 := cell_one c1
 have e2 := cell_one c2
 have e3 := cell_one c3
 refine ⟨⟨a0, pa, ps, pc, la, ls, lc, ea, es, ec⟩, ?_, ⟨?_, fun q hq => (hpq q hq).1, ?_, ?_, hpl, hll, hel⟩, Sc.I64.of_wf z0, fun q hq => (hpq q hq).2, hlq, heq, hpc, hpn, hlc, hln, hec, hen⟩
 ·match cs, hl with
  | [q0, q1, q2, q3], _ => simp at e0 e1 e2 e3; rw [e0, e1, e2, e3]
 ·rcases hp with h | ⟨b, off, e, hc⟩
  ·exact .inl h
  ·exact .inr ⟨b, off, e, fun j v hj => ⟨hc j v hj 0 (by decide), hc j v hj 1 (by decide), hc j v hj 2 (by decide), hc j v hj 3 (by decide)⟩⟩
 ·rcases hlk with h | ⟨b, off, e, hc⟩
  ·exact .inl h
  ·exact .inr ⟨b, off, e, fun j v hj => ⟨hc j v hj 0 (by decide), hc j v hj 1 (by decide), hc j v hj 2 (by decide), hc j v hj 3 (by decide), hc j v hj 4 (by decide)⟩⟩
 ·rcases hev with h | ⟨b, off, e, hc⟩
  ·exact .inl h
  ·exact .inr ⟨b, off, e, fun j v hj => ⟨hc j v hj 0 (by decide), hc j v hj 1 (by decide), hc j v hj 2 (by decide)⟩⟩
end
end Go.Proofs.YtniocgnfgpaioaaGreat.Mo
end
section
namespace Go.Proofs.YtniocgnfgpaioaaGreat.Mo
open Go Go.RowKit Go.Proofs.YtniocgnfgpaioaaGreat.Lb
def lkCells (l : Lk) : List Value := [.string l.name, .string l.src, .string l.dst, .int .i64 l.delay, .int .i64 l.weight]
def evCells (e : Ev) : List Value := [.string e.to, .int .i64 e.at_, .int .i64 e.value]
def vrCells (v : V) : List Value := [.string v.name, .int .i64 v.init]
def stCells (s : S) : List Value := [.int .i64 s.kind, .string s.name, .int .i64 s.ak, .int .i64 s.an, .string s.as_]
theorem prCells_len (p : Pr) : (prCells p).length = 4 := rfl
theorem lkCells_len (l : Lk) : (lkCells l).length = 5 := rfl
theorem evCells_len (e : Ev) : (evCells e).length = 3 := rfl
theorem vrCells_len (v : V) : (vrCells v).length = 2 := rfl
theorem stCells_len (s : S) : (stCells s).length = 5 := rfl
theorem RProcs.rowOf {w : World} {A : Option Addr} {l : List Pr} (h : RProcs w A l) : RowOf w A 4 prCells l := by
 rcases h with h | ⟨b, off, e, hc⟩
 ·exact .inl h
 ·refine .inr ⟨b, off, e, fun j o hj c hcc => ?_⟩
  obtain ⟨h0, h1, h2, h3⟩ := hc j o hj
  match c, hcc with
  | 0, _ => exact h0
  | 1, _ => exact h1
  | 2, _ => exact h2
  | 3, _ => exact h3
theorem RProcs.ofRow {w : World} {A : Option Addr} {l : List Pr} (h : RowOf w A 4 prCells l) : RProcs w A l := by
 rcases h with h | ⟨b, off, e, hc⟩
 ·exact .inl h
 ·exact .inr ⟨b, off, e, fun j o hj => ⟨hc j o hj 0 (by decide), hc j o hj 1 (by decide), hc j o hj 2 (by decide), hc j o hj 3 (by decide)⟩⟩
theorem prCells_one (l : List Pr) : ∀ u ∈ l.flatMap prCells, u.oneCell' = true := fun u hu => by
 obtain ⟨o, _, ho⟩ := List.mem_flatMap.1 hu
 simp only [prCells, List.mem_cons, List.not_mem_nil, or_false] at ho
 rcases ho with rfl | rfl | rfl | rfl <;> rfl
theorem RLinks.rowOf {w : World} {A : Option Addr} {l : List Lk} (h : RLinks w A l) : RowOf w A 5 lkCells l := by
 rcases h with h | ⟨b, off, e, hc⟩
 ·exact .inl h
 ·refine .inr ⟨b, off, e, fun j o hj c hcc => ?_⟩
  obtain ⟨h0, h1, h2, h3, h4⟩ := hc j o hj
  match c, hcc with
  | 0, _ => exact h0
  | 1, _ => exact h1
  | 2, _ => exact h2
  | 3, _ => exact h3
  | 4, _ => exact h4
theorem RLinks.ofRow {w : World} {A : Option Addr} {l : List Lk} (h : RowOf w A 5 lkCells l) : RLinks w A l := by
 rcases h with h | ⟨b, off, e, hc⟩
 ·exact .inl h
 ·exact .inr ⟨b, off, e, fun j o hj => ⟨hc j o hj 0 (by decide), hc j o hj 1 (by decide), hc j o hj 2 (by decide), hc j o hj 3 (by decide), hc j o hj 4 (by decide)⟩⟩
theorem lkCells_one (l : List Lk) : ∀ u ∈ l.flatMap lkCells, u.oneCell' = true := fun u hu => by
 obtain ⟨o, _, ho⟩ := List.mem_flatMap.1 hu
 simp only [lkCells, List.mem_cons, List.not_mem_nil, or_false] at ho
 rcases ho with rfl | rfl | rfl | rfl | rfl <;> rfl
theorem REvents.rowOf {w : World} {A : Option Addr} {l : List Ev} (h : REvents w A l) : RowOf w A 3 evCells l := by
 rcases h with h | ⟨b, off, e, hc⟩
 ·exact .inl h
 ·refine .inr ⟨b, off, e, fun j o hj c hcc => ?_⟩
  obtain ⟨h0, h1, h2⟩ := hc j o hj
  match c, hcc with
  | 0, _ => exact h0
  | 1, _ => exact h1
  | 2, _ => exact h2
theorem REvents.ofRow {w : World} {A : Option Addr} {l : List Ev} (h : RowOf w A 3 evCells l) : REvents w A l := by
 rcases h with h | ⟨b, off, e, hc⟩
 ·exact .inl h
 ·exact .inr ⟨b, off, e, fun j o hj => ⟨hc j o hj 0 (by decide), hc j o hj 1 (by decide), hc j o hj 2 (by decide)⟩⟩
theorem evCells_one (l : List Ev) : ∀ u ∈ l.flatMap evCells, u.oneCell' = true := fun u hu => by
 obtain ⟨o, _, ho⟩ := List.mem_flatMap.1 hu
 simp only [evCells, List.mem_cons, List.not_mem_nil, or_false] at ho
 rcases ho with rfl | rfl | rfl <;> rfl
theorem RVars.rowOf {w : World} {A : Option Addr} {l : List V} (h : RVars w A l) : RowOf w A 2 vrCells l := by
 rcases h with h | ⟨b, off, e, hc⟩
 ·exact .inl h
 ·refine .inr ⟨b, off, e, fun j o hj c hcc => ?_⟩
  obtain ⟨h0, h1⟩ := hc j o hj
  match c, hcc with
  | 0, _ => exact h0
  | 1, _ => exact h1
theorem RVars.ofRow {w : World} {A : Option Addr} {l : List V} (h : RowOf w A 2 vrCells l) : RVars w A l := by
 rcases h with h | ⟨b, off, e, hc⟩
 ·exact .inl h
 ·exact .inr ⟨b, off, e, fun j o hj => ⟨hc j o hj 0 (by decide), hc j o hj 1 (by decide)⟩⟩
theorem vrCells_one (l : List V) : ∀ u ∈ l.flatMap vrCells, u.oneCell' = true := fun u hu => by
 obtain ⟨o, _, ho⟩ := List.mem_flatMap.1 hu
 simp only [vrCells, List.mem_cons, List.not_mem_nil, or_false] at ho
 rcases ho with rfl | rfl <;> rfl
theorem RSteps.rowOf {w : World} {A : Option Addr} {l : List S} (h : RSteps w A l) : RowOf w A 5 stCells l := by
 rcases h with h | ⟨b, off, e, hc⟩
 ·exact .inl h
 ·refine .inr ⟨b, off, e, fun j o hj c hcc => ?_⟩
  obtain ⟨h0, h1, h2, h3, h4⟩ := hc j o hj
  match c, hcc with
  | 0, _ => exact h0
  | 1, _ => exact h1
  | 2, _ => exact h2
  | 3, _ => exact h3
  | 4, _ => exact h4
theorem RSteps.ofRow {w : World} {A : Option Addr} {l : List S} (h : RowOf w A 5 stCells l) : RSteps w A l := by
 rcases h with h | ⟨b, off, e, hc⟩
 ·exact .inl h
 ·exact .inr ⟨b, off, e, fun j o hj => ⟨hc j o hj 0 (by decide), hc j o hj 1 (by decide), hc j o hj 2 (by decide), hc j o hj 3 (by decide), hc j o hj 4 (by decide)⟩⟩
theorem stCells_one (l : List S) : ∀ u ∈ l.flatMap stCells, u.oneCell' = true := fun u hu => by
 obtain ⟨o, _, ho⟩ := List.mem_flatMap.1 hu
 simp only [stCells, List.mem_cons, List.not_mem_nil, or_false] at ho
 rcases ho with rfl | rfl | rfl | rfl | rfl <;> rfl
theorem infoP : (Tryz.prog.info? 34).map (fun i => (i.zero, i.size, i.bytes)) = some (some (.agg #[.string ⟨#[]⟩, .int .i64 0, .slice none 0 0, .slice none 0 0]), 4, 72) := by kernel_rfl
theorem infoL : (Tryz.prog.info? 42).map (fun i => (i.zero, i.size, i.bytes)) = some (some (.agg #[.string ⟨#[]⟩, .string ⟨#[]⟩, .string ⟨#[]⟩, .int .i64 0, .int .i64 0]), 5, 64) := by kernel_rfl
theorem infoE : (Tryz.prog.info? 48).map (fun i => (i.zero, i.size, i.bytes)) = some (some (.agg #[.string ⟨#[]⟩, .int .i64 0, .int .i64 0]), 3, 32) := by kernel_rfl
end Go.Proofs.YtniocgnfgpaioaaGreat.Mo
end
