/- A model is right in whichever order its declarations stand: plain. Nothing of the program is walked here. -/
import Derived.Test.YtniocgnfgpaioaaGreatG16
set_option linter.unusedVariables false
set_option linter.unusedSimpArgs false
section
namespace Go.Proofs.YtniocgnfgpaioaaGreat.Mo
open Go Go.RowKit Go.Proofs.YtniocgnfgpaioaaGreat.Lb Go.Proofs.YtniocgnfgpaioaaGreat.HpPure
abbrev kn (s : ByteArray) : List UInt8 := s.toList
theorem nodup_get {α : Type} {l : List α} : l.Nodup ↔ ∀ (i j : Nat), i < j → j < l.length → l[i]? ≠ l[j]? := by
 unfold List.Nodup
 rw [List.pairwise_iff_getElem]
 constructor
 ·intro h i j hij hj e
  rw [List.getElem?_eq_getElem (by omega), List.getElem?_eq_getElem hj] at e
  exact h i j (by omega) hj hij (Option.some.inj e)
 ·intro h i j hi hj hij e
  exact h i j hij hj (by rw [List.getElem?_eq_getElem hi, List.getElem?_eq_getElem hj, e])
theorem find_mem {ns : List ByteArray} {s : ByteArray} : ¬ findI ns s < 0 ↔ kn s ∈ ns.map kn := by
 rcases findI_cases ns s with ⟨h1, h2⟩ | ⟨k, t, h1, h2, h3, _⟩
 ·rw [h1]
  refine ⟨fun h => absurd h (by decide), fun h => ?_⟩
  obtain ⟨t, ht, e⟩ := List.mem_map.1 h
  exact absurd e (h2 t ht)
 ·rw [h1]
  exact ⟨fun _ => List.mem_map.2 ⟨t, List.mem_of_getElem? h2, h3⟩, fun _ => by omega⟩
theorem find_nodup {ns : List ByteArray} : (∀ (j : Nat) (u : ByteArray), ns[j]? = some u → findI ns u = (j : Int)) ↔ (ns.map kn).Nodup := by
 constructor
 ·intro h
  rw [nodup_get]
  intro i j hij hj
  rw [List.length_map] at hj
  rw [List.getElem?_map, List.getElem?_map, List.getElem?_eq_getElem (by omega), List.getElem?_eq_getElem hj]
  simp only [Option.map_some, ne_eq, Option.some.injEq]
  intro e
  have h1 := h i _ (List.getElem?_eq_getElem (by omega))
  have h2 := h j _ (List.getElem?_eq_getElem hj)
  have h3 : findI ns (ns[i]'(by omega)) = findI ns ns[j] := by
   unfold findI findS
   have e2 : (ns[i]'(by omega)).toList = ns[j].toList := e
   rw [e2]
  omega
 ·intro h j u hj
  refine findI_some (fun i t hi ht e => ?_) hj rfl
  rw [nodup_get] at h
  have hjl := (List.getElem?_eq_some_iff.1 hj).1
  have h1 := h i j hi (by rw [List.length_map]; exact hjl)
  rw [List.getElem?_map, List.getElem?_map, ht, hj] at h1
  exact h1 (by simp only [Option.map_some]; exact congrArg some e)
theorem varIx_mem {vs : List V} {s : ByteArray} : ¬ varIx vs s < 0 ↔ kn s ∈ vs.map (fun v => kn v.name) := by
 rw [varIx_find, find_mem, List.map_map]
 rfl
/-- The variables of a process are right. -/
structure VarsOK (vs : List V) : Prop where
 d : (vs.map (fun v => kn v.name)).Nodup
 v : ∀ v ∈ vs, rightName v.name = true ∧ v.name.toList ≠ reservedL ∧ numB v.init = true
theorem firstC_iff {cs : List Int} : firstC cs = 0 ↔ ∀ c ∈ cs, c = 0 := by
 induction cs with
 | nil => simp [firstC]
 | cons c cs ih =>
  unfold firstC
  by_cases h : c = 0
  ·rw [if_pos h, ih]; simp [h]
  ·rw [if_neg h]
   exact ⟨fun e => absurd e h, fun e => absurd (e c (List.mem_cons_self ..)) h⟩
theorem vars_iff {vs : List V} : varsC vs = 0 ↔ VarsOK vs := by
 unfold varsC
 rw [firstC_iff]
 constructor
 ·intro h
  have hj : ∀ (j : Nat) (u : V), vs[j]? = some u → varC vs j u = 0 := fun j u hu => h _ (List.mem_mapIdx.2 ⟨j, (List.getElem?_eq_some_iff.1 hu).1, by rw [(List.getElem?_eq_some_iff.1 hu).2]⟩)
  have hc : ∀ (j : Nat) (u : V), vs[j]? = some u → (¬ (rightName u.name = false ∨ u.name.toList = reservedL)) ∧ varIx vs u.name = (j : Int) ∧ numB u.init = true := fun j u hu => by
   have h1 := hj j u hu
   unfold varC at h1
   split at h1
   ·cases h1
   split at h1
   ·cases h1
   split at h1
   ·rename_i a b c; exact ⟨a, by simpa using b, c⟩
   ·cases h1
  refine ⟨?_, fun v hv => ?_⟩
  ·have h2 := (find_nodup (ns := vs.map V.name)).1 (fun j u hu => by
    rw [List.getElem?_map, Option.map_eq_some_iff] at hu
    obtain ⟨v, hv, rfl⟩ := hu
    rw [← varIx_find]
    exact (hc j v hv).2.1)
   rw [List.map_map] at h2
   exact h2
  ·obtain ⟨j, hj2, rfl⟩ := List.mem_iff_getElem.1 hv
   obtain ⟨a, _, c⟩ := hc j _ (List.getElem?_eq_getElem hj2)
   exact ⟨by simpa using fun h => a (.inl h), fun h => a (.inr h), c⟩
 ·intro h c hc
  obtain ⟨j, hj, rfl⟩ := List.mem_mapIdx.1 hc
  obtain ⟨a, b, d⟩ := h.v _ (List.getElem_mem hj)
  have h2 := (find_nodup (ns := vs.map V.name)).2 (by rw [List.map_map]; exact h.d) j vs[j].name (by rw [List.getElem?_map, List.getElem?_eq_getElem hj]; rfl)
  unfold varC
  rw [if_neg (by rw [a]; simp [b]), varIx_find, if_neg (by rw [h2]; simp), if_pos d]
/-- A step's code, of names that are there. -/
theorem arg_same {vs us : List V} (h : ∀ s, s ∈ vs.map (fun v => kn v.name) ↔ s ∈ us.map (fun v => kn v.name)) (s : S) : argC vs s = argC us s := by
 have hv : (varIx vs s.as_ < 0) ↔ (varIx us s.as_ < 0) := by
  have h1 := varIx_mem (vs := vs) (s := s.as_)
  have h2 := varIx_mem (vs := us) (s := s.as_)
  have h3 := h (kn s.as_)
  constructor
  ·intro a; exact Decidable.byContradiction fun b => (h1.2 (h3.2 (h2.1 b))) a
  ·intro a; exact Decidable.byContradiction fun b => (h2.2 (h3.1 (h1.1 b))) a
 unfold argC
 simp only [hv]
theorem link_at {ls : List Lk} (hd : (ls.map (fun l => kn l.name)).Nodup) {l : Lk} (hl : l ∈ ls) {s : ByteArray} (he : l.name.toList = s.toList) : ¬ findI (ls.map Lk.name) s < 0 ∧ ls[(findI (ls.map Lk.name) s).toNat]? = some l := by
 obtain ⟨j, hj, rfl⟩ := List.mem_iff_getElem.1 hl
 have h1 := (find_nodup (ns := ls.map Lk.name)).2 (by rw [List.map_map]; exact hd) j ls[j].name (by rw [List.getElem?_map, List.getElem?_eq_getElem hj]; rfl)
 have h2 : findI (ls.map Lk.name) s = (j : Int) := by
  rw [← h1]
  unfold findI findS
  rw [he]
 rw [h2]
 exact ⟨by omega, by simp [List.getElem?_eq_getElem hj]⟩
theorem step_same {ls ms : List Lk} (hd : (ls.map (fun l => kn l.name)).Nodup) (hp : ms.Perm ls) {p q : Pr} (hn : p.name = q.name) (hv : ∀ s, s ∈ p.vs.map (fun v => kn v.name) ↔ s ∈ q.vs.map (fun v => kn v.name)) (s : S) : stepC ls p s = stepC ms q s := by
 have hd2 : (ms.map (fun l => kn l.name)).Nodup := ((hp.map _).nodup_iff).2 hd
 have ha := arg_same hv s
 have hvx : (varIx p.vs s.name < 0) ↔ (varIx q.vs s.name < 0) := by
  have h1 := varIx_mem (vs := p.vs) (s := s.name)
  have h2 := varIx_mem (vs := q.vs) (s := s.name)
  have h3 := hv (kn s.name)
  constructor
  ·intro a; exact Decidable.byContradiction fun b => (h1.2 (h3.2 (h2.1 b))) a
  ·intro a; exact Decidable.byContradiction fun b => (h2.2 (h3.1 (h1.1 b))) a
 unfold stepC
 rw [ha, hn]
 simp only [hvx]
 by_cases hf : findI (ls.map Lk.name) s.name < 0
 ·have hf2 : findI (ms.map Lk.name) s.name < 0 := Decidable.byContradiction fun b => by
   have h1 := find_mem.1 b
   rw [List.map_map] at h1
   exact (find_mem.2 (by rw [List.map_map]; exact ((hp.map _).mem_iff).1 h1)) hf
  simp only [hf, hf2, if_true]
 ·have h1 := find_mem.1 hf
  rw [List.map_map] at h1
  obtain ⟨l, hl, he⟩ := List.mem_map.1 h1
  have he2 : l.name.toList = s.name.toList := he
  obtain ⟨_, a2⟩ := link_at hd hl he2
  obtain ⟨b1, b2⟩ := link_at hd2 (hp.mem_iff.2 hl) he2
  simp only [hf, b1, if_false, a2, b2]
/-- A right model, in whichever order. -/
structure RightS (m : Md) : Prop where
 v : ¬ (m.version < 1 ∨ 3 < m.version)
 n : ¬ (4096 < m.ps.length ∨ 16384 < m.ls.length ∨ 16384 < m.es.length)
 dp : (m.ps.map (fun p => kn p.name)).Nodup
 dl : (m.ls.map (fun p => kn p.name)).Nodup
 p : ∀ q ∈ m.ps, rightName q.name = true ∧ wtB m.version q.weight = true ∧ ¬ (64 < q.vs.length ∨ 256 < q.ss.length) ∧ VarsOK q.vs ∧ ∀ s ∈ q.ss, stepC m.ls q s = 0
 l : ∀ l ∈ m.ls, rightName l.name = true ∧ kn l.src ∈ m.ps.map (fun p => kn p.name) ∧ kn l.dst ∈ m.ps.map (fun p => kn p.name) ∧ ¬ (l.delay < 1 ∨ 1099511627776 < l.delay) ∧ wtB m.version l.weight = true
 e : ∀ e ∈ m.es, kn e.to ∈ m.ps.map (fun p => kn p.name) ∧ ¬ (e.at_ < 0 ∨ 1099511627776 < e.at_ ∨ numB e.value = false)
theorem mem_pn {m : Md} {s : ByteArray} : ¬ findI (m.ps.map Pr.name) s < 0 ↔ kn s ∈ m.ps.map (fun p => kn p.name) := by rw [find_mem, List.map_map]; rfl
theorem right_s {m : Md} (h : MdRight m) : RightS m := by
 refine ⟨h.v, h.n, ?_, ?_, fun q hq => ?_, fun l hl => ?_, fun e he => ?_⟩
 ·have h2 := (find_nodup (ns := m.ps.map Pr.name)).1 (fun j u hu => by
   rw [List.getElem?_map, Option.map_eq_some_iff] at hu
   obtain ⟨p, hp, rfl⟩ := hu
   exact (h.pr hp).f)
  rw [List.map_map] at h2
  exact h2
 ·have h2 := (find_nodup (ns := m.ls.map Lk.name)).1 (fun j u hu => by
   rw [List.getElem?_map, Option.map_eq_some_iff] at hu
   obtain ⟨p, hp, rfl⟩ := hu
   exact (h.lk hp).f)
  rw [List.map_map] at h2
  exact h2
 ·obtain ⟨j, hj, rfl⟩ := List.mem_iff_getElem.1 hq
  have hr := h.pr (List.getElem?_eq_getElem hj)
  exact ⟨hr.n, hr.w, hr.l, vars_iff.1 hr.v, fun s hs => (firstC_iff.1 hr.s) _ (List.mem_map.2 ⟨s, hs, rfl⟩)⟩
 ·obtain ⟨j, hj, rfl⟩ := List.mem_iff_getElem.1 hl
  have hr := h.lk (List.getElem?_eq_getElem hj)
  exact ⟨hr.n, mem_pn.1 (fun h => hr.e (.inl h)), mem_pn.1 (fun h => hr.e (.inr h)), hr.d, hr.w⟩
 ·obtain ⟨j, hj, rfl⟩ := List.mem_iff_getElem.1 he
  have hr := h.ev (List.getElem?_eq_getElem hj)
  exact ⟨mem_pn.1 hr.t, hr.r⟩
theorem s_right {m : Md} (h : RightS m) : MdRight m := by
 refine ⟨h.v, h.n, fun j u hu => PrRight.zero ?_, fun j u hu => LkRight.zero ?_, fun j u hu => EvRight.zero ?_⟩
 ·obtain ⟨a, b, c, d, e⟩ := h.p u (List.mem_of_getElem? hu)
  refine ⟨a, (find_nodup (ns := m.ps.map Pr.name)).2 (by rw [List.map_map]; exact h.dp) j u.name (by rw [List.getElem?_map, hu]; rfl), b, c, vars_iff.2 d, firstC_iff.2 (fun c hc => ?_)⟩
  obtain ⟨s, hs, rfl⟩ := List.mem_map.1 hc
  exact e s hs
 ·obtain ⟨a, b, c, d, e⟩ := h.l u (List.mem_of_getElem? hu)
  exact ⟨a, (find_nodup (ns := m.ls.map Lk.name)).2 (by rw [List.map_map]; exact h.dl) j u.name (by rw [List.getElem?_map, hu]; rfl), fun h => h.elim (fun h => (mem_pn.2 b) h) (fun h => (mem_pn.2 c) h), d, e⟩
 ·obtain ⟨a, b⟩ := h.e u (List.mem_of_getElem? hu)
  exact ⟨mem_pn.2 a, b⟩
theorem right_iff {m : Md} : (mdCheck m).1 = 0 ↔ RightS m := ⟨fun h => right_s (right_of h), fun h => by rw [(s_right h).ok]⟩
/-- Processes that are those of another list, each laid down or not. -/
theorem RightS.perm {m m' : Md} (h : RightS m) (hv : m'.version = m.version) (f : Pr → Pr) (hf : ∀ p, (f p).name = p.name ∧ (f p).weight = p.weight ∧ (f p).vs.Perm p.vs ∧ (f p).ss = p.ss) (hp : m'.ps.Perm (m.ps.map f)) (hl : m'.ls.Perm m.ls) (he : m'.es.Perm m.es) : RightS m' := by
 have hnames : (m.ps.map f).map (fun p => kn p.name) = m.ps.map (fun p => kn p.name) := by
  rw [List.map_map]
  exact List.map_congr_left (fun p _ => by simp only [Function.comp]; rw [(hf p).1])
 have hpn : (m'.ps.map (fun p => kn p.name)).Perm (m.ps.map (fun p => kn p.name)) := by rw [← hnames]; exact hp.map _
 have hpl : m'.ps.length = m.ps.length := by rw [hp.length_eq, List.length_map]
 refine ⟨by rw [hv]; exact h.v, by rw [hpl, hl.length_eq, he.length_eq]; exact h.n, hpn.nodup_iff.2 h.dp, ((hl.map _).nodup_iff).2 h.dl, fun q hq => ?_, fun l hl2 => ?_, fun e he2 => ?_⟩
 ·obtain ⟨p, hp2, rfl⟩ := List.mem_map.1 (hp.mem_iff.1 hq)
  obtain ⟨a, b, c, d, e⟩ := h.p p hp2
  obtain ⟨f1, f2, f3, f4⟩ := hf p
  refine ⟨by rw [f1]; exact a, by rw [hv, f2]; exact b, by rw [f3.length_eq, f4]; exact c, ⟨((f3.map _).nodup_iff).2 d.d, fun v hv2 => d.v v (f3.mem_iff.1 hv2)⟩, fun s hs => ?_⟩
  rw [f4] at hs
  rw [← step_same h.dl hl f1.symm (fun s => ((f3.map _).mem_iff).symm) s]
  exact e s hs
 ·obtain ⟨a, b, c, d, e⟩ := h.l l (hl.mem_iff.1 hl2)
  exact ⟨a, hpn.mem_iff.2 b, hpn.mem_iff.2 c, d, by rw [hv]; exact e⟩
 ·obtain ⟨a, b⟩ := h.e e (he.mem_iff.1 he2)
  exact ⟨hpn.mem_iff.2 a, b⟩
theorem unsort (vs : List V) : vs.Perm (sortedBy vlt vs) := (sortedBy_perm vlt vs).symm
/-- A model is right just if it is, laid down. -/
theorem right_canon {m : Md} : (mdCheck m).1 = 0 ↔ (mdCheck (canM m)).1 = 0 := by
 rw [right_iff, right_iff]
 constructor
 ·intro h
  exact h.perm (m' := canM m) rfl canP (fun p => ⟨rfl, rfl, sortedBy_perm vlt p.vs, rfl⟩) ((sortedBy_perm plt m.ps).map canP) (sortedBy_perm llt m.ls) (sortedBy_perm elt m.es)
 ·intro h
  have hk : ∀ (q : Pr), q ∈ m.ps → canP q ∈ (canM m).ps := fun q hq => List.mem_map.2 ⟨q, (sortedBy_perm plt m.ps).mem_iff.2 hq, rfl⟩
  have hnm : ((canM m).ps.map (fun p => kn p.name)).Perm (m.ps.map (fun p => kn p.name)) := by
   have h1 : (canM m).ps.map (fun p => kn p.name) = (sortedBy plt m.ps).map (fun p => kn p.name) := by unfold canM; simp only [List.map_map]; rfl
   rw [h1]
   exact (sortedBy_perm plt m.ps).map _
  have hll := sortedBy_perm llt m.ls
  have hee := sortedBy_perm elt m.es
  have hpl : (canM m).ps.length = m.ps.length := by unfold canM; rw [List.length_map, sortedBy_length]
  refine ⟨h.v, ?_, hnm.nodup_iff.1 h.dp, ((hll.map _).nodup_iff).1 h.dl, fun q hq => ?_, fun l hl => ?_, fun e he => ?_⟩
  ·have h9 := h.n
   rw [hpl, show (canM m).ls = sortedBy llt m.ls from rfl, show (canM m).es = sortedBy elt m.es from rfl, sortedBy_length, sortedBy_length] at h9
   exact h9
  ·obtain ⟨a, b, c, d, e⟩ := h.p (canP q) (hk q hq)
   have hq2 := sortedBy_perm vlt q.vs
   refine ⟨a, b, by have h9 := c; simp only [canP, sortedBy_length] at h9; exact h9, ⟨((hq2.map _).nodup_iff).1 d.d, fun v hv => d.v v (hq2.mem_iff.2 hv)⟩, fun s hs => ?_⟩
   have h9 := e s hs
   rw [step_same (ls := (canM m).ls) (ms := m.ls) (p := canP q) (q := q) h.dl hll.symm rfl (fun s => (hq2.map _).mem_iff) s] at h9
   exact h9
  ·obtain ⟨a, b, c, d, e⟩ := h.l l (hll.mem_iff.2 hl)
   exact ⟨a, hnm.mem_iff.1 b, hnm.mem_iff.1 c, d, e⟩
  ·obtain ⟨a, b⟩ := h.e e (hee.mem_iff.2 he)
   exact ⟨hnm.mem_iff.1 a, b⟩
/-- Sorted the same, in whichever order, if no two stand alike. -/
theorem sort_perm {α : Type} {lt : α → α → Bool} (h : SWO lt) {xs ys : List α} (hp : xs.Perm ys) (ha : ∀ a b, a ∈ xs → b ∈ xs → lt b a = false → lt a b = false → a = b) : sortedBy lt xs = sortedBy lt ys :=
 List.Perm.eq_of_pairwise (le := fun a b => lt b a = false)
  (fun a b h1 h2 h3 h4 => ha a b ((sortedBy_perm lt xs).mem_iff.1 h1) (hp.mem_iff.2 ((sortedBy_perm lt ys).mem_iff.1 h2)) h3 h4)
  (sortedBy_rises h xs) (sortedBy_rises h ys) ((sortedBy_perm lt xs).trans (hp.trans (sortedBy_perm lt ys).symm))
theorem nodup_inj {α : Type} {f : α → List UInt8} {xs : List α} (h : (xs.map f).Nodup) {a b : α} (ha : a ∈ xs) (hb : b ∈ xs) (e : f a = f b) : a = b := by
 obtain ⟨i, hi, rfl⟩ := List.mem_iff_getElem.1 ha
 obtain ⟨j, hj, rfl⟩ := List.mem_iff_getElem.1 hb
 by_cases hij : i = j
 ·subst hij; rfl
 ·rw [nodup_get] at h
  rcases Nat.lt_or_gt_of_ne hij with hl | hl
  ·have h1 := h i j hl (by rw [List.length_map]; exact hj)
   rw [List.getElem?_map, List.getElem?_map, List.getElem?_eq_getElem hi, List.getElem?_eq_getElem hj] at h1
   exact absurd (congrArg some e) h1
  ·have h1 := h j i hl (by rw [List.length_map]; exact hi)
   rw [List.getElem?_map, List.getElem?_map, List.getElem?_eq_getElem hi, List.getElem?_eq_getElem hj] at h1
   exact absurd (congrArg some e.symm) h1
theorem bytes_anti {x y : List UInt8} (h1 : Op.bytesLess y x = false) (h2 : Op.bytesLess x y = false) : x = y := by
 have := bytes_total x y
 rw [h1, h2, Bool.false_or] at this
 simpa using this
theorem BA_inj {x y : ByteArray} (h : x.toList = y.toList) : x = y := by
 have h2 : x.data.toList = y.data.toList := by rw [← ByteArray.toList_eq, ← ByteArray.toList_eq]; exact h
 exact ByteArray.ext (Array.toList_inj.1 h2)
theorem ev_anti {a b : Ev} (h1 : elt b a = false) (h2 : elt a b = false) : a = b := by
 have n1 := fun h => Bool.eq_false_iff.1 h1 ((HpEv.evlt_iff (itE b) (itE a)).2 h)
 have n2 := fun h => Bool.eq_false_iff.1 h2 ((HpEv.evlt_iff (itE a) (itE b)).2 h)
 simp only [itE] at n1 n2
 have e1 : a.at_ = b.at_ := by
  have a1 : ¬ b.at_ < a.at_ := fun h => n1 (.inl h)
  have a2 : ¬ a.at_ < b.at_ := fun h => n2 (.inl h)
  omega
 have e2 : a.to.toList = b.to.toList := bytes_anti (Bool.eq_false_iff.2 (fun h => n1 (.inr ⟨e1.symm, .inl h⟩))) (Bool.eq_false_iff.2 (fun h => n2 (.inr ⟨e1, .inl h⟩)))
 have e3 : a.value = b.value := by
  have a1 : ¬ b.value < a.value := fun h => n1 (.inr ⟨e1.symm, .inr ⟨e2.symm, h⟩⟩)
  have a2 : ¬ a.value < b.value := fun h => n2 (.inr ⟨e1, .inr ⟨e2, h⟩⟩)
  omega
 obtain ⟨at1, at2, at3⟩ := a
 obtain ⟨bt1, bt2, bt3⟩ := b
 simp only at e1 e2 e3
 rw [BA_inj e2, e1, e3]
/-- What is laid down of a right model is the same in whichever order its declarations stand. -/
theorem canM_perm {m b : Md} (h : RightS m) (hv : b.version = m.version) (hp : b.ps.Perm m.ps) (hl : b.ls.Perm m.ls) (he : b.es.Perm m.es) : canM b = { canM m with pa := b.pa, pc := b.pc, la := b.la, lc := b.lc, ea := b.ea, ec := b.ec } := by
 have h1 : sortedBy plt b.ps = sortedBy plt m.ps := (sort_perm plt_swo hp.symm (fun x y hx hy a c => nodup_inj h.dp hx hy (bytes_anti a c))).symm
 have h2 : sortedBy llt b.ls = sortedBy llt m.ls := (sort_perm llt_swo hl.symm (fun x y hx hy a c => nodup_inj h.dl hx hy (bytes_anti a c))).symm
 have h3 : sortedBy elt b.es = sortedBy elt m.es := (sort_perm elt_swo he.symm (fun x y _ _ a c => ev_anti a c)).symm
 unfold canM
 simp only [h1, h2, h3, hv]
theorem canM_perm_same {m b : Md} (h : RightS m) (hv : b.version = m.version) (hp : b.ps.Perm m.ps) (hl : b.ls.Perm m.ls) (he : b.es.Perm m.es) : SameM (canM b) (canM m) := by
 rw [canM_perm h hv hp hl he]
 exact ⟨rfl, SamePs.refl _, rfl, rfl⟩
end Go.Proofs.YtniocgnfgpaioaaGreat.Mo
end
