/- Processes, variables and steps as plain things, and how they lie in memory. -/
import Derived.Test.YthgbahlkflmgiaaLib
import Derived.Test.YthgbahlkflmgiaaStruct
import Derived.OpenShut
import Derived.WalkKit
namespace Go.Proofs.Ythgbahlkflmgiaa.Mo
open Go Go.RowKit Go.Proofs.Ythgbahlkflmgiaa.Lb Go.Proofs.Ythgbahlkflmgiaa.Ro
set_option linter.unusedVariables false

structure V where
  name : ByteArray
  init : Int
structure S where
  kind : Int
  name : ByteArray
  ak : Int
  an : Int
  as_ : ByteArray
def V.val (v : V) : Value := .agg #[.string v.name, .int .i64 v.init]
def S.val (s : S) : Value := .agg #[.int .i64 s.kind, .string s.name, .int .i64 s.ak, .int .i64 s.an, .string s.as_]
def S.arg (s : S) : Value := .agg #[.int .i64 s.ak, .int .i64 s.an, .string s.as_]
/-- A row of variables that lies in memory. -/
def RVars (w : World) (A : Option Addr) (vs : List V) : Prop :=
  vs = [] ∨ ∃ b off, A = some ⟨b, off, none⟩ ∧ ∀ j v, vs[j]? = some v → w.cell? ⟨b, off + j * 2, none⟩ = some (.string v.name) ∧ w.cell? ⟨b, off + j * 2 + 1, none⟩ = some (.int .i64 v.init)
def RSteps (w : World) (A : Option Addr) (ss : List S) : Prop :=
  ss = [] ∨ ∃ b off, A = some ⟨b, off, none⟩ ∧ ∀ j s, ss[j]? = some s → w.cell? ⟨b, off + j * 5, none⟩ = some (.int .i64 s.kind) ∧ w.cell? ⟨b, off + j * 5 + 1, none⟩ = some (.string s.name) ∧
    w.cell? ⟨b, off + j * 5 + 2, none⟩ = some (.int .i64 s.ak) ∧ w.cell? ⟨b, off + j * 5 + 3, none⟩ = some (.int .i64 s.an) ∧ w.cell? ⟨b, off + j * 5 + 4, none⟩ = some (.string s.as_)
theorem RVars.kept {w w' : World} {K : Nat → Prop} {A : Option Addr} {vs : List V} (h : RVars w A vs) (hk : Kept K w w') (hS : ∀ b off, vs ≠ [] → A = some ⟨b, off, none⟩ → ¬ K b) : RVars w' A vs := by
  by_cases hne : vs = []
  · exact .inl hne
  rcases h with h | ⟨b, off, h, hc⟩
  · exact .inl h
  · exact .inr ⟨b, off, h, fun j v hj => by obtain ⟨h1, h2⟩ := hc j v hj; exact ⟨hk.cell h1 (hS b off hne h), hk.cell h2 (hS b off hne h)⟩⟩
theorem RSteps.kept {w w' : World} {K : Nat → Prop} {A : Option Addr} {ss : List S} (h : RSteps w A ss) (hk : Kept K w w') (hS : ∀ b off, ss ≠ [] → A = some ⟨b, off, none⟩ → ¬ K b) : RSteps w' A ss := by
  by_cases hne : ss = []
  · exact .inl hne
  rcases h with h | ⟨b, off, h, hc⟩
  · exact .inl h
  · exact .inr ⟨b, off, h, fun j v hj => by obtain ⟨h1, h2, h3, h4, h5⟩ := hc j v hj; exact ⟨hk.cell h1 (hS b off hne h), hk.cell h2 (hS b off hne h), hk.cell h3 (hS b off hne h), hk.cell h4 (hS b off hne h), hk.cell h5 (hS b off hne h)⟩⟩
theorem RVars.at {w : World} {A : Option Addr} {vs : List V} (h : RVars w A vs) {k : Nat} {v : V} (hv : vs[k]? = some v) :
    ∃ b off, A = some ⟨b, off, none⟩ ∧ w.cell? ⟨b, off + k * 2, none⟩ = some (.string v.name) ∧ w.cell? ⟨b, off + k * 2 + 1, none⟩ = some (.int .i64 v.init) := by
  rcases h with rfl | ⟨b, off, h, hc⟩
  · simp at hv
  · exact ⟨b, off, h, hc k v hv⟩
theorem RSteps.at {w : World} {A : Option Addr} {ss : List S} (h : RSteps w A ss) {k : Nat} {s : S} (hv : ss[k]? = some s) :
    ∃ b off, A = some ⟨b, off, none⟩ ∧ w.cell? ⟨b, off + k * 5, none⟩ = some (.int .i64 s.kind) ∧ w.cell? ⟨b, off + k * 5 + 1, none⟩ = some (.string s.name) ∧
    w.cell? ⟨b, off + k * 5 + 2, none⟩ = some (.int .i64 s.ak) ∧ w.cell? ⟨b, off + k * 5 + 3, none⟩ = some (.int .i64 s.an) ∧ w.cell? ⟨b, off + k * 5 + 4, none⟩ = some (.string s.as_) := by
  rcases h with rfl | ⟨b, off, h, hc⟩
  · simp at hv
  · exact ⟨b, off, h, hc k s hv⟩
theorem RVars.low {w : World} {A : Option Addr} {vs : List V} (h : RVars w A vs) (b off : Nat) (hne : vs ≠ []) (e : A = some ⟨b, off, none⟩) : b < w.heap.size := by
  cases vs with
  | nil => exact absurd rfl hne
  | cons v vs =>
    obtain ⟨b', off', e', h1, _⟩ := h.at (k := 0) rfl
    rw [e] at e'; cases e'
    exact World.block_lt_of_cell? _ _ h1
theorem RSteps.low {w : World} {A : Option Addr} {ss : List S} (h : RSteps w A ss) (b off : Nat) (hne : ss ≠ []) (e : A = some ⟨b, off, none⟩) : b < w.heap.size := by
  cases ss with
  | nil => exact absurd rfl hne
  | cons v vs =>
    obtain ⟨b', off', e', h1, _⟩ := h.at (k := 0) rfl
    rw [e] at e'; cases e'
    exact World.block_lt_of_cell? _ _ h1
/-- The place of a variable, -1 of none. -/
def ixFrom : List V → ByteArray → Nat → Option Nat
  | [], _, _ => none
  | v :: vs, s, k => if v.name.toList = s.toList then some k else ixFrom vs s (k + 1)
def ix? (vs : List V) (s : ByteArray) : Option Nat := ixFrom vs s 0
def ixOf : Option Nat → Int
  | none => -1
  | some k => k
def varIx (vs : List V) (s : ByteArray) : Int := ixOf (ix? vs s)
theorem ixFrom_some : ∀ (vs : List V) (s : ByteArray) (k j : Nat), (∀ (i : Nat) (v : V), i < j → vs[i]? = some v → v.name.toList ≠ s.toList) → (∃ v, vs[j]? = some v ∧ v.name.toList = s.toList) → ixFrom vs s k = some (k + j)
  | [], s, k, j, _, ⟨v, h, _⟩ => by simp at h
  | v :: vs, s, k, 0, _, ⟨u, h, e⟩ => by
    simp at h; subst h
    simp [ixFrom, e]
  | v :: vs, s, k, j + 1, hn, ⟨u, h, e⟩ => by
    have h0 := hn 0 v (by omega) rfl
    rw [ixFrom, if_neg h0, ixFrom_some vs s (k + 1) j (fun i v' hi hv => hn (i + 1) v' (by omega) (by simpa using hv)) ⟨u, by simpa using h, e⟩]
    congr 1; omega
theorem ixFrom_none : ∀ (vs : List V) (s : ByteArray) (k : Nat), (∀ (i : Nat) (v : V), vs[i]? = some v → v.name.toList ≠ s.toList) → ixFrom vs s k = none
  | [], s, k, _ => rfl
  | v :: vs, s, k, hn => by
    rw [ixFrom, if_neg (hn 0 v rfl), ixFrom_none vs s (k + 1) (fun i v' hv => hn (i + 1) v' (by simpa using hv))]
theorem varIx_some {vs : List V} {s : ByteArray} {j : Nat} {v : V} (hn : ∀ (i : Nat) (v : V), i < j → vs[i]? = some v → v.name.toList ≠ s.toList) (h : vs[j]? = some v) (e : v.name.toList = s.toList) : varIx vs s = j := by
  unfold varIx ix?
  rw [ixFrom_some vs s 0 j hn ⟨v, h, e⟩, Nat.zero_add]; rfl
theorem varIx_none {vs : List V} {s : ByteArray} (hn : ∀ (i : Nat) (v : V), vs[i]? = some v → v.name.toList ≠ s.toList) : varIx vs s = -1 := by
  unfold varIx ix?
  rw [ixFrom_none vs s 0 hn]; rfl
theorem ixFrom_lt : ∀ (vs : List V) (s : ByteArray) (k j : Nat), ixFrom vs s k = some j → k ≤ j ∧ ∃ v, vs[j - k]? = some v ∧ v.name.toList = s.toList
  | [], s, k, j, h => by simp [ixFrom] at h
  | v :: vs, s, k, j, h => by
    rw [ixFrom] at h
    split at h
    · rename_i e; cases h; exact ⟨Nat.le_refl _, v, by simp, e⟩
    · obtain ⟨h1, u, h2, h3⟩ := ixFrom_lt vs s (k + 1) j h
      refine ⟨by omega, u, ?_, h3⟩
      have : j - k = (j - (k + 1)) + 1 := by omega
      rw [this, List.getElem?_cons_succ]; exact h2
theorem ix_lt {vs : List V} {s : ByteArray} {j : Nat} (h : ix? vs s = some j) : j < vs.length ∧ ∃ v, vs[j]? = some v ∧ v.name.toList = s.toList := by
  obtain ⟨_, v, h2, h3⟩ := ixFrom_lt vs s 0 j h
  rw [Nat.sub_zero] at h2
  exact ⟨(List.getElem?_eq_some_iff.1 h2).1, v, h2, h3⟩
end Go.Proofs.Ythgbahlkflmgiaa.Mo
