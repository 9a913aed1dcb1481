/- Processes, variables and steps as plain things, and how they lie in memory; Plain arithmetic under the walks of package scalar: sums, differences and products of 64-bit numbers, and when they go round. Conditions: the numbers lie in int64's range; The walks of model.Var and sandtableref15.Var; Models as plain things, and how they lie in memory; A map[string]bool that a call makes, as the list of the keys that were set; and strings, each once. Nothing of the program is named; The first place of a string in a list. Nothing of the program is named; Right names, plainly. Nothing of the program is named. -/
import Derived.Test.YtniocgnfgpaioaaGreatG1
import Derived.OpenShut
import Derived.WalkKit
import Derived.Laws.BitsLemmas
import Derived.RowKit
import Derived.Lib.Mul64
import Derived.Test.YtniocgnfgpaioaaGreatProg
import Derived.Lib.Hide
import Derived.Deep.QuietTactic
import Derived.WalkSpells
import Derived.WalkLawsBesides
import Derived.IntWalk
import Derived.BigRegion
import Derived.RegionTactic
import Derived.LoopTactic
import Derived.Deep.LoopGhost
import Derived.BigQuiet
import Derived.Deep.RegionHeld3
import Derived.Maps.Own
import Derived.Maps.Views
import Derived.Maps.OwnOps
import Derived.Laws.Strings
set_option linter.unusedVariables false
set_option linter.unusedSimpArgs false
section
namespace Go.Proofs.YtniocgnfgpaioaaGreat.Mo
open Go Go.RowKit Go.Proofs.YtniocgnfgpaioaaGreat.Lb Go.Proofs.YtniocgnfgpaioaaGreat.Ro

structure V where
 name : ByteArray
 init : Int
structure S where
 kind : Int
 name : ByteArray
 ak : Int
 an : Int
 as_ : ByteArray
def V.val (v : V) : Value := .agg #[.string v.name, .int .i64 v.init]
def S.val (s : S) : Value := .agg #[.int .i64 s.kind, .string s.name, .int .i64 s.ak, .int .i64 s.an, .string s.as_]
def S.arg (s : S) : Value := .agg #[.int .i64 s.ak, .int .i64 s.an, .string s.as_]
/-- A row of variables that lies in memory. -/
def RVars (w : World) (A : Option Addr) (vs : List V) : Prop :=
 vs = [] ∨ ∃ b off, A = some ⟨b, off, none⟩ ∧ ∀ j v, vs[j]? = some v → w.cell? ⟨b, off + j * 2, none⟩ = some (.string v.name) ∧ w.cell? ⟨b, off + j * 2 + 1, none⟩ = some (.int .i64 v.init)
def RSteps (w : World) (A : Option Addr) (ss : List S) : Prop :=
 ss = [] ∨ ∃ b off, A = some ⟨b, off, none⟩ ∧ ∀ j s, ss[j]? = some s → w.cell? ⟨b, off + j * 5, none⟩ = some (.int .i64 s.kind) ∧ w.cell? ⟨b, off + j * 5 + 1, none⟩ = some (.string s.name) ∧
  w.cell? ⟨b, off + j * 5 + 2, none⟩ = some (.int .i64 s.ak) ∧ w.cell? ⟨b, off + j * 5 + 3, none⟩ = some (.int .i64 s.an) ∧ w.cell? ⟨b, off + j * 5 + 4, none⟩ = some (.string s.as_)
theorem RVars.kept {w w' : World} {K : Nat → Prop} {A : Option Addr} {vs : List V} (h : RVars w A vs) (hk : Kept K w w') (hS : ∀ b off, vs ≠ [] → A = some ⟨b, off, none⟩ → ¬ K b) : RVars w' A vs := by
 by_cases hne : vs = []
 ·exact .inl hne
 rcases h with h | ⟨b, off, h, hc⟩
 ·exact .inl h
 ·exact .inr ⟨b, off, h, fun j v hj => by obtain ⟨h1, h2⟩ := hc j v hj; exact ⟨hk.cell h1 (hS b off hne h), hk.cell h2 (hS b off hne h)⟩⟩
theorem RSteps.kept {w w' : World} {K : Nat → Prop} {A : Option Addr} {ss : List S} (h : RSteps w A ss) (hk : Kept K w w') (hS : ∀ b off, ss ≠ [] → A = some ⟨b, off, none⟩ → ¬ K b) : RSteps w' A ss := by
 by_cases hne : ss = []
 ·exact .inl hne
 rcases h with h | ⟨b, off, h, hc⟩
 ·exact .inl h
 ·exact .inr ⟨b, off, h, fun j v hj => by obtain ⟨h1, h2, h3, h4, h5⟩ := hc j v hj; exact ⟨hk.cell h1 (hS b off hne h), hk.cell h2 (hS b off hne h), hk.cell h3 (hS b off hne h), hk.cell h4 (hS b off hne h), hk.cell h5 (hS b off hne h)⟩⟩
theorem RVars.at {w : World} {A : Option Addr} {vs : List V} (h : RVars w A vs) {k : Nat} {v : V} (hv : vs[k]? = some v) :
  ∃ b off, A = some ⟨b, off, none⟩ ∧ w.cell? ⟨b, off + k * 2, none⟩ = some (.string v.name) ∧ w.cell? ⟨b, off + k * 2 + 1, none⟩ = some (.int .i64 v.init) := by
 rcases h with rfl | ⟨b, off, h, hc⟩
 ·simp at hv
 ·exact ⟨b, off, h, hc k v hv⟩
theorem RSteps.at {w : World} {A : Option Addr} {ss : List S} (h : RSteps w A ss) {k : Nat} {s : S} (hv : ss[k]? = some s) :
  ∃ b off, A = some ⟨b, off, none⟩ ∧ w.cell? ⟨b, off + k * 5, none⟩ = some (.int .i64 s.kind) ∧ w.cell? ⟨b, off + k * 5 + 1, none⟩ = some (.string s.name) ∧
  w.cell? ⟨b, off + k * 5 + 2, none⟩ = some (.int .i64 s.ak) ∧ w.cell? ⟨b, off + k * 5 + 3, none⟩ = some (.int .i64 s.an) ∧ w.cell? ⟨b, off + k * 5 + 4, none⟩ = some (.string s.as_) := by
 rcases h with rfl | ⟨b, off, h, hc⟩
 ·simp at hv
 ·exact ⟨b, off, h, hc k s hv⟩
theorem RVars.low {w : World} {A : Option Addr} {vs : List V} (h : RVars w A vs) (b off : Nat) (hne : vs ≠ []) (e : A = some ⟨b, off, none⟩) : b < w.heap.size := by
 cases vs with
 | nil => exact absurd rfl hne
 | cons v vs =>
  obtain ⟨b', off', e', h1, _⟩ := h.at (k := 0) rfl
  rw [e] at e'; cases e'
  exact World.block_lt_of_cell? _ _ h1
theorem RSteps.low {w : World} {A : Option Addr} {ss : List S} (h : RSteps w A ss) (b off : Nat) (hne : ss ≠ []) (e : A = some ⟨b, off, none⟩) : b < w.heap.size := by
 cases ss with
 | nil => exact absurd rfl hne
 | cons v vs =>
  obtain ⟨b', off', e', h1, _⟩ := h.at (k := 0) rfl
  rw [e] at e'; cases e'
  exact World.block_lt_of_cell? _ _ h1
/-- The place of a variable, -1 of none. -/
def ixFrom : List V → ByteArray → Nat → Option Nat
 | [], _, _ => none
 | v :: vs, s, k => if v.name.toList = s.toList then some k else ixFrom vs s (k + 1)
def ix? (vs : List V) (s : ByteArray) : Option Nat := ixFrom vs s 0
def ixOf : Option Nat → Int
 | none => -1
 | some k => k
def varIx (vs : List V) (s : ByteArray) : Int := ixOf (ix? vs s)
theorem ixFrom_some : ∀ (vs : List V) (s : ByteArray) (k j : Nat), (∀ (i : Nat) (v : V), i < j → vs[i]? = some v → v.name.toList ≠ s.toList) → (∃ v, vs[j]? = some v ∧ v.name.toList = s.toList) → ixFrom vs s k = some (k + j)
 | [], s, k, j, _, ⟨v, h, _⟩ => by simp at h
 | v :: vs, s, k, 0, _, ⟨u, h, e⟩ => by
  simp at h; subst h
  simp [ixFrom, e]
 | v :: vs, s, k, j + 1, hn, ⟨u, h, e⟩ => by
  have h0 := hn 0 v (by omega) rfl
  rw [ixFrom, if_neg h0, ixFrom_some vs s (k + 1) j (fun i v' hi hv => hn (i + 1) v' (by omega) (by simpa using hv)) ⟨u, by simpa using h, e⟩]
  congr 1; omega
theorem ixFrom_none : ∀ (vs : List V) (s : ByteArray) (k : Nat), (∀ (i : Nat) (v : V), vs[i]? = some v → v.name.toList ≠ s.toList) → ixFrom vs s k = none
 | [], s, k, _ => rfl
 | v :: vs, s, k, hn => by
  rw [ixFrom, if_neg (hn 0 v rfl), ixFrom_none vs s (k + 1) (fun i v' hv => hn (i + 1) v' (by simpa using hv))]
theorem varIx_some {vs : List V} {s : ByteArray} {j : Nat} {v : V} (hn : ∀ (i : Nat) (v : V), i < j → vs[i]? = some v → v.name.toList ≠ s.toList) (h : vs[j]? = some v) (e : v.name.toList = s.toList) : varIx vs s = j := by
 unfold varIx ix?
 rw [ixFrom_some vs s 0 j hn ⟨v, h, e⟩, Nat.zero_add]; rfl
theorem varIx_none {vs : List V} {s : ByteArray} (hn : ∀ (i : Nat) (v : V), vs[i]? = some v → v.name.toList ≠ s.toList) : varIx vs s = -1 := by
 unfold varIx ix?
 rw [ixFrom_none vs s 0 hn]; rfl
theorem ixFrom_lt : ∀ (vs : List V) (s : ByteArray) (k j : Nat), ixFrom vs s k = some j → k ≤ j ∧ ∃ v, vs[j - k]? = some v ∧ v.name.toList = s.toList
 | [], s, k, j, h => by simp [ixFrom] at h
 | v :: vs, s, k, j, h => by
  rw [ixFrom] at h
  split at h
  ·rename_i e; cases h; exact ⟨Nat.le_refl _, v, by simp, e⟩
  ·obtain ⟨h1, u, h2, h3⟩ := ixFrom_lt vs s (k + 1) j h
   refine ⟨by omega, u, ?_, h3⟩
   have : j - k = (j - (k + 1)) + 1 := by omega
   rw [this, List.getElem?_cons_succ]; exact h2
theorem ix_lt {vs : List V} {s : ByteArray} {j : Nat} (h : ix? vs s = some j) : j < vs.length ∧ ∃ v, vs[j]? = some v ∧ v.name.toList = s.toList := by
 obtain ⟨_, v, h2, h3⟩ := ixFrom_lt vs s 0 j h
 rw [Nat.sub_zero] at h2
 exact ⟨(List.getElem?_eq_some_iff.1 h2).1, v, h2, h3⟩
end Go.Proofs.YtniocgnfgpaioaaGreat.Mo
end
section
namespace Go.Proofs.YtniocgnfgpaioaaGreat.Sc
open Go Go.RowKit

def I64 (a : Int) : Prop := -9223372036854775808 ≤ a ∧ a ≤ 9223372036854775807
theorem I64.of_wf {a : Int} (h : (Lit.int .i64 a).wf = true) : I64 a := by
 simp [Lit.wf, IntKind.min, IntKind.max, IntKind.bits, IntKind.signed] at h
 unfold I64; omega
theorem w64 {a : Int} (h : I64 a) : wrap64 a = a := by unfold wrap64; unfold I64 at h; omega
theorem i64wrap_toNat (r : BitVec 64) : IntKind.i64.wrap (r.toNat : Int) = r.toInt := by
 rw [IntKind.wrap_i64, BitVec.toInt_eq_toNat_bmod, Int.bmod_def]
 have := r.isLt
 split <;> omega
theorem bits_xor_i64 (a b : Int) : bits .xor .i64 a b = (BitVec.ofInt 64 a ^^^ BitVec.ofInt 64 b).toInt := by
 rw [← i64wrap_toNat]; rfl
theorem bits_and_i64 (a b : Int) : bits .and .i64 a b = (BitVec.ofInt 64 a &&& BitVec.ofInt 64 b).toInt := by
 rw [← i64wrap_toNat]; rfl
theorem msb_ofInt {a : Int} (h : I64 a) : (BitVec.ofInt 64 a).msb = decide (a < 0) := by
 rw [BitVec.msb_eq_toInt, BitVec.toInt_ofInt]
 unfold I64 at h
 have : a.bmod (2^64) = a := by rw [Int.bmod_def]; split <;> omega
 rw [this]
theorem msb_neg (r : BitVec 64) : r.toInt < 0 ↔ r.msb = true := by rw [BitVec.msb_eq_toInt]; simp
theorem sign_add (a b s : Int) (ha : I64 a) (hb : I64 b) (hs : I64 s) :
  (bits .and .i64 (bits .xor .i64 a s) (bits .xor .i64 b s) < 0) ↔ (decide (a < 0) ≠ decide (s < 0) ∧ decide (b < 0) ≠ decide (s < 0)) := by
 rw [bits_and_i64, bits_xor_i64, bits_xor_i64, BitVec.ofInt_toInt, BitVec.ofInt_toInt, msb_neg]
 rw [BitVec.msb_and, BitVec.msb_xor, BitVec.msb_xor, msb_ofInt ha, msb_ofInt hb, msb_ofInt hs]
 simp
theorem sign_sub (a b d : Int) (ha : I64 a) (hb : I64 b) (hs : I64 d) :
  (bits .and .i64 (bits .xor .i64 a b) (bits .xor .i64 a d) < 0) ↔ (decide (a < 0) ≠ decide (b < 0) ∧ decide (a < 0) ≠ decide (d < 0)) := by
 rw [bits_and_i64, bits_xor_i64, bits_xor_i64, BitVec.ofInt_toInt, BitVec.ofInt_toInt, msb_neg]
 rw [BitVec.msb_and, BitVec.msb_xor, BitVec.msb_xor, msb_ofInt ha, msb_ofInt hb, msb_ofInt hs]
 simp
theorem i64_wrap64 (n : Int) : I64 (wrap64 n) := by unfold I64 wrap64; omega

/-- Does the number fit? -/
def fits (n : Int) : Bool := decide (-9223372036854775808 ≤ n) && decide (n ≤ 9223372036854775807)
theorem fits_iff {n : Int} : fits n = true ↔ I64 n := by unfold fits I64; simp
theorem fits_not {n : Int} : fits n = false ↔ ¬ I64 n := by rw [← fits_iff]; simp
theorem add_over {a b : Int} (ha : I64 a) (hb : I64 b) : decide (bits .and .i64 (bits .xor .i64 a (wrap64 (a + b))) (bits .xor .i64 b (wrap64 (a + b))) < 0) = !fits (a + b) := by
 have h := sign_add a b (wrap64 (a + b)) ha hb (i64_wrap64 _)
 rw [Bool.eq_iff_iff, decide_eq_true_iff, h, Bool.not_eq_true', fits_not]
 unfold I64 at *
 simp only [ne_eq, decide_eq_decide]
 unfold wrap64
 omega
theorem sub_over {a b : Int} (ha : I64 a) (hb : I64 b) : decide (bits .and .i64 (bits .xor .i64 a b) (bits .xor .i64 a (wrap64 (a - b))) < 0) = !fits (a - b) := by
 have h := sign_sub a b (wrap64 (a - b)) ha hb (i64_wrap64 _)
 rw [Bool.eq_iff_iff, decide_eq_true_iff, h, Bool.not_eq_true', fits_not]
 unfold I64 at *
 simp only [ne_eq, decide_eq_decide]
 unfold wrap64
 omega
/-- The number, or 0 where it goes round. -/
def held (n : Int) : Int := if fits n = true then n else 0
theorem held_yes {n : Int} (h : fits n = true) : held n = n := if_pos h
theorem held_no {n : Int} (h : fits n = false) : held n = 0 := if_neg (by simp [h])
theorem held_i64 (n : Int) : I64 (held n) := by
 cases h : fits n
 ·rw [held_no h]; unfold I64; omega
 ·rw [held_yes h]; exact fits_iff.1 h

theorem and_mask {a : Int} (h0 : 0 ≤ a) (h1 : a < 18446744073709551616) : bits .and .u64 a 4294967295 = a % 4294967296 :=
 bits_mask .u64 64 (by decide) (fun n h0 h1 => by simp [IntKind.wrap, IntKind.bits, IntKind.signed]; omega) 32 (by decide) a h0 (by omega)
theorem u64w {a : Int} (h0 : 0 ≤ a) (h1 : a < 18446744073709551616) : IntKind.u64.wrap a = a := by simp [IntKind.wrap, IntKind.bits, IntKind.signed]; omega
theorem u64wd (a : Int) : IntKind.u64.wrap a = a % 18446744073709551616 := by simp [IntKind.wrap, IntKind.bits, IntKind.signed]
theorem mul64_hi {a b : Int} (ha0 : 0 ≤ a) (ha : a < 18446744073709551616) (hb0 : 0 ≤ b) (hb : b < 18446744073709551616) :
  IntKind.u64.wrap ((IntKind.u64.wrap ((IntKind.u64.wrap ((a / 4294967296) * (b / 4294967296))) + ((IntKind.u64.wrap ((IntKind.u64.wrap ((a / 4294967296) * (Go.bits .and .u64 b 4294967295))) + ((IntKind.u64.wrap ((Go.bits .and .u64 a 4294967295) * (Go.bits .and .u64 b 4294967295))) / 4294967296))) / 4294967296))) + ((IntKind.u64.wrap ((Go.bits .and .u64 (IntKind.u64.wrap ((IntKind.u64.wrap ((a / 4294967296) * (Go.bits .and .u64 b 4294967295))) + ((IntKind.u64.wrap ((Go.bits .and .u64 a 4294967295) * (Go.bits .and .u64 b 4294967295))) / 4294967296))) 4294967295) + (IntKind.u64.wrap ((Go.bits .and .u64 a 4294967295) * (b / 4294967296))))) / 4294967296)) = a * b / 18446744073709551616 := by
 rw [and_mask ha0 ha, and_mask hb0 hb]
 obtain ⟨x, rfl⟩ := Int.eq_ofNat_of_zero_le ha0
 obtain ⟨y, rfl⟩ := Int.eq_ofNat_of_zero_le hb0
 have h := Lib.mul64_hi x y (by omega) (by omega)
 obtain ⟨h1, h2, h3, h4⟩ := h
 rw [show (x : Int) % 4294967296 = ((x % 4294967296 : Nat) : Int) by omega, show (y : Int) % 4294967296 = ((y % 4294967296 : Nat) : Int) by omega,
  show (x : Int) / 4294967296 = ((x / 4294967296 : Nat) : Int) by omega, show (y : Int) / 4294967296 = ((y / 4294967296 : Nat) : Int) by omega,
  ← Int.natCast_mul, ← Int.natCast_mul, ← Int.natCast_mul, ← Int.natCast_mul, ← Int.natCast_mul]
 have hxy : x * y < 18446744073709551616 * 18446744073709551616 := Nat.mul_lt_mul'' (by omega) (by omega)
 generalize x % 4294967296 * (y % 4294967296) = p at *
 generalize x / 4294967296 * (y % 4294967296) = q at *
 generalize x % 4294967296 * (y / 4294967296) = r at *
 generalize x / 4294967296 * (y / 4294967296) = s at *
 generalize x * y = m at *
 rw [u64w (a := (p : Int)) (by omega) (by omega), u64w (a := (q : Int)) (by omega) (by omega), u64w (a := (r : Int)) (by omega) (by omega), u64w (a := (s : Int)) (by omega) (by omega)]
 rw [u64w (a := (q : Int) + (p : Int) / 4294967296) (by omega) (by omega)]
 rw [and_mask (by omega) (by omega)]
 rw [u64w (a := _ + (r : Int)) (by omega) (by omega)]
 rw [u64w (a := (s : Int) + _) (by omega) (by omega)]
 rw [u64w (by omega) (by omega)]
 omega
theorem size_neg {a : Int} (ha : I64 a) (h : a < 0) : IntKind.u64.wrap (-(IntKind.u64.wrap a)) = (a.natAbs : Int) := by
 unfold I64 at ha; rw [u64wd, u64wd]; omega
theorem size_pos {a : Int} (ha : I64 a) (h : ¬ a < 0) : IntKind.u64.wrap a = (a.natAbs : Int) := by
 unfold I64 at ha; rw [u64wd]; omega
theorem mul_sign (a b : Int) : a * b = if (decide (a < 0) != decide (b < 0)) = true then -((a.natAbs * b.natAbs : Nat) : Int) else ((a.natAbs * b.natAbs : Nat) : Int) := by
 rw [Int.natCast_mul]
 by_cases h1 : a < 0 <;> by_cases h2 : b < 0
 ·have e1 : (a.natAbs : Int) = -a := by omega
  have e2 : (b.natAbs : Int) = -b := by omega
  rw [e1, e2]; simp [h1, h2, Int.neg_mul_neg]
 ·have e1 : (a.natAbs : Int) = -a := by omega
  have e2 : (b.natAbs : Int) = b := by omega
  rw [e1, e2]; simp [h1, h2, Int.neg_mul]
 ·have e1 : (a.natAbs : Int) = a := by omega
  have e2 : (b.natAbs : Int) = -b := by omega
  rw [e1, e2]; simp [h1, h2, Int.mul_neg]
 ·have e1 : (a.natAbs : Int) = a := by omega
  have e2 : (b.natAbs : Int) = b := by omega
  rw [e1, e2]; simp [h1, h2]
end Go.Proofs.YtniocgnfgpaioaaGreat.Sc
end
section
namespace Go.Proofs.YtniocgnfgpaioaaGreat.Mo
open Go Go.RowKit Go.Proofs.YtniocgnfgpaioaaGreat.Lb

set_option maxHeartbeats 1000000 in
theorem isName_is (v : V) (bx : Nat) (s : ByteArray) (w : World) (hb : w.cell? ⟨bx, 0, none⟩ = some (.string s)) :
  Calls Tryz.prog 141 #[v.val, .pointer (some ⟨bx, 0, none⟩)] w fun e w' => e = .returned (.bool (v.name.toList == s.toList)) ∧ Kept Nil w w' := by
 obtain ⟨name, init⟩ := v
 have hlt := World.block_lt_of_cell? _ _ hb
 unfold V.val
 go_enter Tryz.func141, Tryz.ntmps141
 go_wp2
 go_ret
 exact ⟨rfl, (by (repeat (first | exact Kept.refl _ _ | refine Kept.drew ?_ | refine Kept.alloc ?_ _)))⟩
set_option maxHeartbeats 2000000 in
theorem IndexFunc_is (vs : List V) (A : Option Addr) (cap bx : Nat) (s : ByteArray) (w : World) (hr : RVars w A vs) (hb : w.cell? ⟨bx, 0, none⟩ = some (.string s)) (hm : vs.length ≤ 9223372036854775807) :
  Calls Tryz.prog 140 #[.slice A vs.length cap, .func (.func 141) #[] #[.pointer (some ⟨bx, 0, none⟩)]] w fun e w' => e = .returned (.int .i64 (varIx vs s)) ∧ Kept Nil w w' := by
 have HR := Lib.hid hr
 have HB := Lib.hid hb
 clear hr hb
 go_enter Tryz.func140, Tryz.ntmps140
 go_wp2_with fail
 go_loopw [8] (fun i wr => ∃ k : Nat, k ≤ vs.length ∧ i = .int .i64 k ∧ (∀ j v, j < k → vs[j]? = some v → v.name.toList ≠ s.toList) ∧ Kept Nil w wr) (fun i _ => vs.length - (intOf i).toNat)
 case atStart => exact ⟨0, Nat.zero_le _, rfl, fun j v h => by omega, Kept.refl _ _⟩
 case round =>
  obtain ⟨k, hk, rfl, hne, hK⟩ := hrel
  have HNE := Lib.hid hne
  have HK := Lib.hid hK
  clear hne hK
  by_cases hlt : k < vs.length
  ·obtain ⟨v, ev⟩ : ∃ v, vs[k]? = some v := ⟨_, List.getElem?_eq_getElem hlt⟩
   obtain ⟨b, off, rfl, c0, c1⟩ := (HR.out.kept HK.out (fun _ _ _ _ h => h)).at ev
   have HEV := Lib.hid ev
   clear ev
   have hel := HB.out
   go_wp2_with fail
   refine (isName_is v bx s wr (HK.out.cell HB.out (fun h => h))).mono ?_
   rintro e w1 ⟨rfl, hk1⟩
   have HK1 := Lib.hid (HK.out.step hk1)
   clear hk1 hel
   by_cases hn : v.name.toList = s.toList
   ·have hb : (v.name.toList == s.toList) = true := by simp [hn]
    have HV := Lib.hid (varIx_some HNE.out HEV.out hn)
    clear hn
    go_wp2_with fail
    go_ret
    exact ⟨by rw [HV.out]; rfl, HK1.out⟩
   ·have hb : (v.name.toList == s.toList) = false := by simp [hn]
    have HN := Lib.hid hn
    clear hn
    go_wp2_with fail
    go_round
    case measure => (simp [intOf] <;> omega)
    refine ⟨k + 1, by omega, by go_num, fun j u hj hu => ?_, HK1.out⟩
    by_cases e : j = k
    ·subst e
     rw [HEV.out] at hu; cases hu
     exact HN.out
    ·exact HNE.out j u (by omega) hu
  ·obtain rfl : k = vs.length := by omega
   have HV := Lib.hid (varIx_none (fun i v hi => HNE.out i v (List.getElem?_eq_some_iff.1 hi).1 hi))
   go_wp2_with fail
   go_ret
   exact ⟨by rw [HV.out]; rfl, HK.out⟩
/-- A process. -/
structure Pr where
 name : ByteArray
 weight : Int
 va : Option Addr
 vs : List V
 vc : Nat
 sa : Option Addr
 ss : List S
 sc : Nat
def Pr.val (p : Pr) : Value := .agg #[.string p.name, .int .i64 p.weight, .slice p.va p.vs.length p.vc, .slice p.sa p.ss.length p.sc]
structure RProc (w : World) (p : Pr) : Prop where
 v : RVars w p.va p.vs
 s : RSteps w p.sa p.ss
 vl : p.vs.length ≤ maxLen
 sl : p.ss.length ≤ maxLen
 si : ∀ s ∈ p.ss, Sc.I64 s.an
theorem RProc.kept {w w' : World} {K : Nat → Prop} {p : Pr} (h : RProc w p) (hk : Kept K w w') (hv : ∀ b off, p.vs ≠ [] → p.va = some ⟨b, off, none⟩ → ¬ K b) (hs : ∀ b off, p.ss ≠ [] → p.sa = some ⟨b, off, none⟩ → ¬ K b) : RProc w' p := ⟨h.v.kept hk hv, h.s.kept hk hs, h.vl, h.sl, h.si⟩
theorem RProc.nil {w w' : World} {p : Pr} (h : RProc w p) (hk : Kept Nil w w') : RProc w' p := h.kept hk (fun _ _ _ _ h => h) (fun _ _ _ _ h => h)
set_option maxHeartbeats 1000000 in
theorem Var_is (p : Pr) (s : ByteArray) (w : World) (hr : RProc w p) : Calls Tryz.prog 119 #[p.val, .string s] w fun e w' => e = .returned (.int .i64 (varIx p.vs s)) ∧ Kept Nil w w' := by
 have HR := Lib.hid hr
 have hvl := hr.vl
 unfold maxLen at hvl
 clear hr
 obtain ⟨name, weight, va, vs, vc, sa, ss, sc⟩ := p
 unfold Pr.val
 simp only at *
 go_enter Tryz.func119, Tryz.ntmps119
 go_wp2_with fail
 refine (IndexFunc_is vs va vc (w.heap.size + 1) s _ ((HR.out.nil (((Kept.refl Nil w).alloc _).alloc _)).v) (by simp) (by omega)).mono ?_
 rintro e w1 ⟨rfl, hk1⟩
 have HK := Lib.hid ((((Kept.refl Nil w).alloc _).alloc _).step hk1)
 clear hk1
 go_wp2_with fail
 go_ret
 exact ⟨rfl, HK.out⟩
set_option maxHeartbeats 2000000 in
theorem RefVar_is (p : Pr) (s : ByteArray) (w : World) (hr : RProc w p) : Calls Tryz.prog 96 #[p.val, .string s] w fun e w' => e = .returned (.int .i64 (varIx p.vs s)) ∧ Kept Nil w w' := by
 have HR := Lib.hid hr
 have hvl := hr.vl
 unfold maxLen at hvl
 clear hr
 obtain ⟨name, weight, va, vs, vc, sa, ss, sc⟩ := p
 unfold Pr.val
 simp only at *
 go_enter Tryz.func96, Tryz.ntmps96
 go_wp2_with fail
 obtain ⟨W0, hW0⟩ : ∃ W0, w.alloc (.cells #[.string name, .int .i64 weight, .slice va vs.length vc, .slice sa ss.length sc] 34) = W0 := ⟨_, rfl⟩
 have hk0 : Kept Nil w W0 := by rw [← hW0]; exact (Kept.refl Nil w).alloc _
 have hp2 : W0.cell? ⟨w.heap.size, 2, none⟩ = some (.slice va vs.length vc) := by rw [← hW0]; simp
 have HK0 := Lib.hid hk0
 have HP2 := Lib.hid hp2
 rw [hW0]
 clear hW0 hk0 hp2
 go_loopw [5] (fun i wr => ∃ k : Nat, k ≤ vs.length ∧ i = .int .i64 k ∧ (∀ (j : Nat) (v : V), j < k → vs[j]? = some v → v.name.toList ≠ s.toList) ∧ Kept Nil W0 wr) (fun i _ => vs.length - (intOf i).toNat)
 case atStart => exact ⟨0, Nat.zero_le _, rfl, fun j v h => by omega, Kept.refl _ _⟩
 case round =>
  obtain ⟨k, hk, rfl, hne, hK⟩ := hrel
  have HNE := Lib.hid hne
  have HK := Lib.hid (HK0.out.step hK)
  have HK2 := Lib.hid hK
  have p2 := hK.cell HP2.out (fun h => h)
  clear hne hK
  by_cases hlt : k < vs.length
  ·obtain ⟨v, ev⟩ : ∃ v, vs[k]? = some v := ⟨_, List.getElem?_eq_getElem hlt⟩
   obtain ⟨b, off, e1, c0, c1⟩ := ((HR.out.nil HK.out).v).at ev
   simp only at e1
   subst e1
   have HEV := Lib.hid ev
   clear ev
   by_cases hn : v.name.toList = s.toList
   ·have hb : (v.name.toList == s.toList) = true := by simp [hn]
    have HV := Lib.hid (varIx_some HNE.out HEV.out hn)
    clear hn
    go_wp2_with fail
    go_ret
    exact ⟨by rw [HV.out]; rfl, HK.out⟩
   ·have hb : (v.name.toList == s.toList) = false := by simp [hn]
    have HN := Lib.hid hn
    clear hn
    go_wp2_with fail
    go_round
    case measure => (simp [intOf] <;> omega)
    refine ⟨k + 1, by omega, by go_num, fun j u hj hu => ?_, HK2.out⟩
    by_cases e : j = k
    ·subst e
     rw [HEV.out] at hu; cases hu
     exact HN.out
    ·exact HNE.out j u (by omega) hu
  ·obtain rfl : k = vs.length := by omega
   have HV := Lib.hid (varIx_none (fun i v hi => HNE.out i v (List.getElem?_eq_some_iff.1 hi).1 hi))
   go_wp2_with fail
   go_ret
   exact ⟨by rw [HV.out]; rfl, HK.out⟩
end Go.Proofs.YtniocgnfgpaioaaGreat.Mo
end
section
namespace Go.Proofs.YtniocgnfgpaioaaGreat.Mo
open Go Go.RowKit Go.Proofs.YtniocgnfgpaioaaGreat.Lb

structure Lk where
 name : ByteArray
 src : ByteArray
 dst : ByteArray
 delay : Int
 weight : Int
structure Ev where
 to : ByteArray
 at_ : Int
 value : Int
structure Md where
 version : Int
 pa : Option Addr
 ps : List Pr
 pc : Nat
 la : Option Addr
 ls : List Lk
 lc : Nat
 ea : Option Addr
 es : List Ev
 ec : Nat
def Md.val (m : Md) : Value := .agg #[.int .i64 m.version, .slice m.pa m.ps.length m.pc, .slice m.la m.ls.length m.lc, .slice m.ea m.es.length m.ec]
def RProcs (w : World) (A : Option Addr) (ps : List Pr) : Prop :=
 ps = [] ∨ ∃ b off, A = some ⟨b, off, none⟩ ∧ ∀ j p, ps[j]? = some p → w.cell? ⟨b, off + j * 4, none⟩ = some (.string p.name) ∧ w.cell? ⟨b, off + j * 4 + 1, none⟩ = some (.int .i64 p.weight) ∧
  w.cell? ⟨b, off + j * 4 + 2, none⟩ = some (.slice p.va p.vs.length p.vc) ∧ w.cell? ⟨b, off + j * 4 + 3, none⟩ = some (.slice p.sa p.ss.length p.sc)
def RLinks (w : World) (A : Option Addr) (ls : List Lk) : Prop :=
 ls = [] ∨ ∃ b off, A = some ⟨b, off, none⟩ ∧ ∀ j l, ls[j]? = some l → w.cell? ⟨b, off + j * 5, none⟩ = some (.string l.name) ∧ w.cell? ⟨b, off + j * 5 + 1, none⟩ = some (.string l.src) ∧
  w.cell? ⟨b, off + j * 5 + 2, none⟩ = some (.string l.dst) ∧ w.cell? ⟨b, off + j * 5 + 3, none⟩ = some (.int .i64 l.delay) ∧ w.cell? ⟨b, off + j * 5 + 4, none⟩ = some (.int .i64 l.weight)
def REvents (w : World) (A : Option Addr) (es : List Ev) : Prop :=
 es = [] ∨ ∃ b off, A = some ⟨b, off, none⟩ ∧ ∀ j e, es[j]? = some e → w.cell? ⟨b, off + j * 3, none⟩ = some (.string e.to) ∧ w.cell? ⟨b, off + j * 3 + 1, none⟩ = some (.int .i64 e.at_) ∧ w.cell? ⟨b, off + j * 3 + 2, none⟩ = some (.int .i64 e.value)
structure RModel (w : World) (m : Md) : Prop where
 p : RProcs w m.pa m.ps
 pp : ∀ q ∈ m.ps, RProc w q
 l : RLinks w m.la m.ls
 e : REvents w m.ea m.es
 pl : m.ps.length ≤ maxLen
 ll : m.ls.length ≤ maxLen
 el : m.es.length ≤ maxLen
theorem RProcs.at {w : World} {A : Option Addr} {ps : List Pr} (h : RProcs w A ps) {k : Nat} {p : Pr} (hv : ps[k]? = some p) :
  ∃ b off, A = some ⟨b, off, none⟩ ∧ w.cell? ⟨b, off + k * 4, none⟩ = some (.string p.name) ∧ w.cell? ⟨b, off + k * 4 + 1, none⟩ = some (.int .i64 p.weight) ∧
  w.cell? ⟨b, off + k * 4 + 2, none⟩ = some (.slice p.va p.vs.length p.vc) ∧ w.cell? ⟨b, off + k * 4 + 3, none⟩ = some (.slice p.sa p.ss.length p.sc) := by
 rcases h with rfl | ⟨b, off, h, hc⟩
 ·simp at hv
 ·exact ⟨b, off, h, hc k p hv⟩
theorem RLinks.at {w : World} {A : Option Addr} {ls : List Lk} (h : RLinks w A ls) {k : Nat} {l : Lk} (hv : ls[k]? = some l) :
  ∃ b off, A = some ⟨b, off, none⟩ ∧ w.cell? ⟨b, off + k * 5, none⟩ = some (.string l.name) ∧ w.cell? ⟨b, off + k * 5 + 1, none⟩ = some (.string l.src) ∧
  w.cell? ⟨b, off + k * 5 + 2, none⟩ = some (.string l.dst) ∧ w.cell? ⟨b, off + k * 5 + 3, none⟩ = some (.int .i64 l.delay) ∧ w.cell? ⟨b, off + k * 5 + 4, none⟩ = some (.int .i64 l.weight) := by
 rcases h with rfl | ⟨b, off, h, hc⟩
 ·simp at hv
 ·exact ⟨b, off, h, hc k l hv⟩
theorem RModel.nil {w w' : World} {m : Md} (h : RModel w m) (hk : Kept Nil w w') : RModel w' m := by
 refine ⟨?_, fun q hq => (h.pp q hq).nil hk, ?_, ?_, h.pl, h.ll, h.el⟩
 ·rcases h.p with e | ⟨b, off, e, hc⟩
  ·exact .inl e
  ·exact .inr ⟨b, off, e, fun j p hj => by obtain ⟨h1, h2, h3, h4⟩ := hc j p hj; exact ⟨hk.cell h1 (fun h => h), hk.cell h2 (fun h => h), hk.cell h3 (fun h => h), hk.cell h4 (fun h => h)⟩⟩
 ·rcases h.l with e | ⟨b, off, e, hc⟩
  ·exact .inl e
  ·exact .inr ⟨b, off, e, fun j p hj => by obtain ⟨h1, h2, h3, h4, h5⟩ := hc j p hj; exact ⟨hk.cell h1 (fun h => h), hk.cell h2 (fun h => h), hk.cell h3 (fun h => h), hk.cell h4 (fun h => h), hk.cell h5 (fun h => h)⟩⟩
 ·rcases h.e with e | ⟨b, off, e, hc⟩
  ·exact .inl e
  ·exact .inr ⟨b, off, e, fun j p hj => by obtain ⟨h1, h2, h3⟩ := hc j p hj; exact ⟨hk.cell h1 (fun h => h), hk.cell h2 (fun h => h), hk.cell h3 (fun h => h)⟩⟩
/-- All names. -/
def prNames (p : Pr) : List ByteArray := p.name :: p.vs.map V.name
def mdNames (m : Md) : List ByteArray := m.ps.flatMap prNames ++ m.ls.map Lk.name
end Go.Proofs.YtniocgnfgpaioaaGreat.Mo
end
section
namespace Go.Proofs.YtniocgnfgpaioaaGreat.Lb
open Go Go.RowKit Go.Maps

structure SeenS (P : Program) (K E : TypeId) (b k : Nat) (ts : List (List UInt8)) (W : World) : Prop where
 own : ∃ D : DataW Unit, W.ownsMap P K (plainElem P E) b k D ∧ ∀ t : List UInt8, D.atKey (.string t) (.lit (.bool false)) = .lit (.bool (decide (t ∈ ts)))
theorem SeenS.made (w : World) (P : Program) (K E : TypeId) : SeenS P K E w.heap.size 0 [] (w.alloc (.map #[] 0)) :=
 ⟨.map [], World.ownsMap_made w P K _, fun t => by simp [DataW.atKey]⟩
theorem SeenS.block {P : Program} {K E : TypeId} {b k : Nat} {ts : List (List UInt8)} {W : World} (h : SeenS P K E b k ts W) : ∃ es clk, W.heap[b]? = some (.map es clk) := by
 obtain ⟨D, ⟨es, clock, hb, r⟩, hD⟩ := h.own
 exact ⟨es, clock, hb⟩
theorem SeenS.same {P : Program} {K E : TypeId} {b k : Nat} {ts : List (List UInt8)} {W W' : World} (h : SeenS P K E b k ts W) (hk : W'.heap[b]? = W.heap[b]?) : SeenS P K E b k ts W' := by
 obtain ⟨D, ⟨es, clock, hb, r⟩, hD⟩ := h.own
 exact ⟨D, ⟨es, clock, by rw [hk]; exact hb, r⟩, hD⟩
theorem SeenS.look {P : Program} {K E T : TypeId} {b k : Nat} {ts : List (List UInt8)} {W : World} (h : SeenS P K E b k ts W) (hK : P.underlying K = some .string) (hE : P.underlying E = some .bool) (hT : P.underlying T = some (.map K E)) (hz : ∀ w, (zeroValue E).run P w = .ok (.bool false) w) (s : ByteArray) (hs : s.size ≤ maxLen) :
  (Instr.lookup T (.map (some b)) (.string s) false).run P W = .ok (.bool (decide (s.data.toList ∈ ts))) W := by
 obtain ⟨D, ho, hD⟩ := h.own
 obtain ⟨v, ps, hrun, hv⟩ := ho.lookup (string_keyed hK) hT (hz W) (plainElem_bool hE false) (show keyOf P K (.string s) = some (.string s.data.toList) by simp [keyOf, hK, mapKey, hs])
 rw [hD] at hv
 unfold plainElem at hv
 rw [hE] at hv
 cases v <;> simp at hv
 rw [hrun, hv.1]
theorem SeenS.put {P : Program} {K E : TypeId} {b k : Nat} {ts : List (List UInt8)} {W' : World} {D : DataW Unit} (hm : IsMap D) (hD : ∀ t : List UInt8, D.atKey (.string t) (.lit (.bool false)) = .lit (.bool (decide (t ∈ ts)))) (t0 : List UInt8)
  (h : W'.ownsMap P K (plainElem P E) b (k + 1) (D.put (.string t0) (.lit (.bool true)))) : SeenS P K E b (k + 1) (ts ++ [t0]) W' := by
 refine ⟨_, h, fun t => ?_⟩
 by_cases e : t = t0
 ·subst e
  rw [atKey_put_same hm (by first | exact trivial | simp [WideAt.IsKeyLit] | decide)]
  simp
 ·rw [atKey_put_other (fun h => e (by cases h; rfl)), hD t]
  congr 2
  simp [e]

/-- Strings, each once. -/
def ky (s : ByteArray) : List UInt8 := s.data.toList
def dstep (acc : List ByteArray) (s : ByteArray) : List ByteArray := if ky s ∈ acc.map ky then acc else acc ++ [s]
def dist (xs : List ByteArray) : List ByteArray := xs.foldl dstep []
theorem dist_snoc (xs : List ByteArray) (s : ByteArray) : dist (xs ++ [s]) = dstep (dist xs) s := by unfold dist; rw [List.foldl_append]; rfl
theorem dstep_mem (acc : List ByteArray) (s : ByteArray) (t : List UInt8) : t ∈ (dstep acc s).map ky ↔ t ∈ acc.map ky ∨ t = ky s := by
 unfold dstep
 split
 ·rename_i h
  constructor
  ·exact .inl
  ·rintro (h' | rfl)
   ·exact h'
   ·exact h
 ·simp
theorem dist_mem (t : List UInt8) (xs : List ByteArray) : t ∈ (dist xs).map ky ↔ t ∈ xs.map ky := by
 have : ∀ (ys acc : List ByteArray), t ∈ (ys.foldl dstep acc).map ky ↔ t ∈ acc.map ky ∨ t ∈ ys.map ky := by
  intro ys
  induction ys with
  | nil => intro acc; simp
  | cons y ys ih => intro acc; rw [List.foldl_cons, ih, dstep_mem, List.map_cons, List.mem_cons]; exact or_assoc
 rw [dist, this]; simp
theorem dstep_prefix (ys acc : List ByteArray) : acc <+: ys.foldl dstep acc := by
 induction ys generalizing acc with
 | nil => exact List.prefix_refl _
 | cons y ys ih =>
  rw [List.foldl_cons]
  refine List.IsPrefix.trans ?_ (ih _)
  unfold dstep
  split
  ·exact List.prefix_refl _
  ·exact List.prefix_append _ _
theorem dist_take (xs : List ByteArray) (k : Nat) : dist (xs.take k) <+: dist xs := by
 have : dist xs = (xs.drop k).foldl dstep (dist (xs.take k)) := by
  unfold dist
  rw [← List.foldl_append, List.take_append_drop]
 rw [this]
 exact dstep_prefix _ _
theorem dist_len (xs : List ByteArray) : (dist xs).length ≤ xs.length := by
 have : ∀ (ys acc : List ByteArray), (ys.foldl dstep acc).length ≤ acc.length + ys.length := by
  intro ys
  induction ys with
  | nil => intro acc; simp
  | cons y ys ih =>
   intro acc
   rw [List.foldl_cons]
   refine Nat.le_trans (ih _) ?_
   unfold dstep
   split <;> simp <;> omega
 have h := this xs []
 unfold dist
 simpa using h
end Go.Proofs.YtniocgnfgpaioaaGreat.Lb
end
section
namespace Go.Proofs.YtniocgnfgpaioaaGreat.Mo
open Go Go.RowKit Go.Proofs.YtniocgnfgpaioaaGreat.Lb

/-- The first place of a string. -/
def findS (ns : List ByteArray) (s : ByteArray) : Option Nat := ns.findIdx? (fun t => t.toList == s.toList)
def findI (ns : List ByteArray) (s : ByteArray) : Int := match findS ns s with | some k => (k : Int) | none => -1
theorem findS_some {ns : List ByteArray} {s t : ByteArray} {k : Nat} (h : ∀ (j : Nat) (t : ByteArray), j < k → ns[j]? = some t → t.toList ≠ s.toList) (hk : ns[k]? = some t) (e : t.toList = s.toList) : findS ns s = some k := by
 unfold findS
 rw [List.findIdx?_eq_some_iff_getElem]
 have hkl := (List.getElem?_eq_some_iff.1 hk)
 refine ⟨hkl.1, by rw [hkl.2]; simp [e], fun j hj => ?_⟩
 have := h j (ns[j]'(Nat.lt_trans hj hkl.1)) hj (List.getElem?_eq_getElem _)
 simpa using this
theorem findS_none {ns : List ByteArray} {s : ByteArray} (h : ∀ (j : Nat) (t : ByteArray), j < ns.length → ns[j]? = some t → t.toList ≠ s.toList) : findS ns s = none := by
 unfold findS
 rw [List.findIdx?_eq_none_iff]
 intro t ht
 obtain ⟨j, hj⟩ := List.mem_iff_getElem?.1 ht
 simpa using h j t (List.getElem?_eq_some_iff.1 hj).1 hj
theorem findI_some {ns : List ByteArray} {s t : ByteArray} {k : Nat} (h : ∀ (j : Nat) (t : ByteArray), j < k → ns[j]? = some t → t.toList ≠ s.toList) (hk : ns[k]? = some t) (e : t.toList = s.toList) : findI ns s = k := by
 unfold findI; rw [findS_some h hk e]
theorem findI_none {ns : List ByteArray} {s : ByteArray} (h : ∀ (j : Nat) (t : ByteArray), j < ns.length → ns[j]? = some t → t.toList ≠ s.toList) : findI ns s = -1 := by
 unfold findI; rw [findS_none h]
theorem findI_cases (ns : List ByteArray) (s : ByteArray) : (findI ns s = -1 ∧ ∀ t ∈ ns, t.toList ≠ s.toList) ∨
  ∃ (k : Nat) (t : ByteArray), findI ns s = k ∧ ns[k]? = some t ∧ t.toList = s.toList ∧ ∀ (j : Nat) (t : ByteArray), j < k → ns[j]? = some t → t.toList ≠ s.toList := by
 unfold findI
 cases h : findS ns s with
 | none =>
  refine .inl ⟨rfl, fun t ht => ?_⟩
  have := (List.findIdx?_eq_none_iff.1 h) t ht
  simpa using this
 | some k =>
  obtain ⟨h1, h2, h3⟩ := List.findIdx?_eq_some_iff_getElem.1 h
  refine .inr ⟨k, ns[k], rfl, List.getElem?_eq_getElem h1, by simpa using h2, fun j t hj ht => ?_⟩
  obtain ⟨hjl, rfl⟩ := List.getElem?_eq_some_iff.1 ht
  simpa using h3 j hj
theorem ky_list (s : ByteArray) : s.toList = ky s := by unfold ky; exact ByteArray.toList_eq s
theorem findI_neg (ns : List ByteArray) (s : ByteArray) : findI ns s < 0 ↔ ky s ∉ ns.map ky := by
 rcases findI_cases ns s with ⟨h1, h2⟩ | ⟨k, t, h1, h2, h3, h4⟩
 ·rw [h1]
  refine ⟨fun _ hm => ?_, fun _ => by omega⟩
  obtain ⟨t, ht, e⟩ := List.mem_map.1 hm
  exact h2 t ht (by rw [ky_list, ky_list]; exact e)
 ·rw [h1]
  refine ⟨fun h => by omega, fun hm => absurd (List.mem_map.2 ⟨t, List.mem_of_getElem? h2, ?_⟩) hm⟩
  rw [← ky_list, ← ky_list]; exact h3
end Go.Proofs.YtniocgnfgpaioaaGreat.Mo
end
section
namespace Go.Proofs.YtniocgnfgpaioaaGreat.Mo
open Go Go.RowKit

def letterB (c : UInt8) : Bool := decide (97 ≤ (c.toNat : Int)) && decide ((c.toNat : Int) ≤ 122)
def otherB (c : UInt8) : Bool := (decide (48 ≤ (c.toNat : Int)) && decide ((c.toNat : Int) ≤ 57)) || ((c.toNat : Int) == 95)
def rightList (l : List UInt8) : Bool := decide (1 ≤ l.length) && decide (l.length ≤ 64) && (match l with | [] => false | c :: _ => letterB c) && l.all (fun c => letterB c || otherB c)
def rightName (s : ByteArray) : Bool := rightList s.data.toList
/-- The code of a name: 0, or 40. -/
def nameC (s : ByteArray) : Int := if rightName s = true then 0 else 40
theorem get_list (s : ByteArray) (j : Nat) (h : j < s.size) : s.data.toList[j]? = some s[j] := by
 rw [List.getElem?_eq_getElem (by simpa using h)]; rfl
theorem size_list (s : ByteArray) : s.data.toList.length = s.size := by simp
theorem right_yes {s : ByteArray} (h1 : 1 ≤ s.size) (h2 : s.size ≤ 64) (h3 : letterB s[0] = true) (h4 : ∀ (j : Nat) (h : j < s.size), (letterB s[j] || otherB s[j]) = true) : rightName s = true := by
 unfold rightName rightList
 have h0 := get_list s 0 (by omega)
 have hall : s.data.toList.all (fun c => letterB c || otherB c) = true := by
  rw [List.all_eq_true]
  intro c hc
  obtain ⟨j, hj⟩ := List.mem_iff_getElem?.1 hc
  have hjl : j < s.size := by rw [← size_list]; exact (List.getElem?_eq_some_iff.1 hj).1
  rw [get_list s j hjl] at hj
  cases hj
  exact h4 j hjl
 rw [hall, size_list]
 cases hl : s.data.toList with
 | nil => rw [hl] at h0; simp at h0
 | cons c l =>
  rw [hl] at h0
  simp at h0
  subst h0
  simp [h1, h2, h3]
theorem right_parts' {s : ByteArray} (h : rightName s = true) : 1 ≤ s.size ∧ s.size ≤ 64 ∧ ∀ c, s.data.toList[0]? = some c → letterB c = true := by
 unfold rightName rightList at h
 rw [size_list] at h
 simp only [Bool.and_eq_true, decide_eq_true_eq] at h
 refine ⟨h.1.1.1, h.1.1.2, fun c hc => ?_⟩
 cases hl : s.data.toList with
 | nil => rw [hl] at hc; simp at hc
 | cons d l =>
  have h3 := h.1.2
  rw [hl] at hc h3
  simp at hc
  subst hc
  exact h3
theorem right_all {s : ByteArray} (h : rightName s = true) : ∀ (j : Nat) (hj : j < s.size), (letterB s[j] || otherB s[j]) = true := by
 unfold rightName rightList at h
 simp only [Bool.and_eq_true, List.all_eq_true] at h
 intro j hj
 exact h.2 _ (List.mem_of_getElem? (get_list s j hj))
theorem right_no_size {s : ByteArray} (h : s.size < 1 ∨ 64 < s.size) : rightName s = false := by
 cases hr : rightName s with
 | false => rfl
 | true => have := right_parts' hr; omega
theorem right_no_first {s : ByteArray} (h0 : 0 < s.size) (h : letterB s[0] = false) : rightName s = false := by
 cases hr : rightName s with
 | false => rfl
 | true => have := (right_parts' hr).2.2 _ (get_list s 0 h0); rw [h] at this; cases this
theorem right_no_at {s : ByteArray} {j : Nat} (hj : j < s.size) (h : (letterB s[j] || otherB s[j]) = false) : rightName s = false := by
 cases hr : rightName s with
 | false => rfl
 | true => have := right_all hr j hj; rw [h] at this; cases this
theorem nameC_yes {s : ByteArray} (h : rightName s = true) : nameC s = 0 := by unfold nameC; rw [if_pos h]
theorem nameC_no {s : ByteArray} (h : rightName s = false) : nameC s = 40 := by unfold nameC; rw [if_neg (by rw [h]; simp)]
end Go.Proofs.YtniocgnfgpaioaaGreat.Mo
end
