/- append(row, a...) where a is a row of numbers that came in and is read. Nothing of the program is named. -/
import Derived.Test.YtnohhpinigkccaaAppend
import Derived.Test.YtnohhpinigkccaaReads
namespace Go.Proofs.Ytnohhpinigkccaa.Lb
open Go Go.RowKit
set_option linter.unusedVariables false

theorem wpList_append_reads {P : Program} {w : World} {ops : Array Oper} {rest : List Oper} {o : Oper} {a : Act} {Q : Exit → Act → World → Prop} (hgd : o.guard = none) (s x : Operand) (t : TypeId)
    (ho : o.op = .call { callee := .builtin .append, args := #[s, x], argTypes := #[t, t] })
    (base : Nat) (e : TypeId) (i : TypeInfo) (z : Value) (bytes : Nat) (ht : P.underlying t = some (.slice e)) (hi : P.info? e = some i) (hz : i.zero = some z)
    (hsize : i.size = 1) (hby : i.bytes = bytes) (hzs : z.cells.size = 1)
    (v : Value) (n : Nat) (xs : List Value) (hs : a.eval s = v) (hown : w.ownsRow base e 1 v n xs)
    (K : IntKind) (A : Option Addr) (cap : Nat) (zs : List Int) (hx : a.eval x = .slice A zs.length cap) (hr : Sc.Reads w K A zs) (hc : A = none → cap = 0)
    (h63 : n + zs.length ≤ maxLen) (hbytes : (n + zs.length) * bytes ≤ 140737488355328) (hbase : base ≤ w.heap.size)
    (h : ∀ v' w', w'.ownsRow base e 1 v' (n + zs.length) (xs ++ zs.map (Value.int K)) → w.grownBy w' v.ownBlock → wpList P ops Q rest (a.put o.dst v') w') :
    wpList P ops Q (o :: rest) a w := by
  cases A with
  | none =>
    have e0 : zs = [] := by rcases hr with h | ⟨b, off, h, _⟩ <;> first | exact h | cases h
    subst e0
    have := hc rfl
    subst this
    refine wpList_append_own_none hgd s x t ho base e i 1 ht hi v n xs hs hown hx ?_
    exact h v w (by simpa using hown) (grownBy_refl _ _)
  | some p =>
    refine wpList_append_own w hgd s x t ho base e i z 1 bytes ht hi hz hsize hby hzs (by omega) v n xs hs hown p zs.length cap (zs.map (Value.int K)) hx (by simp) ?_ (fun u hu => by obtain ⟨q, _, rfl⟩ := List.mem_map.1 hu; rfl) h63 hbytes hbase fun v' w' r1 r2 _ => h v' w' r1 r2
    intro j u hj
    rcases hr with h | ⟨b, off, h, hcell⟩
    · subst h; simp at hj
    · cases h
      rw [Go.WideShapes.add_plain]
      rw [List.getElem?_map] at hj
      cases hz : zs[j]? with
      | none => rw [hz] at hj; cases hj
      | some q =>
        rw [hz] at hj
        cases hj
        have := hcell j (List.getElem?_eq_some_iff.1 hz).1
        rw [this, hz]; rfl
end Go.Proofs.Ytnohhpinigkccaa.Lb
