/- The walks of rule.Writes and sandtablelaw26.writes. -/
import Derived.Test.YtnohhpinigkccaaDistinct
import Derived.Test.YtnohhpinigkccaaRuleA
namespace Go.Proofs.Ytnohhpinigkccaa.Mo
open Go Go.RowKit Go.Proofs.Ytnohhpinigkccaa.Lb
set_option linter.unusedVariables false
set_option linter.unusedSimpArgs false
attribute [local go_sem] Oper.semAt_some

/-- The names that are written. -/
def wrote (s : S) : Bool := decide (1 ≤ s.kind) && decide (s.kind ≤ 3)
def wNames (ss : List S) : List ByteArray := (ss.filter wrote).map S.name
theorem wNames_take (ss : List S) {k : Nat} {s : S} (h : ss[k]? = some s) : wNames (ss.take (k + 1)) = if wrote s = true then wNames (ss.take k) ++ [s.name] else wNames (ss.take k) := by
  unfold wNames
  rw [List.take_add_one, h, Option.toList_some, List.filter_append]
  split
  · rename_i hw; simp [hw]
  · rename_i hw; simp [hw]
theorem wNames_len (ss : List S) : (wNames ss).length ≤ ss.length := by
  unfold wNames; rw [List.length_map]; exact List.length_filter_le _ _
set_option maxHeartbeats 2000000 in
theorem Writes_is (p : Pr) (w : World) (hr : RProc w p) (hl : p.ss.length ≤ 100000) : Calls Try.prog 28 #[p.val] w fun e w' => ∃ (Bx : Nat) (A : Option Addr) (cap : Nat), e = .returned (.func (.func 41) #[] #[.pointer (some ⟨Bx, 0, none⟩)]) ∧
    w.heap.size ≤ Bx ∧ Boxed w' Bx 36 (.slice A (wNames p.ss).length cap) ∧ RStrs w' A (wNames p.ss) ∧ (∀ b off, A = some ⟨b, off, none⟩ → w.heap.size ≤ b ∧ b < w'.heap.size) ∧ Kept Nil w w' := by
  obtain ⟨j0, hjnf, hy0, hy1, hy2⟩ := info_parts infoStr
  have HR := Lib.hid hr
  clear hr
  obtain ⟨pn, pw, va, vs, vc, sa, ss, pc_⟩ := p
  unfold Pr.val
  simp only at *
  have hk0 : Kept Nil w (w.alloc (.cells #[.string pn, .int .i64 pw, .slice va vs.length vc, .slice sa ss.length pc_] 25)) := (Kept.refl Nil w).alloc _
  have HK0 := Lib.hid hk0
  clear hk0
  go_enter Try.func28, Try.ntmps28
  go_wp2_with fail
  go_loopw [3, 9] (fun r i wr => ∃ k : Nat, k ≤ ss.length ∧ i = .int .i64 k ∧ wr.ownsRow w.heap.size 9 1 r (wNames (ss.take k)).length ((wNames (ss.take k)).map Value.string) ∧ Kept Nil w wr) (fun _ i _ => ss.length - (intOf i).toNat)
  case atStart => exact ⟨0, Nat.zero_le _, rfl, World.ownsRow_nil _ _ _ _, HK0.out⟩
  case round =>
    obtain ⟨k, hk, rfl, hO, hK⟩ := hrel
    have HO := Lib.hid hO
    have HK := Lib.hid hK
    have hzz := hK.size
    clear hO hK
    by_cases hlt : k < ss.length
    · obtain ⟨s, es⟩ : ∃ v, ss[k]? = some v := ⟨_, List.getElem?_eq_getElem hlt⟩
      obtain ⟨b, off, e1, c0, c1, c2, c3, c4⟩ := (HR.out.nil HK.out).s.at es
      simp only at e1
      subst e1
      have hbs : b < wr.heap.size := World.block_lt_of_cell? _ _ c0
      have htk := wNames_take ss es
      have hln : (wNames (ss.take k)).length ≤ k := Nat.le_trans (wNames_len _) (by rw [List.length_take]; omega)
      clear es
      have hka : Kept Nil w (wr.alloc (.cells #[.int .i64 s.kind, .string s.name, .int .i64 s.ak, .int .i64 s.an, .string s.as_] 47)) := HK.out.alloc _
      have HKA := Lib.hid hka
      clear hka
      by_cases h1 : 1 ≤ s.kind
      · by_cases h3 : s.kind ≤ 3
        · rw [if_pos (by simp [wrote, h1, h3])] at htk
          have HTK := Lib.hid htk
          clear htk
          go_wp2_with (at_builtin; refine stop_append _ _ _ rfl ?_)
          unfold StopA
          refine wpList_append_own _ rfl _ _ 36 rfl w.heap.size 9 j0 (.string ⟨#[]⟩) 1 16 Try.underlying36 hjnf hy0 hy1 hy2 rfl (by decide) _ _ _ rfl ((HO.out.alloc _).alloc _) ⟨wr.heap.size + 1, 0, none⟩ 1 1 [.string s.name] rfl rfl (by have h9 := cells_new (wr.alloc (.cells #[.int .i64 s.kind, .string s.name, .int .i64 s.ak, .int .i64 s.an, .string s.as_] 47)) [.string s.name] 9; rw [World.size_alloc] at h9; exact h9) (by simp [Value.oneCell']) (by unfold maxLen; omega) (by omega) (by simp; omega) ?_
          intro r' w5 hown' hgrow _
          have HO5 := Lib.hid (show w5.ownsRow w.heap.size 9 1 r' (wNames (ss.take (k + 1))).length ((wNames (ss.take (k + 1))).map Value.string) from by
            rw [HTK.out]
            simpa using hown')
          have HK5 := Lib.hid ((HKA.out.alloc (.cells #[.string s.name] 9)).grown hgrow (fun j e => .inr (HO.out.lt j e).1))
          clear hown' hgrow
          go_wp2_with fail
          go_round
          case measure => (simp [intOf] <;> omega)
          exact ⟨k + 1, by omega, by go_num, HO5.out, HK5.out⟩
        · rw [if_neg (by simp [wrote, h1, h3])] at htk
          have HTK := Lib.hid htk
          clear htk
          go_wp2_with fail
          go_round
          case measure => (simp [intOf] <;> omega)
          exact ⟨k + 1, by omega, by go_num, by rw [HTK.out]; exact HO.out.alloc _, HKA.out⟩
      · rw [if_neg (by simp [wrote, h1])] at htk
        have HTK := Lib.hid htk
        clear htk
        go_wp2_with fail
        go_round
        case measure => (simp [intOf] <;> omega)
        exact ⟨k + 1, by omega, by go_num, by rw [HTK.out]; exact HO.out.alloc _, HKA.out⟩
    · obtain rfl : k = ss.length := by omega
      rw [List.take_length] at HO
      obtain ⟨_, A, cp, rfl, hS, hB⟩ := strs_of_own HO.out
      have HS := Lib.hid hS
      have HB := Lib.hid hB
      clear hS hB
      go_wp2_with fail
      refine (Distinct_is _ _ _ wr).mono ?_
      rintro e w2 ⟨rfl, rfl⟩
      go_wp2_with fail
      go_ret
      exact ⟨wr.heap.size, A, cp, rfl, hzz, Boxed.new _ _ _, HS.out.kept ((Kept.refl Nil wr).alloc _) (fun _ _ _ _ h => h), fun b off e => ⟨(HB.out b off e).1, by rw [World.size_alloc]; have := (HB.out b off e).2.1; omega⟩, HK.out.alloc _⟩
theorem Coll.mapped {B D l sz : Nat} {E T : TypeId} {L : List (Nat × TypeId × Value)} {O : Nat → Prop} {w0 : World} {ro : Obj} {k : Nat} {cs : List Value} {vo : Value} {W W' : World} (h : Coll B D l sz E T L O w0 ro k cs vo W) {mb : Nat} {es : Array MapEntry} {clk : Nat} (hm : W.heap[mb]? = some (Obj.map es clk)) (hge : w0.heap.size ≤ mb)
    (hl : ∃ lp, ro = .loop lp) (hk : Kept (fun i => i = mb) W W') : Coll B D l sz E T L O w0 ro k cs vo W' := by
  obtain ⟨lp, rfl⟩ := hl
  have hb : ∀ (b : Nat) (t : TypeId) (u : Value), Boxed W b t u → ¬ b = mb := fun b t u h1 e => by
    have h2 : W.heap[b]? = _ := h1
    rw [e, hm] at h2; cases h2
  exact { hB := h.hB, hD := h.hD, hl := h.hl, hO := h.hO, hL := h.hL, bx := fun q hq => hk.heap (h.bx q hq) (hb _ _ _ (h.bx q hq)), box := hk.heap h.box (hb _ _ _ h.box),
          row := hk.own h.row (fun j hj e => by
            rcases h.row.2 with ⟨h1, _⟩ | ⟨g, cap, cur, h1, _, h2, _⟩
            · rw [h1] at hj; cases hj
            · rw [h1] at hj; cases hj
              have e' : g = mb := e
              rw [e', hm] at h2; cases h2),
          lp := hk.heap h.lp (fun e => by have := h.lp; rw [e, hm] at this; cases this), roc := h.roc, dfr := hk.heap h.dfr (fun e => by have := h.dfr; rw [e, hm] at this; cases this), dl := h.dl,
          kept := h.kept.trans hk (fun i hi => .inr (by omega)) }
end Go.Proofs.Ytnohhpinigkccaa.Mo
