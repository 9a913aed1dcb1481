/- The walks of package heap at the element type int, sixth part: Drain and its iterator. Conditions: 'less' answers an order and turns nothing; the loop's body leaves the heap alone. -/
import Derived.Test.YtfkhnhpphcpmmaaHpInt5
import Derived.Test.YtfkhnhpphcpmmaaRange
namespace Go.Proofs.Ytfkhnhpphcpmmaa.HpInt
open Go Go.RowKit Go.Proofs.Ytfkhnhpphcpmmaa.Lb Go.Proofs.Ytfkhnhpphcpmmaa.HpPure
set_option linter.unusedVariables false
set_option linter.unusedSimpArgs false
attribute [local go_sem] Oper.semAt_some

theorem Drain_is (h : Nat) (w : World) : Calls Try.prog 30 #[.pointer (some ⟨h, 0, none⟩)] w fun e w' => e = .returned (.func (.func 34) #[] #[.pointer (some ⟨w.heap.size, 0, none⟩)]) ∧ w' = w.alloc (.cells #[.pointer (some ⟨h, 0, none⟩)] 62) := by
  go_enter Try.func30, Try.ntmps30
  go_wp2
  go_ret
  exact ⟨rfl, rfl⟩

/-- What has come, and what lies in the heap still. -/
def Dr (lt : It → It → Bool) (xs pre ys : List (It × Int)) : Prop := HpPure.drain lt xs = pre ++ HpPure.drain lt ys ∧ (SWO lt → HeapP lt xs → HeapP lt ys)

/-- How many there are, read off the world. -/
def lenAt (h : Nat) (w : World) : Nat := match w.cell? ⟨h, 1, none⟩ with
  | some (.slice _ n _) => n
  | _ => 0
theorem lenAt_is {w : World} {base h lf : Nat} {lcap : Array Value} {v : Value} {xs : List (It × Int)} {seq : Int} (H : IsHeap w base h lf lcap v xs seq) : lenAt h w = xs.length := by
  obtain ⟨A, cap, rfl⟩ := H.slice
  unfold lenAt; rw [H.cells.2.1]

/-- The state between two rounds. -/
structure St (lt : It → It → Bool) (Inv : World → Prop) (base h lf : Nat) (lcap : Array Value) (seq : Int) (Bx : Nat) (C : List (It × Int) → Value → World → Prop) (pre : List (It × Int)) (v : Value) (ys : List (It × Int)) (W : World) : Prop where
  heap : IsHeap W base h lf lcap v ys seq
  inv : Inv W
  box : W.cell? ⟨Bx, 0, none⟩ = some (.pointer (some ⟨h, 0, none⟩))
  own : C pre v W

theorem St.kept {lt : It → It → Bool} {Inv : World → Prop} {base h lf Bx : Nat} {lcap : Array Value} {seq : Int} {C : List (It × Int) → Value → World → Prop} {pre : List (It × Int)} {v v' : Value} {ys ys' : List (It × Int)} {W W' : World}
    (hst : St lt Inv base h lf lcap seq Bx C pre v ys W) (L : Less lt lf lcap base Inv)
    (hC : ∀ pre v v' S W W', C pre v W → Kept S W W' → (∀ k, S k → Own h v k) → v'.ownBlock = v.ownBlock → (v.ownBlock ≠ some Bx) ∧ C pre v' W') (hBx : Bx ≠ h)
    {S : Nat → Prop} (hk : Kept S W W') (hS : ∀ k, S k → Own h v k) (H' : IsHeap W' base h lf lcap v' ys' seq) (hv : v'.ownBlock = v.ownBlock) : St lt Inv base h lf lcap seq Bx C pre v' ys' W' := by
  have hc := hC pre v v' S W W' hst.own hk hS hv
  refine ⟨H', L.stable W W' hst.inv (hk.mono (fun i _ hi => hst.heap.own_base i (hS i hi))), hk.cell hst.box (fun hi => ?_), hc.2⟩
  rcases hS _ hi with e | e
  · exact hBx e
  · exact hc.1 e

set_option maxHeartbeats 2000000 in
theorem Drain1_in {lt : It → It → Bool} {Inv : World → Prop} {base h lf Bx : Nat} {lcap : Array Value} {seq : Int} (L : Less lt lf lcap base Inv) (n l : Nat) (hBx : Bx ≠ h) (xs : List (It × Int)) (C : List (It × Int) → Value → World → Prop) (Jx : List (It × Int) → Value → List (It × Int) → World → Prop)
    (hC : ∀ pre v v' S W W', C pre v W → Kept S W W' → (∀ k, S k → Own h v k) → v'.ownBlock = v.ownBlock → (v.ownBlock ≠ some Bx) ∧ C pre v' W')
    (hY : ∀ pre v ys x W, Dr lt xs (pre ++ [x]) ys → St lt Inv base h lf lcap seq Bx C pre v ys W → YieldAt Fence.wide (n - 1) Try.prog l #[x.1.val] W (fun e W' =>
      (e = .returned (.bool true) ∧ St lt Inv base h lf lcap seq Bx C (pre ++ [x]) v ys W') ∨ (e = .returned (.bool false) ∧ Jx (pre ++ [x]) v ys W')))
    (v0 : Value) (W : World) (h0 : St lt Inv base h lf lcap seq Bx C [] v0 xs W) :
    CallsIn Fence.wide n Try.prog 34 #[.func (.yield l) #[] #[], .pointer (some ⟨Bx, 0, none⟩)] W fun e W' => (∃ v, e = .returned v) ∧
      ((∃ v, St lt Inv base h lf lcap seq Bx C (HpPure.drain lt xs) v [] W') ∨ (∃ pre v ys, Dr lt xs pre ys ∧ Jx pre v ys W')) := by
  refine callsIn_of_wp Try.func34 rfl trivial ?_ rfl
  simp only [Try.ntmps34, List.size_toArray, List.length_cons, List.length_nil, Nat.reduceAdd, Nat.reduceSub, Array.replicate_succ, Array.replicate_zero, List.push_toArray, List.append_toArray, List.nil_append, List.cons_append]
  gi_wp2
  gi_loopw [4] (fun o wr => ∃ pre v ys, Dr lt xs pre ys ∧ St lt Inv base h lf lcap seq Bx C pre v ys wr) (fun o wr => lenAt h wr)
  case atStart => exact ⟨[], v0, xs, ⟨rfl, fun _ h => h⟩, h0⟩
  case round =>
    clear h0
    obtain ⟨pre, v, ys, hd, hst⟩ := hrel
    have hbox := hst.box
    have HST := Lib.hid hst
    have HD := Lib.hid hd
    clear hst hd
    cases hys : ys[0]? with
    | none =>
      have hnil : ys = [] := by simpa using hys
      subst hnil
      clear hys
      gi_wp2_with fail
      refine at_wide ((Pop_none HST.out.heap rfl).mono ?_)
      rintro e w1 ⟨rfl, hk⟩
      have hst1 : St lt Inv base h lf lcap seq Bx C pre v [] w1 := (St.kept HST.out L hC hBx (Kept.any (S := Nil) hk) (fun _ h => h.elim) (HST.out.heap.nil hk) rfl)
      have HST1 := Lib.hid hst1
      clear hst1
      gi_wp2
      refine ⟨(fun _ h => by cases h), ?_⟩
      gi_wp2
      refine bodyPost_ret (results_none rfl _ _ _) rfl ?_
      refine ⟨⟨_, rfl⟩, .inl ⟨v, ?_⟩⟩
      rw [HD.out.1, HpPure.drain_nil, List.append_nil]
      exact HST1.out
    | some x =>
      obtain ⟨⟨a0⟩, a1⟩ := x
      gi_wp2_with fail
      refine at_wide ((Pop_some L HST.out.heap HST.out.inv hys).mono ?_)
      rintro e w1 ⟨v1, rfl, H1, hk, hv⟩
      have hst1 : St lt Inv base h lf lcap seq Bx C pre v1 (HpPure.pop lt ys) w1 := (St.kept HST.out L hC hBx hk (fun _ h => h) H1 hv)
      have hd1 : Dr lt xs (pre ++ [(⟨a0⟩, a1)]) (HpPure.pop lt ys) := ⟨by rw [HD.out.1, HpPure.drain_cons lt hys, List.append_assoc]; rfl, fun h1 h2 => pop_heap h1 (HD.out.2 h1 h2)⟩
      have hst2 : St lt Inv base h lf lcap seq Bx C pre v1 (HpPure.pop lt ys) w1 := (St.kept hst1 L hC hBx (Kept.any (S := Nil) (Kept.refl Nil w1)) (fun _ h => h.elim) (hst1.heap.nil (Kept.refl Nil w1)) rfl)
      obtain ⟨fn, tmps, assign, body, hy, hR⟩ := hY pre v1 _ _ _ hd1 hst2
      have HR := Lib.hid hR
      have HD1 := Lib.hid hd1
      have HYS := Lib.hid hys
      clear hst1 hst2 hd1 hR hk H1 hv hys
      simp only [It.val] at hy
      gi_wp2
      refine ⟨(fun h => by cases h), HR.out.mono ?_⟩
      rintro e W' (⟨rfl, hst⟩ | ⟨rfl, hj⟩)
      · have HST2 := Lib.hid hst
        clear hst
        gi_wp2
        go_roundw
        case rel => exact ⟨pre ++ [_], v1, HpPure.pop lt ys, HD1.out, HST2.out⟩
        case measure =>
          rw [lenAt_is HST2.out.heap, lenAt_is HST.out.heap, pop_length]
          have : 0 < ys.length := by
            cases ys with
            | nil => cases HYS.out
            | cons a b => simp
          omega
      · have HJ := Lib.hid hj
        clear hj
        gi_wp2
        refine bodyPost_ret (results_none rfl _ _ _) rfl ?_
        exact ⟨⟨_, rfl⟩, .inr ⟨pre ++ [_], v1, HpPure.pop lt ys, HD1.out, HJ.out⟩⟩

end Go.Proofs.Ytfkhnhpphcpmmaa.HpInt
