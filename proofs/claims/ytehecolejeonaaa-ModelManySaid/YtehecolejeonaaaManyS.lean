/- Rows of zero values, and what the check says of them. -/
import Derived.Test.YtehecolejeonaaaModelAlive
namespace Go.Proofs.Ytehecolejeonaaa.Mo
open Go Go.RowKit Go.Proofs.Ytehecolejeonaaa.Lb
set_option linter.unusedVariables false
set_option linter.unusedSimpArgs false

theorem made_at (z : Array Value) (n i : Nat) (h : i < n) : (madeCells z n)[i]? = some (z[i % z.size]!) := by simp [madeCells, h]
theorem made_row (z : Array Value) (n s : Nat) (hs : z.size = s) (j c : Nat) (hj : j < n) (hc : c < s) : (madeCells z (n * s))[j * s + c]? = some (z[c]!) := by
  have h1 : j * s + c < n * s := by
    have := Nat.mul_le_mul_right s (show j + 1 ≤ n by omega)
    rw [Nat.add_mul] at this
    omega
  rw [made_at _ _ _ h1, hs, Nat.mul_comm, Nat.mul_add_mod, Nat.mod_eq_of_lt hc]
def zeroV : V := ⟨⟨#[]⟩, 0⟩
def zeroP : Pr := ⟨⟨#[]⟩, 0, none, [], 0, none, [], 0⟩
def zeroL : Lk := ⟨⟨#[]⟩, ⟨#[]⟩, ⟨#[]⟩, 0, 0⟩
def zeroE : Ev := ⟨⟨#[]⟩, 0, 0⟩
theorem infoZV : (Try.prog.info? 73).map (fun i => (i.zero, i.size, i.bytes)) = some (some (.agg #[.string ⟨#[]⟩, .int .i64 0]), 2, 24) := by kernel_rfl
theorem mk_V (n : Nat) (hn : n ≤ 100000) (w : World) : (Instr.makeSlice 36 (.int .i64 (n : Int)) (.int .i64 (n : Int))).run Try.prog w = .ok (.slice (some ⟨w.heap.size, 0, none⟩) n n) (w.alloc (.cells (madeCells #[.string ⟨#[]⟩, .int .i64 0] (n * 2)) 73)) := by
  obtain ⟨j0, hjnf, hy0, hy1, hy2⟩ := info_parts infoZV
  have h := run_makeSlice (P := Try.prog) w 36 73 j0 (.agg #[.string ⟨#[]⟩, .int .i64 0]) Try.underlying36 hjnf hy0 .i64 .i64 (n : Int) (n : Int) (by omega) (Int.le_refl _) (by rw [hy1]; simp; omega) (by rw [hy2]; omega) (by omega)
  simp only [Int.toNat_natCast, hy1] at h
  exact h
theorem RVars_zero {w : World} {b n : Nat} {t : TypeId} (h : w.heap[b]? = some (.cells (madeCells #[.string ⟨#[]⟩, .int .i64 0] (n * 2)) t (0, 0))) : RVars w (some ⟨b, 0, none⟩) (List.replicate n zeroV) := by
  refine .inr ⟨b, 0, rfl, fun j v hj => ?_⟩
  have hjn : j < n := by have := (List.getElem?_eq_some_iff.1 hj).1; simpa using this
  rw [List.getElem?_replicate, if_pos hjn] at hj
  cases hj
  have hz : ∀ c, c < 2 → w.cell? ⟨b, j * 2 + c, none⟩ = some ((#[.string ⟨#[]⟩, .int .i64 0] : Array Value)[c]!) := fun c hc => by rw [cell_of h]; exact made_row _ n 2 rfl j c hjn hc
  simp only [Nat.zero_add]
  exact ⟨hz 0 (by decide), hz 1 (by decide)⟩
theorem infoZP : (Try.prog.info? 39).map (fun i => (i.zero, i.size, i.bytes)) = some (some (.agg #[.string ⟨#[]⟩, .int .i64 0, .slice none 0 0, .slice none 0 0]), 4, 72) := by kernel_rfl
theorem mk_P (n : Nat) (hn : n ≤ 100000) (w : World) : (Instr.makeSlice 22 (.int .i64 (n : Int)) (.int .i64 (n : Int))).run Try.prog w = .ok (.slice (some ⟨w.heap.size, 0, none⟩) n n) (w.alloc (.cells (madeCells #[.string ⟨#[]⟩, .int .i64 0, .slice none 0 0, .slice none 0 0] (n * 4)) 39)) := by
  obtain ⟨j0, hjnf, hy0, hy1, hy2⟩ := info_parts infoZP
  have h := run_makeSlice (P := Try.prog) w 22 39 j0 (.agg #[.string ⟨#[]⟩, .int .i64 0, .slice none 0 0, .slice none 0 0]) Try.underlying22 hjnf hy0 .i64 .i64 (n : Int) (n : Int) (by omega) (Int.le_refl _) (by rw [hy1]; simp; omega) (by rw [hy2]; omega) (by omega)
  simp only [Int.toNat_natCast, hy1] at h
  exact h
theorem RProcs_zero {w : World} {b n : Nat} {t : TypeId} (h : w.heap[b]? = some (.cells (madeCells #[.string ⟨#[]⟩, .int .i64 0, .slice none 0 0, .slice none 0 0] (n * 4)) t (0, 0))) : RProcs w (some ⟨b, 0, none⟩) (List.replicate n zeroP) := by
  refine .inr ⟨b, 0, rfl, fun j v hj => ?_⟩
  have hjn : j < n := by have := (List.getElem?_eq_some_iff.1 hj).1; simpa using this
  rw [List.getElem?_replicate, if_pos hjn] at hj
  cases hj
  have hz : ∀ c, c < 4 → w.cell? ⟨b, j * 4 + c, none⟩ = some ((#[.string ⟨#[]⟩, .int .i64 0, .slice none 0 0, .slice none 0 0] : Array Value)[c]!) := fun c hc => by rw [cell_of h]; exact made_row _ n 4 rfl j c hjn hc
  simp only [Nat.zero_add]
  exact ⟨hz 0 (by decide), hz 1 (by decide), hz 2 (by decide), hz 3 (by decide)⟩
theorem infoZL : (Try.prog.info? 50).map (fun i => (i.zero, i.size, i.bytes)) = some (some (.agg #[.string ⟨#[]⟩, .string ⟨#[]⟩, .string ⟨#[]⟩, .int .i64 0, .int .i64 0]), 5, 64) := by kernel_rfl
theorem mk_L (n : Nat) (hn : n ≤ 100000) (w : World) : (Instr.makeSlice 23 (.int .i64 (n : Int)) (.int .i64 (n : Int))).run Try.prog w = .ok (.slice (some ⟨w.heap.size, 0, none⟩) n n) (w.alloc (.cells (madeCells #[.string ⟨#[]⟩, .string ⟨#[]⟩, .string ⟨#[]⟩, .int .i64 0, .int .i64 0] (n * 5)) 50)) := by
  obtain ⟨j0, hjnf, hy0, hy1, hy2⟩ := info_parts infoZL
  have h := run_makeSlice (P := Try.prog) w 23 50 j0 (.agg #[.string ⟨#[]⟩, .string ⟨#[]⟩, .string ⟨#[]⟩, .int .i64 0, .int .i64 0]) Try.underlying23 hjnf hy0 .i64 .i64 (n : Int) (n : Int) (by omega) (Int.le_refl _) (by rw [hy1]; simp; omega) (by rw [hy2]; omega) (by omega)
  simp only [Int.toNat_natCast, hy1] at h
  exact h
theorem RLinks_zero {w : World} {b n : Nat} {t : TypeId} (h : w.heap[b]? = some (.cells (madeCells #[.string ⟨#[]⟩, .string ⟨#[]⟩, .string ⟨#[]⟩, .int .i64 0, .int .i64 0] (n * 5)) t (0, 0))) : RLinks w (some ⟨b, 0, none⟩) (List.replicate n zeroL) := by
  refine .inr ⟨b, 0, rfl, fun j v hj => ?_⟩
  have hjn : j < n := by have := (List.getElem?_eq_some_iff.1 hj).1; simpa using this
  rw [List.getElem?_replicate, if_pos hjn] at hj
  cases hj
  have hz : ∀ c, c < 5 → w.cell? ⟨b, j * 5 + c, none⟩ = some ((#[.string ⟨#[]⟩, .string ⟨#[]⟩, .string ⟨#[]⟩, .int .i64 0, .int .i64 0] : Array Value)[c]!) := fun c hc => by rw [cell_of h]; exact made_row _ n 5 rfl j c hjn hc
  simp only [Nat.zero_add]
  exact ⟨hz 0 (by decide), hz 1 (by decide), hz 2 (by decide), hz 3 (by decide), hz 4 (by decide)⟩
theorem infoZE : (Try.prog.info? 52).map (fun i => (i.zero, i.size, i.bytes)) = some (some (.agg #[.string ⟨#[]⟩, .int .i64 0, .int .i64 0]), 3, 32) := by kernel_rfl
theorem mk_E (n : Nat) (hn : n ≤ 100000) (w : World) : (Instr.makeSlice 24 (.int .i64 (n : Int)) (.int .i64 (n : Int))).run Try.prog w = .ok (.slice (some ⟨w.heap.size, 0, none⟩) n n) (w.alloc (.cells (madeCells #[.string ⟨#[]⟩, .int .i64 0, .int .i64 0] (n * 3)) 52)) := by
  obtain ⟨j0, hjnf, hy0, hy1, hy2⟩ := info_parts infoZE
  have h := run_makeSlice (P := Try.prog) w 24 52 j0 (.agg #[.string ⟨#[]⟩, .int .i64 0, .int .i64 0]) Try.underlying24 hjnf hy0 .i64 .i64 (n : Int) (n : Int) (by omega) (Int.le_refl _) (by rw [hy1]; simp; omega) (by rw [hy2]; omega) (by omega)
  simp only [Int.toNat_natCast, hy1] at h
  exact h
theorem REvents_zero {w : World} {b n : Nat} {t : TypeId} (h : w.heap[b]? = some (.cells (madeCells #[.string ⟨#[]⟩, .int .i64 0, .int .i64 0] (n * 3)) t (0, 0))) : REvents w (some ⟨b, 0, none⟩) (List.replicate n zeroE) := by
  refine .inr ⟨b, 0, rfl, fun j v hj => ?_⟩
  have hjn : j < n := by have := (List.getElem?_eq_some_iff.1 hj).1; simpa using this
  rw [List.getElem?_replicate, if_pos hjn] at hj
  cases hj
  have hz : ∀ c, c < 3 → w.cell? ⟨b, j * 3 + c, none⟩ = some ((#[.string ⟨#[]⟩, .int .i64 0, .int .i64 0] : Array Value)[c]!) := fun c hc => by rw [cell_of h]; exact made_row _ n 3 rfl j c hjn hc
  simp only [Nat.zero_add]
  exact ⟨hz 0 (by decide), hz 1 (by decide), hz 2 (by decide)⟩
theorem md_first_p (n : Nat) (A : Option Addr) (cap : Nat) (h : 0 < n) : mdCheck ⟨3, A, List.replicate n zeroP, cap, none, [], 0, none, [], 0⟩ = if 4096 < n then (3, 0) else (40, 1) := by
  split
  · rename_i h1; unfold mdCheck; rw [if_neg (by simp), if_pos (by simp [h1])]
  · rename_i h1
    have := md_procs (m := ⟨3, A, List.replicate n zeroP, cap, none, [], 0, none, [], 0⟩) (k := 0) (p := zeroP) (c := 40) (by simp) (by simp; omega) (fun j u hj _ => by omega) (by simp [h]) rfl (by decide)
    simpa using this
theorem md_first_l (n : Nat) (A : Option Addr) (cap : Nat) (h : 0 < n) : mdCheck ⟨3, none, [], 0, A, List.replicate n zeroL, cap, none, [], 0⟩ = if 16384 < n then (3, 0) else (40, 1) := by
  split
  · rename_i h1; unfold mdCheck; rw [if_neg (by simp), if_pos (by simp [h1])]
  · rename_i h1
    have := md_links (m := ⟨3, none, [], 0, A, List.replicate n zeroL, cap, none, [], 0⟩) (k := 0) (l := zeroL) (c := 40) (by simp) (by simp; omega) (fun j u hj _ => by simp at hj) (fun j u hj _ => by omega) (by simp [h]) rfl (by decide)
    simpa using this
theorem md_first_e (n : Nat) (A : Option Addr) (cap : Nat) (h : 0 < n) : mdCheck ⟨3, none, [], 0, none, [], 0, A, List.replicate n zeroE, cap⟩ = if 16384 < n then (3, 0) else (4, 1) := by
  split
  · rename_i h1; unfold mdCheck; rw [if_neg (by simp), if_pos (by simp [h1])]
  · rename_i h1
    have := md_events (m := ⟨3, none, [], 0, none, [], 0, A, List.replicate n zeroE, cap⟩) (k := 0) (e := zeroE) (c := 4) (by simp) (by simp; omega) (fun j u hj _ => by simp at hj) (fun j u hj _ => by simp at hj) (fun j u hj _ => by omega) (by simp [h]) rfl (by decide)
    simpa using this
def varsM (b b2 n : Nat) : Md := ⟨3, some ⟨b, 0, none⟩, [⟨⟨#[97]⟩, 1, some ⟨b2, 0, none⟩, List.replicate n zeroV, n, none, [], 0⟩], 1, none, [], 0, none, [], 0⟩
theorem md_first_v (b b2 n : Nat) (h : 0 < n) : mdCheck (varsM b b2 n) = if 64 < n then (3, 1) else (40, 1) := by
  have hf : findI ((varsM b b2 n).ps.map Pr.name) ⟨#[97]⟩ = 0 := by kernel_rfl
  split
  · rename_i h1
    refine md_procs (m := varsM b b2 n) (k := 0) (p := ⟨⟨#[97]⟩, 1, some ⟨b2, 0, none⟩, List.replicate n zeroV, n, none, [], 0⟩) (c := 3) (by simp [varsM]) (by simp [varsM]) (fun j u hj _ => by omega) rfl ?_ (by decide)
    unfold procC
    rw [if_neg (show ¬ rightName ⟨#[97]⟩ = false by decide), if_neg (by simp only [hf]; simp), if_neg (by simp [wtB]), if_pos (by simp [h1])]
  · rename_i h1
    refine md_procs (m := varsM b b2 n) (k := 0) (p := ⟨⟨#[97]⟩, 1, some ⟨b2, 0, none⟩, List.replicate n zeroV, n, none, [], 0⟩) (c := 40) (by simp [varsM]) (by simp [varsM]) (fun j u hj _ => by omega) rfl ?_ (by decide)
    have hv : varsC (List.replicate n zeroV) = 40 := varsC_bad (k := 0) (v := zeroV) (c := 40) (fun j u hj _ => by omega) (by simp [h]) rfl (by decide)
    exact procC_vars (m := varsM b b2 n) (show rightName ⟨#[97]⟩ = true by decide) hf (by simp [wtB]) (by simpa using h1) (by simp) hv (by decide)
theorem CheckZP_at (b n : Nat) (c1 c2 : Int) (hc : (if 4096 < n then ((3 : Int), (0 : Int)) else (40, 1)) = (c1, c2)) (h0 : 0 < n) (hn : n ≤ 100000) (w : World) (hr : RProcs w (some ⟨b, 0, none⟩) (List.replicate n zeroP)) :
    Calls Try.prog 11 #[.agg #[.int .i64 3, .slice (some ⟨b, 0, none⟩) n n, .slice none 0 0, .slice none 0 0]] w fun e w' => e = .returned (.agg #[.int .i64 c1, .int .i64 c2]) ∧ Kept Nil w w' := by
  have hml : n ≤ maxLen := by unfold maxLen; omega
  have h := CheckM_is ⟨3, some ⟨b, 0, none⟩, List.replicate n zeroP, n, none, [], 0, none, [], 0⟩ w ⟨hr, (fun q hq => by simp only [List.mem_replicate] at hq; rw [hq.2]; exact ⟨.inl rfl, .inl rfl, by simp [zeroP], by simp [zeroP], by simp [zeroP]⟩), .inl rfl, .inl rfl, by simp; try omega, by simp; try omega, by simp; try omega⟩ ⟨fun p hp => by simp only [List.mem_replicate] at hp; rw [hp.2]; exact ⟨show (ByteArray.mk #[]).size ≤ maxLen by decide, by simp [zeroP], by simp [zeroP]⟩, by simp, by simp, by simp, by simp⟩ (fun p hp => by simp only [List.mem_replicate] at hp; rw [hp.2]; simp [zeroP])
  rw [md_first_p n _ _ h0, hc] at h
  unfold Md.val at h
  simp only [List.length_replicate, List.length_nil] at h
  exact h
theorem CheckZL_at (b n : Nat) (c1 c2 : Int) (hc : (if 16384 < n then ((3 : Int), (0 : Int)) else (40, 1)) = (c1, c2)) (h0 : 0 < n) (hn : n ≤ 100000) (w : World) (hr : RLinks w (some ⟨b, 0, none⟩) (List.replicate n zeroL)) :
    Calls Try.prog 11 #[.agg #[.int .i64 3, .slice none 0 0, .slice (some ⟨b, 0, none⟩) n n, .slice none 0 0]] w fun e w' => e = .returned (.agg #[.int .i64 c1, .int .i64 c2]) ∧ Kept Nil w w' := by
  have hml : n ≤ maxLen := by unfold maxLen; omega
  have h := CheckM_is ⟨3, none, [], 0, some ⟨b, 0, none⟩, List.replicate n zeroL, n, none, [], 0⟩ w ⟨.inl rfl, (by simp), hr, .inl rfl, by simp; try omega, by simp; try omega, by simp; try omega⟩ ⟨by simp, fun l hl => by simp only [List.mem_replicate] at hl; rw [hl.2]; decide, fun l hl => by simp only [List.mem_replicate] at hl; rw [hl.2]; decide, fun l hl => by simp only [List.mem_replicate] at hl; rw [hl.2]; decide, by simp⟩ (fun p hp => by simp at hp)
  rw [md_first_l n _ _ h0, hc] at h
  unfold Md.val at h
  simp only [List.length_replicate, List.length_nil] at h
  exact h
theorem CheckZE_at (b n : Nat) (c1 c2 : Int) (hc : (if 16384 < n then ((3 : Int), (0 : Int)) else (4, 1)) = (c1, c2)) (h0 : 0 < n) (hn : n ≤ 100000) (w : World) (hr : REvents w (some ⟨b, 0, none⟩) (List.replicate n zeroE)) :
    Calls Try.prog 11 #[.agg #[.int .i64 3, .slice none 0 0, .slice none 0 0, .slice (some ⟨b, 0, none⟩) n n]] w fun e w' => e = .returned (.agg #[.int .i64 c1, .int .i64 c2]) ∧ Kept Nil w w' := by
  have hml : n ≤ maxLen := by unfold maxLen; omega
  have h := CheckM_is ⟨3, none, [], 0, none, [], 0, some ⟨b, 0, none⟩, List.replicate n zeroE, n⟩ w ⟨.inl rfl, (by simp), .inl rfl, hr, by simp; try omega, by simp; try omega, by simp; try omega⟩ ⟨by simp, by simp, by simp, by simp, fun l hl => by simp only [List.mem_replicate] at hl; rw [hl.2]; decide⟩ (fun p hp => by simp at hp)
  rw [md_first_e n _ _ h0, hc] at h
  unfold Md.val at h
  simp only [List.length_replicate, List.length_nil] at h
  exact h
theorem CheckZV_at (b b2 n : Nat) (c1 : Int) (hc : (if 64 < n then (3 : Int) else 40) = c1) (h0 : 0 < n) (hn : n ≤ 100000) (w : World) (hr : RVars w (some ⟨b2, 0, none⟩) (List.replicate n zeroV)) (hp : w.heap[b]? = some (.cells #[.string ⟨#[97]⟩, .int .i64 1, .slice (some ⟨b2, 0, none⟩) n n, .slice none 0 0] 39 (0, 0))) :
    Calls Try.prog 11 #[.agg #[.int .i64 3, .slice (some ⟨b, 0, none⟩) 1 1, .slice none 0 0, .slice none 0 0]] w fun e w' => e = .returned (.agg #[.int .i64 c1, .int .i64 1]) ∧ Kept Nil w w' := by
  have hml : n ≤ maxLen := by unfold maxLen; omega
  have h := CheckM_is (varsM b b2 n) w ⟨.inr ⟨b, 0, rfl, fun j q hj => by
      match j with
      | 0 => simp [varsM] at hj; subst hj; simp only [List.length_replicate]; exact ⟨by rw [cell_of hp]; rfl, by rw [cell_of hp]; rfl, by rw [cell_of hp]; rfl, by rw [cell_of hp]; rfl⟩
      | j + 1 => simp [varsM] at hj⟩, fun q hq => by simp [varsM] at hq; subst hq; exact ⟨hr, .inl rfl, by simp; omega, by simp, by simp⟩, .inl rfl, .inl rfl, by simp [varsM, maxLen], by simp [varsM], by simp [varsM]⟩
    ⟨fun p hp => by simp [varsM] at hp; subst hp; exact ⟨show (ByteArray.mk #[97]).size ≤ maxLen by decide, fun v hv => by simp only [List.mem_replicate] at hv; rw [hv.2]; decide, by simp⟩, by simp [varsM], by simp [varsM], by simp [varsM], by simp [varsM]⟩
    (fun p hp => by simp [varsM] at hp; subst hp; simp; omega)
  rw [md_first_v b b2 n h0] at h
  have e : (if 64 < n then ((3 : Int), (1 : Int)) else (40, 1)) = (c1, 1) := by rw [← hc]; split <;> rfl
  rw [e] at h
  exact h
end Go.Proofs.Ytehecolejeonaaa.Mo
