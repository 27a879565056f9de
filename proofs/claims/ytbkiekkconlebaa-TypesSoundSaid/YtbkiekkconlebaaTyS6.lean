/-
  The document's rule for a pair.
-/
import Derived.Test.YtbkiekkconlebaaTyS5
import Derived.KernelRfl
set_option linter.all false
set_option linter.all false
set_option maxRecDepth 100000
namespace Go.VM
open Go Go.Sv

theorem equal_c (t : SlOf Ty) (hs : FewP t.list) (a b : Int) (u : Unit) : (callL TT).pure 19 [slD encTy t, .int .i64 a, .int .i64 b] u = some (.bool (dec (SubP t.list a b ∧ SubP t.list b a)), u) := by
  refine fn_of rfl rfl (by simp -implicitDefEqProofs only [vm, vs, pairUp, Nat.reduceEqDiff, Nat.reduceAdd, Nat.reduceLeDiff, reduceIte]) rfl rfl ?_
  unfold v19
  refine Wp.seq (Wp_region ?_)
  simp -implicitDefEqProofs only [vm, vs, pairUp, Nat.reduceEqDiff, Nat.reduceAdd, Nat.reduceLeDiff, reduceIte]
  cases a1 : dec (SubP t.list a b) with
  | false =>
    refine Wp.seq (Wp_region ?_)
    simp -implicitDefEqProofs only [vm, vs, pairUp, Nat.reduceEqDiff, Nat.reduceAdd, Nat.reduceLeDiff, reduceIte, sh_TT, shTy, sub_c t hs, a1]
    refine Wp.ret ?_
    simp -implicitDefEqProofs only [vm, vs, pairUp, Nat.reduceEqDiff, Nat.reduceAdd, Nat.reduceLeDiff, reduceIte]
    rw [dec_false (fun h : SubP t.list a b ∧ SubP t.list b a => by rw [dec_true h.1] at a1; cases a1)]
  | true =>
    refine Wp.seq (Wp_region ?_)
    simp -implicitDefEqProofs only [vm, vs, pairUp, Nat.reduceEqDiff, Nat.reduceAdd, Nat.reduceLeDiff, reduceIte, sh_TT, shTy, sub_c t hs, a1]
    refine Wp.ret ?_
    simp -implicitDefEqProofs only [vm, vs, pairUp, Nat.reduceEqDiff, Nat.reduceAdd, Nat.reduceLeDiff, reduceIte]
    rw [dec_congr (show SubP t.list b a ↔ SubP t.list a b ∧ SubP t.list b a from ⟨fun h => ⟨dec_iff.1 a1, h⟩, fun h => h.2⟩)]

/-- The bits of all pairs, row by row. -/
def bitsL (n : Nat) (S : K → Bool) : List (List D) := (pairsT n).map fun q => [.bool (S q)]
def bitsD (n : Nat) (S : K → Bool) : D := .sl false (bitsL n S)
theorem flat_get {α : Type} {n : Nat} {f : Nat → List α} : ∀ {m i j : Nat}, (∀ i, i < m → (f i).length = n) → i < m → j < n → ((List.range m).flatMap f)[i * n + j]? = (f i)[j]?
  | 0, i, j, _, hi, _ => by omega
  | m + 1, i, j, hf, hi, hj => by
    have hlen : ∀ m', (∀ i, i < m' → (f i).length = n) → ((List.range m').flatMap f).length = m' * n := by
      intro m'
      induction m' with
      | zero => intro _; simp
      | succ m' ih =>
        intro h
        rw [List.range_succ, List.flatMap_append, List.length_append, ih (fun i hi => h i (by omega))]
        simp only [List.flatMap_cons, List.flatMap_nil, List.append_nil]
        rw [h m' (by omega), Nat.succ_mul]
    rw [List.range_succ, List.flatMap_append]
    by_cases h : i < m
    · rw [List.getElem?_append_left]
      · exact flat_get (fun i hi => hf i (by omega)) h hj
      · rw [hlen m (fun i hi => hf i (by omega))]
        have : (i + 1) * n ≤ m * n := Nat.mul_le_mul_right _ h
        rw [Nat.succ_mul] at this
        omega
    · have : i = m := by omega
      subst this
      rw [List.getElem?_append_right (by rw [hlen i (fun k hk => hf k (by omega))]; omega), hlen i (fun k hk => hf k (by omega))]
      simp only [List.flatMap_cons, List.flatMap_nil, List.append_nil]
      congr 1
      omega
theorem pairsT_get {n i j : Nat} (hi : i < n) (hj : j < n) : (pairsT n)[i * n + j]? = some [(i : Int), (j : Int)] := by
  unfold pairsT
  rw [flat_get (fun i _ => by simp) hi hj]
  simp [hj]
theorem bitsL_len {n : Nat} {S : K → Bool} : (bitsL n S).length = n * n := by unfold bitsL; rw [List.length_map, pairsT_len]
theorem idx_nat {n : Nat} {x y : Int} (hx : 0 ≤ x ∧ x < n) (hy : 0 ≤ y ∧ y < n) : x * n + y = ((x.toNat * n + y.toNat : Nat) : Int) := by
  rw [Int.natCast_add, Int.natCast_mul, Int.toNat_of_nonneg hx.1, Int.toNat_of_nonneg hy.1]
theorem idx2_lt {n i j : Nat} (hi : i < n) (hj : j < n) : i * n + j < n * n := by
  have : (i + 1) * n ≤ n * n := Nat.mul_le_mul_right _ hi
  rw [Nat.succ_mul] at this
  omega
theorem bit_at {n : Nat} {S : K → Bool} {x y : Int} (hx : 0 ≤ x ∧ x < n) (hy : 0 ≤ y ∧ y < n) (H : Hp) : iaD H 1 (bitsD n S) (x * n + y) = some (.ref [.bool (S [x, y])]) := by
  have h1 : x.toNat < n := by omega
  have h2 : y.toNat < n := by omega
  have h3 := idx2_lt h1 h2
  have hg : (bitsL n S)[x.toNat * n + y.toNat]? = some [.bool (S [x, y])] := by
    unfold bitsL
    rw [List.getElem?_map, pairsT_get h1 h2, Int.toNat_of_nonneg hx.1, Int.toNat_of_nonneg hy.1]
    rfl
  rw [idx_nat hx hy]
  simp only [bitsD, iaD, bitsL_len, Int.toNat_natCast, hg, Option.bind_some]
  rw [if_pos ⟨by omega, by omega⟩]
  rfl
theorem idx_wrap {n : Nat} {x y : Int} (hn : n ≤ 200) (hx : 0 ≤ x ∧ x < n) (hy : 0 ≤ y ∧ y < n) : IntKind.wrap .i64 (IntKind.wrap .i64 (x * n) + y) = x * n + y := by
  have h1 : x * n ≤ 200 * 200 := Int.mul_le_mul (by omega) (by omega) (by omega) (by omega)
  have h2 : 0 ≤ x * n := Int.mul_nonneg hx.1 (by omega)
  rw [wrap_in (n := x * n) (by omega), wrap_in (by omega)]
theorem all_snoc {α : Type} {l : List α} {p : α → Bool} {k : Nat} (h : k < l.length) (h1 : ∀ x ∈ l.take k, p x = true) (h2 : p l[k] = true) : ∀ x ∈ l.take (k + 1), p x = true := fun x hx => by
  rw [List.take_succ_eq_append_getElem h] at hx
  rcases List.mem_append.1 hx with hx | hx
  · exact h1 x hx
  · simp only [List.mem_singleton] at hx; rw [hx]; exact h2

theorem ruleR_c (t : SlOf Ty) (hm : MayP t.list) (S : K → Bool) {i j : Nat} (hi : i < t.list.length) (hj : j < t.list.length) (u : Unit) :
    (callL TT).pure 66 [slD encTy t, bitsD t.list.length S, .int .i64 (i : Int), .int .i64 (j : Int)] u = some (.bool (res2 t.list i j ((asks2 t.list i j).map S)), u) := by
  generalize hx : t.list[i] = x
  generalize hy : t.list[j] = y
  have hxt : tyAt t.list i = x := by rw [tyAt_get hi, hx]
  have hyt : tyAt t.list j = y := by rw [tyAt_get hj, hy]
  have hox := hm.1 i hi
  have hoy := hm.1 j hj
  rw [hx] at hox
  rw [hy] at hoy
  have hn200 := hm.2
  have hi' : 0 ≤ (i : Int) ∧ (i : Int) < t.list.length := by omega
  have hj' : 0 ≤ (j : Int) ∧ (j : Int) < t.list.length := by omega
  have ia := fun H : Hp => iaD_nat (H := H) (enc := encTy) (sz := 3) hi rfl
  have ja := fun H : Hp => iaD_nat (H := H) (enc := encTy) (sz := 3) hj rfl
  have p3 : ∀ a b c : D, partD true 3 [a, b, c] = some (.agg [a, b, c]) := fun _ _ _ => rfl
  refine fn_of rfl rfl (by simp -implicitDefEqProofs only [vm, vs, pairUp, Nat.reduceEqDiff, Nat.reduceAdd, Nat.reduceLeDiff, reduceIte, bitsD]) rfl rfl ?_
  unfold v66
  refine Wp.seq (Wp_region ?_)
  simp -implicitDefEqProofs only [vm, vs, pairUp, Nat.reduceEqDiff, Nat.reduceAdd, Nat.reduceLeDiff, reduceIte]
  refine Wp.seq (Wp_region ?_)
  simp -implicitDefEqProofs only [vm, vs, pairUp, Nat.reduceEqDiff, Nat.reduceAdd, Nat.reduceLeDiff, reduceIte]
  refine Wp.seq (Wp.draw (runDraw_notes (by kernel_rfl) (nts := ?nts) (st' := ?st) ?run ?chk) ?_)
  case run =>
    simp -implicitDefEqProofs only [vm, vs, pairUp, Nat.reduceEqDiff, Nat.reduceAdd, Nat.reduceLeDiff, reduceIte, hset_eq, Nat.add_left_cancel_iff, Nat.reduceEqDiff, if_false, if_true, ia, ja, hx, hy, encTy, p3, List.drop_succ_cons, List.drop_zero]
    rfl
  case chk =>
    have ho : openPairs [⟨some 19, .mov (.t 0), none, []⟩,
  ⟨some 20, .mov (.t 2), none, []⟩,
  ⟨some 21, .iaddr 3 (.t 19) (.t 20), none, [0, 1]⟩,
  ⟨some 22, .load true 3 (.t 21), none, [2]⟩,
  ⟨some 23, .mov (.t 0), none, []⟩,
  ⟨some 24, .mov (.t 3), none, []⟩,
  ⟨some 25, .iaddr 3 (.t 23) (.t 24), none, [4, 5]⟩,
  ⟨some 26, .load true 3 (.t 25), none, [6]⟩,
  ⟨some 10, .alloc [(.int .i64 0), .nilsl, .nilsl], none, []⟩,
  ⟨some 11, .alloc [(.int .i64 0), .nilsl, .nilsl], none, []⟩,
  ⟨none, .store 3 (.t 10) (.t 22), none, [8, 3, 0, 1, 2, 3, 8, 9]⟩,
  ⟨none, .store 3 (.t 11) (.t 26), none, [9, 7, 10, 0, 1, 2, 3, 4, 5, 6, 7, 8, 9, 10]⟩] = [(0, 1), (0, 4), (0, 5), (0, 6), (0, 7), (0, 8), (0, 9), (1, 4), (1, 5), (1, 6), (1, 7), (1, 8), (1, 9), (2, 4), (2, 5), (2, 6), (2, 7), (2, 8), (2, 9), (3, 4), (3, 5), (3, 6), (3, 7), (3, 8), (3, 9), (4, 5), (4, 8), (4, 9), (4, 10), (5, 8), (5, 9), (5, 10), (6, 8), (6, 9), (6, 10), (7, 8), (7, 9), (7, 10), (8, 9)] := by kernel_rfl
    rw [ho]
    simp [dynAt, dynOk, wkey, clearOf, VOp.isLocal, VOp.saw, VOp.quiet, VOp.frs, quietL, VOp.keys, VOp.opds, D.key1, ev_t, set_eq, put_some, put_none, args0_0, args0_1, args0_2, args0_3]
    rcases t with _ | ⟨l, hl⟩ <;> simp [slD]
  simp only [andThen_normal]
  refine Wp.seq (Wp.seq (Wp_region ?_))
  simp -implicitDefEqProofs only [vm, vs, pairUp, Nat.reduceEqDiff, Nat.reduceAdd, Nat.reduceLeDiff, reduceIte, hset_eq, Nat.reduceEqDiff, if_false, if_true, List.drop_succ_cons, List.drop_zero]
  have okx : ∀ z : Ty, (HC.vars (encTy z)).okH [10] = true ∧ (HC.vars (encTy z)).okH [11] = true ∧ (HC.vars (encTy z)).okH [10, 11] = true := fun z => by
    simp only [encTy, HC.okH, vm, vs, pairUp, Nat.reduceEqDiff, Nat.reduceAdd, Nat.reduceLeDiff, reduceIte, okH1_sl]
    exact ⟨rfl, rfl, rfl⟩
  by_cases hk5 : x.kind = 5
  · refine Wp.condT (by simp -implicitDefEqProofs only [vm, vs, pairUp, Nat.reduceEqDiff, Nat.reduceAdd, Nat.reduceLeDiff, reduceIte]; simp [hk5]) ?_
    have ha : asks2 t.list i j = x.elems.list.map fun e => [e, (j : Int)] := by unfold asks2; rw [hxt, if_pos hk5]
    have hr : res2 t.list i j ((asks2 t.list i j).map S) = x.elems.list.all fun e => S [e, (j : Int)] := by
      unfold res2
      rw [hxt, if_pos hk5, ha, List.map_map, List.all_map]
      rfl
    rw [hr]
    refine Wp.seq (Wp.seq (Wp_region ?_))
    simp -implicitDefEqProofs only [vm, vs, pairUp, Nat.reduceEqDiff, Nat.reduceAdd, Nat.reduceLeDiff, reduceIte]
    refine Wp.block (Wp.loopT (Inv := fun n e H _ => ∃ k : Nat, k ≤ x.elems.list.length ∧ n = x.elems.list.length - k ∧ e 1 = some (bitsD t.list.length S) ∧ e 3 = some (.int .i64 j) ∧ e 9 = some (.int .i64 t.list.length) ∧ e 10 = some (.box 10 0) ∧ e 12 = some (.int .i64 k) ∧ H 10 = some (.vars (encTy x)) ∧ ∀ e ∈ x.elems.list.take k, S [e, (j : Int)] = true) ?_ (n := x.elems.list.length) ⟨0, by omega, rfl, rfl, rfl, rfl, rfl, rfl, rfl, fun e h => by simp at h⟩)
    rintro n e3 H g3 ⟨k, hk, rfl, n1, n3, n9, n10, n12, hH, hfs⟩
    refine ⟨hOk_cons hH (okx x).1 rfl, ?_⟩
    have k1 : keepEnv [1, 3, 9, 10, 12] [10] e3 1 = some (bitsD t.list.length S) := keepEnv_some n1 rfl rfl
    have k3 : keepEnv [1, 3, 9, 10, 12] [10] e3 3 = some (.int .i64 j) := keepEnv_some n3 rfl rfl
    have k9 : keepEnv [1, 3, 9, 10, 12] [10] e3 9 = some (.int .i64 t.list.length) := keepEnv_some n9 rfl rfl
    have k10 : keepEnv [1, 3, 9, 10, 12] [10] e3 10 = some (.box 10 0) := keepEnv_some n10 rfl rfl
    have k12 : keepEnv [1, 3, 9, 10, 12] [10] e3 12 = some (.int .i64 k) := keepEnv_some n12 rfl rfl
    have q2 : keepHp [10] H 10 = some (.vars (encTy x)) := keepHp_in hH rfl
    generalize keepEnv [1, 3, 9, 10, 12] [10] e3 = e4 at k1 k3 k9 k10 k12
    generalize keepHp [10] H = H4 at q2
    have q2' := q2
    simp only [encTy] at q2
    refine Wp.seq (Wp.seq (Wp_region ?_))
    simp -implicitDefEqProofs only [vm, vs, pairUp, Nat.reduceEqDiff, Nat.reduceAdd, Nat.reduceLeDiff, reduceIte, k10, k12, q2, List.drop_succ_cons, List.drop_zero]
    by_cases hkl : k < x.elems.list.length
    · refine Wp.condT (by simp -implicitDefEqProofs only [vm, vs, pairUp, Nat.reduceEqDiff, Nat.reduceAdd, Nat.reduceLeDiff, reduceIte]; simp [hkl]) (Wp.skip ?_)
      simp -implicitDefEqProofs only [vm, vs, pairUp, Nat.reduceEqDiff, Nat.reduceAdd, Nat.reduceLeDiff, reduceIte]
      have ke := fun H : Hp => iaD_nat (H := H) (enc := encI) (sz := 1) hkl rfl
      have hel := hox.2.2 _ (List.getElem_mem hkl)
      have hel' : 0 ≤ x.elems.list[k] ∧ x.elems.list[k] < t.list.length := by omega
      refine Wp.seq (Wp.block (Wp.seq (Wp_region ?_)))
      simp -implicitDefEqProofs only [vm, vs, pairUp, Nat.reduceEqDiff, Nat.reduceAdd, Nat.reduceLeDiff, reduceIte, k1, k3, k9, k10, k12, q2, ke, encI, List.drop_succ_cons, List.drop_zero, idx_wrap hn200 hel' hj', bit_at hel' hj']
      cases a1 : S [x.elems.list[k], (j : Int)]
      · refine Wp.condT (by simp -implicitDefEqProofs only [vm, vs, pairUp, Nat.reduceEqDiff, Nat.reduceAdd, Nat.reduceLeDiff, reduceIte]) (Wp.seq (Wp_region ?_))
        simp -implicitDefEqProofs only [vm, vs, pairUp, Nat.reduceEqDiff, Nat.reduceAdd, Nat.reduceLeDiff, reduceIte]
        refine Wp.ret ?_
        simp -implicitDefEqProofs only [vm, vs, pairUp, Nat.reduceEqDiff, Nat.reduceAdd, Nat.reduceLeDiff, reduceIte]
        have : (x.elems.list.all fun e => S [e, (j : Int)]) = false := by
          rw [List.all_eq_false]
          exact ⟨_, List.getElem_mem hkl, by simp [a1]⟩
        rw [this]
      · refine Wp.condF (by simp -implicitDefEqProofs only [vm, vs, pairUp, Nat.reduceEqDiff, Nat.reduceAdd, Nat.reduceLeDiff, reduceIte]) (Wp.skip ?_)
        simp -implicitDefEqProofs only [vm, vs, pairUp, Nat.reduceEqDiff, Nat.reduceAdd, Nat.reduceLeDiff, reduceIte]
        have hw := wrap_nat (n := k) (by have := x.elems.len_le; omega)
        refine Wp_region ?_
        simp -implicitDefEqProofs only [vm, vs, pairUp, Nat.reduceEqDiff, Nat.reduceAdd, Nat.reduceLeDiff, reduceIte, k12, hw]
        exact Round_normal ⟨x.elems.list.length - (k + 1), by omega, k + 1, by omega, rfl, k1, k3, k9, k10, rfl, q2', all_snoc (p := fun e => S [e, (j : Int)]) hkl hfs a1⟩
    · refine Wp.condF (by simp -implicitDefEqProofs only [vm, vs, pairUp, Nat.reduceEqDiff, Nat.reduceAdd, Nat.reduceLeDiff, reduceIte]; simp [hkl]) (Wp.exit ?_)
      simp -implicitDefEqProofs only [vm, vs, pairUp, Nat.reduceEqDiff, Nat.reduceAdd, Nat.reduceLeDiff, reduceIte]
      refine Wp.seq (Wp_region ?_)
      simp -implicitDefEqProofs only [vm, vs, pairUp, Nat.reduceEqDiff, Nat.reduceAdd, Nat.reduceLeDiff, reduceIte]
      refine Wp.ret ?_
      simp -implicitDefEqProofs only [vm, vs, pairUp, Nat.reduceEqDiff, Nat.reduceAdd, Nat.reduceLeDiff, reduceIte]
      have hke : k = x.elems.list.length := by omega
      rw [hke, List.take_length] at hfs
      have : (x.elems.list.all fun e => S [e, (j : Int)]) = true := List.all_eq_true.2 hfs
      rw [this]
  refine Wp.condF (by simp -implicitDefEqProofs only [vm, vs, pairUp, Nat.reduceEqDiff, Nat.reduceAdd, Nat.reduceLeDiff, reduceIte]; simp [hk5]) (Wp.skip ?_)
  simp -implicitDefEqProofs only [vm, vs, pairUp, Nat.reduceEqDiff, Nat.reduceAdd, Nat.reduceLeDiff, reduceIte]
  refine Wp.seq (Wp.seq (Wp_region ?_))
  simp -implicitDefEqProofs only [vm, vs, pairUp, Nat.reduceEqDiff, Nat.reduceAdd, Nat.reduceLeDiff, reduceIte, hset_eq, Nat.reduceEqDiff, if_false, if_true, List.drop_succ_cons, List.drop_zero]
  by_cases hy5 : y.kind = 5
  · refine Wp.condT (by simp -implicitDefEqProofs only [vm, vs, pairUp, Nat.reduceEqDiff, Nat.reduceAdd, Nat.reduceLeDiff, reduceIte]; simp [hy5]) ?_
    have ha : asks2 t.list i j = y.elems.list.map fun e => [(i : Int), e] := by unfold asks2; rw [hxt, hyt, if_neg hk5, if_pos hy5]
    have hr : res2 t.list i j ((asks2 t.list i j).map S) = y.elems.list.any fun e => S [(i : Int), e] := by
      unfold res2
      rw [hxt, hyt, if_neg hk5, if_pos hy5, ha, List.map_map, List.any_map]
      rfl
    rw [hr]
    refine Wp.seq (Wp.seq (Wp_region ?_))
    simp -implicitDefEqProofs only [vm, vs, pairUp, Nat.reduceEqDiff, Nat.reduceAdd, Nat.reduceLeDiff, reduceIte]
    refine Wp.block (Wp.loopT (Inv := fun n e H _ => ∃ k : Nat, k ≤ y.elems.list.length ∧ n = y.elems.list.length - k ∧ e 1 = some (bitsD t.list.length S) ∧ e 2 = some (.int .i64 i) ∧ e 9 = some (.int .i64 t.list.length) ∧ e 11 = some (.box 11 0) ∧ e 13 = some (.int .i64 k) ∧ H 11 = some (.vars (encTy y)) ∧ ∀ e ∈ y.elems.list.take k, (!S [(i : Int), e]) = true) ?_ (n := y.elems.list.length) ⟨0, by omega, rfl, rfl, rfl, rfl, rfl, rfl, rfl, fun e h => by simp at h⟩)
    rintro n e3 H g3 ⟨k, hk, rfl, n1, n3, n9, n10, n12, hH, hfs⟩
    refine ⟨hOk_cons hH (okx y).2.1 rfl, ?_⟩
    have k1 : keepEnv [1, 2, 9, 11, 13] [11] e3 1 = some (bitsD t.list.length S) := keepEnv_some n1 rfl rfl
    have k3 : keepEnv [1, 2, 9, 11, 13] [11] e3 2 = some (.int .i64 i) := keepEnv_some n3 rfl rfl
    have k9 : keepEnv [1, 2, 9, 11, 13] [11] e3 9 = some (.int .i64 t.list.length) := keepEnv_some n9 rfl rfl
    have k10 : keepEnv [1, 2, 9, 11, 13] [11] e3 11 = some (.box 11 0) := keepEnv_some n10 rfl rfl
    have k12 : keepEnv [1, 2, 9, 11, 13] [11] e3 13 = some (.int .i64 k) := keepEnv_some n12 rfl rfl
    have q2 : keepHp [11] H 11 = some (.vars (encTy y)) := keepHp_in hH rfl
    generalize keepEnv [1, 2, 9, 11, 13] [11] e3 = e4 at k1 k3 k9 k10 k12
    generalize keepHp [11] H = H4 at q2
    have q2' := q2
    simp only [encTy] at q2
    refine Wp.seq (Wp.seq (Wp_region ?_))
    simp -implicitDefEqProofs only [vm, vs, pairUp, Nat.reduceEqDiff, Nat.reduceAdd, Nat.reduceLeDiff, reduceIte, k10, k12, q2, List.drop_succ_cons, List.drop_zero]
    by_cases hkl : k < y.elems.list.length
    · refine Wp.condT (by simp -implicitDefEqProofs only [vm, vs, pairUp, Nat.reduceEqDiff, Nat.reduceAdd, Nat.reduceLeDiff, reduceIte]; simp [hkl]) (Wp.skip ?_)
      simp -implicitDefEqProofs only [vm, vs, pairUp, Nat.reduceEqDiff, Nat.reduceAdd, Nat.reduceLeDiff, reduceIte]
      have ke := fun H : Hp => iaD_nat (H := H) (enc := encI) (sz := 1) hkl rfl
      have hel := hoy.2.2 _ (List.getElem_mem hkl)
      have hel' : 0 ≤ y.elems.list[k] ∧ y.elems.list[k] < t.list.length := by omega
      refine Wp.seq (Wp.block (Wp.seq (Wp_region ?_)))
      simp -implicitDefEqProofs only [vm, vs, pairUp, Nat.reduceEqDiff, Nat.reduceAdd, Nat.reduceLeDiff, reduceIte, k1, k3, k9, k10, k12, q2, ke, encI, List.drop_succ_cons, List.drop_zero, idx_wrap hn200 hi' hel', bit_at hi' hel']
      cases a1 : S [(i : Int), y.elems.list[k]]
      · refine Wp.condF (by simp -implicitDefEqProofs only [vm, vs, pairUp, Nat.reduceEqDiff, Nat.reduceAdd, Nat.reduceLeDiff, reduceIte]) (Wp.skip ?_)
        simp -implicitDefEqProofs only [vm, vs, pairUp, Nat.reduceEqDiff, Nat.reduceAdd, Nat.reduceLeDiff, reduceIte]
        have hw := wrap_nat (n := k) (by have := y.elems.len_le; omega)
        refine Wp_region ?_
        simp -implicitDefEqProofs only [vm, vs, pairUp, Nat.reduceEqDiff, Nat.reduceAdd, Nat.reduceLeDiff, reduceIte, k12, hw]
        exact Round_normal ⟨y.elems.list.length - (k + 1), by omega, k + 1, by omega, rfl, k1, k3, k9, k10, rfl, q2', all_snoc (p := fun e => !S [(i : Int), e]) hkl hfs (by simp [a1])⟩
      · refine Wp.condT (by simp -implicitDefEqProofs only [vm, vs, pairUp, Nat.reduceEqDiff, Nat.reduceAdd, Nat.reduceLeDiff, reduceIte]) (Wp.seq (Wp_region ?_))
        simp -implicitDefEqProofs only [vm, vs, pairUp, Nat.reduceEqDiff, Nat.reduceAdd, Nat.reduceLeDiff, reduceIte]
        refine Wp.ret ?_
        simp -implicitDefEqProofs only [vm, vs, pairUp, Nat.reduceEqDiff, Nat.reduceAdd, Nat.reduceLeDiff, reduceIte]
        have : (y.elems.list.any fun e => S [(i : Int), e]) = true := List.any_eq_true.2 ⟨_, List.getElem_mem hkl, a1⟩
        rw [this]
    · refine Wp.condF (by simp -implicitDefEqProofs only [vm, vs, pairUp, Nat.reduceEqDiff, Nat.reduceAdd, Nat.reduceLeDiff, reduceIte]; simp [hkl]) (Wp.exit ?_)
      simp -implicitDefEqProofs only [vm, vs, pairUp, Nat.reduceEqDiff, Nat.reduceAdd, Nat.reduceLeDiff, reduceIte]
      refine Wp.seq (Wp_region ?_)
      simp -implicitDefEqProofs only [vm, vs, pairUp, Nat.reduceEqDiff, Nat.reduceAdd, Nat.reduceLeDiff, reduceIte]
      refine Wp.ret ?_
      simp -implicitDefEqProofs only [vm, vs, pairUp, Nat.reduceEqDiff, Nat.reduceAdd, Nat.reduceLeDiff, reduceIte]
      have hke : k = y.elems.list.length := by omega
      rw [hke, List.take_length] at hfs
      have : (y.elems.list.any fun e => S [(i : Int), e]) = false := by
        rw [List.any_eq_false]
        intro e he h
        have := hfs e he
        rw [h] at this
        cases this
      rw [this]
  refine Wp.condF (by simp -implicitDefEqProofs only [vm, vs, pairUp, Nat.reduceEqDiff, Nat.reduceAdd, Nat.reduceLeDiff, reduceIte]; simp [hy5]) (Wp.skip ?_)
  simp -implicitDefEqProofs only [vm, vs, pairUp, Nat.reduceEqDiff, Nat.reduceAdd, Nat.reduceLeDiff, reduceIte]
  refine Wp.seq (Wp.seq (Wp_region ?_))
  simp -implicitDefEqProofs only [vm, vs, pairUp, Nat.reduceEqDiff, Nat.reduceAdd, Nat.reduceLeDiff, reduceIte, hset_eq, Nat.reduceEqDiff, if_false, if_true, List.drop_succ_cons, List.drop_zero]
  by_cases hy0 : y.kind = 0
  · refine Wp.condT (by simp -implicitDefEqProofs only [vm, vs, pairUp, Nat.reduceEqDiff, Nat.reduceAdd, Nat.reduceLeDiff, reduceIte]; simp [hy0]) (Wp.seq (Wp_region ?_))
    simp -implicitDefEqProofs only [vm, vs, pairUp, Nat.reduceEqDiff, Nat.reduceAdd, Nat.reduceLeDiff, reduceIte]
    refine Wp.ret ?_
    simp -implicitDefEqProofs only [vm, vs, pairUp, Nat.reduceEqDiff, Nat.reduceAdd, Nat.reduceLeDiff, reduceIte]
    have hr : res2 t.list i j ((asks2 t.list i j).map S) = true := by
      unfold res2
      rw [hxt, hyt, if_neg hk5, if_neg hy5, if_pos hy0]
    rw [hr]
  refine Wp.condF (by simp -implicitDefEqProofs only [vm, vs, pairUp, Nat.reduceEqDiff, Nat.reduceAdd, Nat.reduceLeDiff, reduceIte]; simp [hy0]) (Wp.skip ?_)
  simp -implicitDefEqProofs only [vm, vs, pairUp, Nat.reduceEqDiff, Nat.reduceAdd, Nat.reduceLeDiff, reduceIte]
  refine Wp.seq (Wp.seq (Wp_region ?_))
  simp -implicitDefEqProofs only [vm, vs, pairUp, Nat.reduceEqDiff, Nat.reduceAdd, Nat.reduceLeDiff, reduceIte, hset_eq, Nat.reduceEqDiff, if_false, if_true, List.drop_succ_cons, List.drop_zero]
  by_cases hne : x.kind ≠ y.kind
  · refine Wp.condT (by simp -implicitDefEqProofs only [vm, vs, pairUp, Nat.reduceEqDiff, Nat.reduceAdd, Nat.reduceLeDiff, reduceIte]; simp [hne]) (Wp.seq (Wp_region ?_))
    simp -implicitDefEqProofs only [vm, vs, pairUp, Nat.reduceEqDiff, Nat.reduceAdd, Nat.reduceLeDiff, reduceIte]
    refine Wp.ret ?_
    simp -implicitDefEqProofs only [vm, vs, pairUp, Nat.reduceEqDiff, Nat.reduceAdd, Nat.reduceLeDiff, reduceIte]
    have hr : res2 t.list i j ((asks2 t.list i j).map S) = false := by
      unfold res2
      rw [hxt, hyt, if_neg hk5, if_neg hy5, if_neg hy0, if_pos hne]
    rw [hr]
  refine Wp.condF (by simp -implicitDefEqProofs only [vm, vs, pairUp, Nat.reduceEqDiff, Nat.reduceAdd, Nat.reduceLeDiff, reduceIte]; simp at hne; simp [hne]) (Wp.skip ?_)
  simp -implicitDefEqProofs only [vm, vs, pairUp, Nat.reduceEqDiff, Nat.reduceAdd, Nat.reduceLeDiff, reduceIte]
  have ha : asks2 t.list i j = y.fields.list.flatMap (askF x.fields.list) := by
    unfold asks2; rw [hxt, hyt, if_neg hk5, if_neg hy5, if_neg hy0, if_neg hne]
  have hr : res2 t.list i j ((asks2 t.list i j).map S) = y.fields.list.all fun e => valF x.fields.list e S := by
    rw [ha]
    unfold res2
    rw [hxt, hyt, if_neg hk5, if_neg hy5, if_neg hy0, if_neg hne]
    exact (all_valF _ _ _).symm
  rw [hr]
  refine Wp.seq (Wp.seq (Wp_region ?_))
  simp -implicitDefEqProofs only [vm, vs, pairUp, Nat.reduceEqDiff, Nat.reduceAdd, Nat.reduceLeDiff, reduceIte]
  refine Wp.block (Wp.loopT (Inv := fun n e H _ => ∃ k : Nat, k ≤ y.fields.list.length ∧ n = y.fields.list.length - k ∧ e 1 = some (bitsD t.list.length S) ∧ e 9 = some (.int .i64 t.list.length) ∧ e 10 = some (.box 10 0) ∧ e 11 = some (.box 11 0) ∧ e 14 = some (.int .i64 k) ∧ H 10 = some (.vars (encTy x)) ∧ H 11 = some (.vars (encTy y)) ∧ ∀ e ∈ y.fields.list.take k, valF x.fields.list e S = true) ?_ (n := y.fields.list.length) ⟨0, by omega, rfl, rfl, rfl, rfl, rfl, rfl, rfl, rfl, fun e h => by simp at h⟩)
  rintro n e3 H g3 ⟨k, hk, rfl, n1, n9, n10, n11, n14, hH, hH', hfs⟩
  refine ⟨hOk_cons hH (okx x).2.2 (hOk_cons hH' (okx y).2.2 rfl), ?_⟩
  have k1 : keepEnv [1, 9, 10, 11, 14] [10, 11] e3 1 = some (bitsD t.list.length S) := keepEnv_some n1 rfl rfl
  have k9 : keepEnv [1, 9, 10, 11, 14] [10, 11] e3 9 = some (.int .i64 t.list.length) := keepEnv_some n9 rfl rfl
  have k10 : keepEnv [1, 9, 10, 11, 14] [10, 11] e3 10 = some (.box 10 0) := keepEnv_some n10 rfl rfl
  have k11 : keepEnv [1, 9, 10, 11, 14] [10, 11] e3 11 = some (.box 11 0) := keepEnv_some n11 rfl rfl
  have k14 : keepEnv [1, 9, 10, 11, 14] [10, 11] e3 14 = some (.int .i64 k) := keepEnv_some n14 rfl rfl
  have q2 : keepHp [10, 11] H 10 = some (.vars (encTy x)) := keepHp_in hH rfl
  have q3 : keepHp [10, 11] H 11 = some (.vars (encTy y)) := keepHp_in hH' rfl
  generalize keepEnv [1, 9, 10, 11, 14] [10, 11] e3 = e4 at k1 k9 k10 k11 k14
  generalize keepHp [10, 11] H = H4 at q2 q3
  have q2' := q2
  have q3' := q3
  simp only [encTy] at q2 q3
  refine Wp.seq (Wp.seq (Wp_region ?_))
  simp -implicitDefEqProofs only [vm, vs, pairUp, Nat.reduceEqDiff, Nat.reduceAdd, Nat.reduceLeDiff, reduceIte, k11, k14, q3, List.drop_succ_cons, List.drop_zero]
  by_cases hkl : k < y.fields.list.length
  · refine Wp.condT (by simp -implicitDefEqProofs only [vm, vs, pairUp, Nat.reduceEqDiff, Nat.reduceAdd, Nat.reduceLeDiff, reduceIte]; simp [hkl]) (Wp.skip ?_)
    simp -implicitDefEqProofs only [vm, vs, pairUp, Nat.reduceEqDiff, Nat.reduceAdd, Nat.reduceLeDiff, reduceIte]
    have ke := fun H : Hp => iaD_nat (H := H) (enc := encTF) (sz := 2) hkl rfl
    generalize hf : y.fields.list[k] = f at ke
    have hty := (hoy.2.1 k hkl)
    rw [OkField, hf] at hty
    have hfy : 0 ≤ f.type ∧ f.type < t.list.length := ⟨hty.1, hty.2.1⟩
    have hfrz : ∀ H : Hp, frzL frz H [.agg [.int .i64 x.kind, slD encTF x.fields, slD encI x.elems], .str f.name] = some ([.agg [.int .i64 x.kind, slD encTF x.fields, slD encI x.elems], .str f.name], H) := fun H => by simp -implicitDefEqProofs only [vm, vs, pairUp, Nat.reduceEqDiff, Nat.reduceAdd, Nat.reduceLeDiff, reduceIte]
    have hfc := fun v => fieldR_c x f.name v
    simp only [encTy] at hfc
    have hall : ∀ e' : Env, e' 1 = some (bitsD t.list.length S) → True := fun _ _ => trivial
    cases hg : fieldGet x.fields.list f.name with
    | none =>
      have hfd : fieldD x.fields.list f.name = .tup [.int .i64 0, .bool false] := by unfold fieldD; rw [hg]; rfl
      rw [hfd] at hfc
      refine Wp.seq (Wp.block (Wp.seq (Wp_effs (by kernel_rfl) (by simp -implicitDefEqProofs only [vm, vs, pairUp, Nat.reduceEqDiff, Nat.reduceAdd, Nat.reduceLeDiff, reduceIte, k10, k11, k14, q2, q3, p3, ke, encTF, List.drop_succ_cons, List.drop_zero, sh_TT, shTy, hfrz, hfc, List.getElem?_cons_zero, List.getElem?_cons_succ]; rfl) (by kernel_rfl) ?_)))
      simp only [andThen_normal]
      refine Wp.seq (Wp.seq (Wp_region ?_))
      simp -implicitDefEqProofs only [vm, vs, pairUp, Nat.reduceEqDiff, Nat.reduceAdd, Nat.reduceLeDiff, reduceIte]
      refine Wp.condT (by simp -implicitDefEqProofs only [vm, vs, pairUp, Nat.reduceEqDiff, Nat.reduceAdd, Nat.reduceLeDiff, reduceIte]) (Wp.seq (Wp_region ?_))
      simp -implicitDefEqProofs only [vm, vs, pairUp, Nat.reduceEqDiff, Nat.reduceAdd, Nat.reduceLeDiff, reduceIte]
      refine Wp.ret ?_
      simp -implicitDefEqProofs only [vm, vs, pairUp, Nat.reduceEqDiff, Nat.reduceAdd, Nat.reduceLeDiff, reduceIte]
      have : (y.fields.list.all fun e => valF x.fields.list e S) = false := by
        rw [List.all_eq_false]
        exact ⟨_, List.getElem_mem hkl, by rw [hf]; simp only [valF, hg]; simp⟩
      rw [this]
    | some m =>
      have hfd : fieldD x.fields.list f.name = .tup [.int .i64 m, .bool true] := by unfold fieldD; rw [hg]; rfl
      rw [hfd] at hfc
      obtain ⟨f', hf', hfm⟩ := fieldGet_mem hg
      have hmr : 0 ≤ m ∧ m < t.list.length := by
        obtain ⟨k', hk', rfl⟩ := List.getElem_of_mem hf'
        have := hox.2.1 k' hk'
        rw [← hfm]; exact ⟨this.1, this.2.1⟩
      refine Wp.seq (Wp.block (Wp.seq (Wp_effs (by kernel_rfl) (by simp -implicitDefEqProofs only [vm, vs, pairUp, Nat.reduceEqDiff, Nat.reduceAdd, Nat.reduceLeDiff, reduceIte, k10, k11, k14, q2, q3, p3, ke, encTF, List.drop_succ_cons, List.drop_zero, sh_TT, shTy, hfrz, hfc, List.getElem?_cons_zero, List.getElem?_cons_succ]; rfl) (by kernel_rfl) ?_)))
      simp only [andThen_normal]
      refine Wp.seq (Wp.seq (Wp_region ?_))
      simp -implicitDefEqProofs only [vm, vs, pairUp, Nat.reduceEqDiff, Nat.reduceAdd, Nat.reduceLeDiff, reduceIte]
      refine Wp.condF (by simp -implicitDefEqProofs only [vm, vs, pairUp, Nat.reduceEqDiff, Nat.reduceAdd, Nat.reduceLeDiff, reduceIte]) (Wp.skip ?_)
      simp -implicitDefEqProofs only [vm, vs, pairUp, Nat.reduceEqDiff, Nat.reduceAdd, Nat.reduceLeDiff, reduceIte]
      refine Wp.seq (Wp_region ?_)
      simp -implicitDefEqProofs only [vm, vs, pairUp, Nat.reduceEqDiff, Nat.reduceAdd, Nat.reduceLeDiff, reduceIte, k1, k9, k10, k11, k14, q3, ke, encTF, List.drop_succ_cons, List.drop_zero, idx_wrap hn200 hmr hfy, bit_at hmr hfy]
      cases a1 : S [m, f.type]
      · refine Wp.condT (by simp -implicitDefEqProofs only [vm, vs, pairUp, Nat.reduceEqDiff, Nat.reduceAdd, Nat.reduceLeDiff, reduceIte]) (Wp.seq (Wp_region ?_))
        simp -implicitDefEqProofs only [vm, vs, pairUp, Nat.reduceEqDiff, Nat.reduceAdd, Nat.reduceLeDiff, reduceIte]
        refine Wp.ret ?_
        simp -implicitDefEqProofs only [vm, vs, pairUp, Nat.reduceEqDiff, Nat.reduceAdd, Nat.reduceLeDiff, reduceIte]
        have : (y.fields.list.all fun e => valF x.fields.list e S) = false := by
          rw [List.all_eq_false]
          exact ⟨_, List.getElem_mem hkl, by rw [hf]; simp only [valF, hg]; simp [a1]⟩
        rw [this]
      · refine Wp.condF (by simp -implicitDefEqProofs only [vm, vs, pairUp, Nat.reduceEqDiff, Nat.reduceAdd, Nat.reduceLeDiff, reduceIte]) (Wp.skip ?_)
        simp -implicitDefEqProofs only [vm, vs, pairUp, Nat.reduceEqDiff, Nat.reduceAdd, Nat.reduceLeDiff, reduceIte]
        have hw := wrap_nat (n := k) (by have := y.fields.len_le; omega)
        refine Wp_region ?_
        simp -implicitDefEqProofs only [vm, vs, pairUp, Nat.reduceEqDiff, Nat.reduceAdd, Nat.reduceLeDiff, reduceIte, k14, hw]
        exact Round_normal ⟨y.fields.list.length - (k + 1), by omega, k + 1, by omega, rfl, k1, k9, k10, k11, rfl, q2', q3', all_snoc (p := fun e => valF x.fields.list e S) hkl hfs (by rw [hf]; simp only [valF, hg]; exact a1)⟩
  · refine Wp.condF (by simp -implicitDefEqProofs only [vm, vs, pairUp, Nat.reduceEqDiff, Nat.reduceAdd, Nat.reduceLeDiff, reduceIte]; simp [hkl]) (Wp.exit ?_)
    simp -implicitDefEqProofs only [vm, vs, pairUp, Nat.reduceEqDiff, Nat.reduceAdd, Nat.reduceLeDiff, reduceIte]
    refine Wp.seq (Wp_region ?_)
    simp -implicitDefEqProofs only [vm, vs, pairUp, Nat.reduceEqDiff, Nat.reduceAdd, Nat.reduceLeDiff, reduceIte]
    refine Wp.ret ?_
    simp -implicitDefEqProofs only [vm, vs, pairUp, Nat.reduceEqDiff, Nat.reduceAdd, Nat.reduceLeDiff, reduceIte]
    have hke : k = y.fields.list.length := by omega
    rw [hke, List.take_length] at hfs
    have : (y.fields.list.all fun e => valF x.fields.list e S) = true := List.all_eq_true.2 hfs
    rw [this]
end Go.VM
