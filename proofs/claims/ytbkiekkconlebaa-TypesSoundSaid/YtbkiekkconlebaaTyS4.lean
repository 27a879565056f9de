/-
  Sub's rule is the rule.
-/
import Derived.Test.YtbkiekkconlebaaTyS3
import Derived.KernelRfl
set_option linter.all false
set_option linter.all false
set_option maxRecDepth 100000
namespace Go.VM
open Go Go.Sv

theorem flat_one {α : Type} {l : List α} {f : α → K} : (l.flatMap fun e => [f e]) = l.map f := by
  induction l with
  | nil => rfl
  | cons x l ih => rw [List.flatMap_cons, ih]; rfl
theorem rising_of {n : Nat} {l : List TF} (h : OkFields n l) : Rising TF.name l := by
  intro i hi
  obtain ⟨_, _, h3⟩ := h (i + 1) hi
  exact h3 (by omega)
theorem all_valF (m : List TF) (v : K → Bool) (l : List TF) : (l.all fun e => valF m e v) = ((l.all fun f => (fieldGet m f.name).isSome) && ((l.flatMap (askF m)).map v).all id) := by
  induction l with
  | nil => rfl
  | cons f l ih =>
    rw [List.all_cons, List.all_cons, List.flatMap_cons, List.map_append, List.all_append, ih]
    unfold valF askF
    cases fieldGet m f.name with
    | none => simp
    | some n => simp only [Option.isSome_some, Bool.true_and, List.map_cons, List.map_nil, List.all_cons, List.all_nil, Bool.and_true, id]; ac_rfl
theorem sub_rule {t : SlOf Ty} {B : Nat} (hB : 4096 ≤ B) (hm : MayP t.list) : RuleOk TT 2 16 B 121 59 [.box 3 0] (ruleT t.list) (fun H => H 3 = some (.vars [slD encTy t])) := by
  refine ⟨rfl, fun H H' h hf => ?_, fun H n s k kb hr hd hn hkb0 hkb1 hkb hC hkU h1 h2 => ?_⟩
  · rw [hf 3 (by omega) (by omega) (by omega) (by omega) (by rw [h]; simp)]; exact h
  suffices key : ∃ r H' g', (callL TT).shared 59 ([.agg (enc k), .fnS 121 [.box (B + 5) 0, .box (B + 6) 0, .box kb 0]] ++ [.box 3 0]) H (n, ()) = some (r, H', g') ∧ (r = .bool ((ruleT t.list).res k (((ruleT t.list).asks k).map (ans s.A))) ∧ n ≤ g'.1 ∧ Dom H' g'.1 ∧ Frame B n H H' ∧ ∃ s', Rep 2 B (.fnS 59 [.box 3 0]) H' s' ∧ s'.A = askL k ((ruleT t.list).asks k) s.A) by
    obtain ⟨r, H', g', k1, rfl, k2⟩ := key
    exact ⟨H', g', k1, k2⟩
  obtain ⟨i, j, hi, hj, rfl⟩ := mem_pairsT.1 hkU
  generalize hx : t.list[i] = x
  generalize hy : t.list[j] = y
  have hxt : tyAt t.list i = x := by rw [tyAt_get hi, hx]
  have hyt : tyAt t.list j = y := by rw [tyAt_get hj, hy]
  have hox := hm.1 i hi
  rw [hx] at hox
  have f4096 : roomKeys = 4096 := rfl
  have hfree : ∀ i, H (n + i) = none := fun i => hd _ (by omega)
  have n3 : ∀ i, ((3 : Nat) = n + i) = False := fun i => by simp; omega
  have ia := fun H : Hp => iaD_nat (H := H) (enc := encTy) (sz := 3) hi rfl
  have ja := fun H : Hp => iaD_nat (H := H) (enc := encTy) (sz := 3) hj rfl
  have p3 : ∀ a b c : D, partD true 3 [a, b, c] = some (.agg [a, b, c]) := fun _ _ _ => rfl
  refine fnS_of (vf := v59) rfl rfl (by rfl) rfl ?_
  unfold v59
  refine Wp.seq (Wp_region ?_)
  simp -implicitDefEqProofs only [vm, vs, pairUp, Nat.reduceEqDiff, Nat.reduceAdd, Nat.reduceLeDiff, reduceIte, enc2, hfree, hset_eq, Nat.add_left_cancel_iff, Nat.reduceEqDiff, if_false, List.cons_append, List.nil_append]
  refine Wp.seq (Wp.draw (runDraw_notes (by kernel_rfl) (nts := ?nts) (st' := ?st) ?run ?chk) ?_)
  case run =>
    simp -implicitDefEqProofs only [vm, vs, pairUp, Nat.reduceEqDiff, Nat.reduceAdd, Nat.reduceLeDiff, reduceIte, hset_eq, Nat.add_left_cancel_iff, Nat.reduceEqDiff, if_false, if_true, n3, hC, ia, ja, hx, hy, encTy, p3, hfree, List.drop_succ_cons, List.drop_zero]
    rfl
  case chk =>
    have ho : openPairs [⟨some 8, .load false 1 (.t 2), none, []⟩,
  ⟨some 9, .faddr 0 (.t 3), none, []⟩,
  ⟨some 10, .load false 1 (.t 9), none, [1]⟩,
  ⟨some 11, .iaddr 3 (.t 8) (.t 10), none, [0, 2]⟩,
  ⟨some 12, .load true 3 (.t 11), none, [3]⟩,
  ⟨some 13, .load false 1 (.t 2), none, []⟩,
  ⟨some 14, .faddr 1 (.t 3), none, []⟩,
  ⟨some 15, .load false 1 (.t 14), none, [6]⟩,
  ⟨some 16, .iaddr 3 (.t 13) (.t 15), none, [5, 7]⟩,
  ⟨some 17, .load true 3 (.t 16), none, [8]⟩,
  ⟨some 6, .alloc [(.int .i64 0), .nilsl, .nilsl], none, []⟩,
  ⟨some 7, .alloc [(.int .i64 0), .nilsl, .nilsl], none, []⟩,
  ⟨none, .store 3 (.t 6) (.t 12), none, [10, 4, 0, 1, 2, 3, 4, 10, 11]⟩,
  ⟨none, .store 3 (.t 7) (.t 17), none, [11, 9, 12, 0, 1, 2, 3, 4, 5, 6, 7, 8, 9, 10, 11, 12]⟩] = [(0, 1), (0, 2), (0, 5), (0, 6), (0, 7), (0, 8), (0, 9), (0, 10), (0, 11), (1, 5), (1, 6), (1, 7), (1, 8), (1, 9), (1, 10), (1, 11), (2, 5), (2, 6), (2, 7), (2, 8), (2, 9), (2, 10), (2, 11), (3, 5), (3, 6), (3, 7), (3, 8), (3, 9), (3, 10), (3, 11), (4, 5), (4, 6), (4, 7), (4, 8), (4, 9), (4, 10), (4, 11), (5, 6), (5, 7), (5, 10), (5, 11), (5, 12), (6, 10), (6, 11), (6, 12), (7, 10), (7, 11), (7, 12), (8, 10), (8, 11), (8, 12), (9, 10), (9, 11), (9, 12), (10, 11)] := by kernel_rfl
    rw [ho]
    simp [dynAt, dynOk, wkey, clearOf, VOp.isLocal, VOp.saw, VOp.quiet, VOp.frs, quietL, VOp.keys, VOp.opds, D.key1, ev_t, set_eq, put_some, put_none, n3, args0_0, args0_1, args0_2]
    rcases t with _ | ⟨l, hl⟩ <;> simp [slD]
  simp only [andThen_normal]
  have hr1 : ∀ {H : Hp} {i : Nat} {c : HC}, Rep 2 B (.fnS 59 [.box 3 0]) H s → (∀ a d e, H (n + i) ≠ some (.arr a d e)) → Rep 2 B (.fnS 59 [.box 3 0]) (H.set (n + i) c) s := fun h h' => h.set (by omega) h'
  generalize hH2 : ((((((H.set (n + 3) (.vars [.int .i64 (i : Int), .int .i64 (j : Int)])).set (n + 4) (.vars [.fnS 121 [.box (B + 5) 0, .box (B + 6) 0, .box kb 0]])).set (n + 6) (.vars [.int .i64 0, .nilsl, .nilsl])).set (n + 7) (.vars [.int .i64 0, .nilsl, .nilsl])).set (n + 6) (.vars [.int .i64 x.kind, slD encTF x.fields, slD encI x.elems])).set (n + 7) (.vars [.int .i64 y.kind, slD encTF y.fields, slD encI y.elems])) = H2
  have hkeep : ∀ m, m < n → H2 m = H m := fun m hm => by
    rw [← hH2]
    repeat rw [Hp.set_other _ _ (by omega)]
  have g3 : H2 (n + 3) = some (.vars (enc [(i : Int), (j : Int)])) := by rw [← hH2]; simp [hset_eq, enc2]
  have g4 : H2 (n + 4) = some (.vars [.fnS 121 [.box (B + 5) 0, .box (B + 6) 0, .box kb 0]]) := by rw [← hH2]; simp [hset_eq]
  have g6 : H2 (n + 6) = some (.vars (encTy x)) := by rw [← hH2]; simp [hset_eq, encTy]
  have g7 : H2 (n + 7) = some (.vars (encTy y)) := by rw [← hH2]; simp [hset_eq, encTy]
  have hr2 : Rep 2 B (.fnS 59 [.box 3 0]) H2 s := by
    refine hr.congr (hkeep _ (by omega)) (hkeep _ (by omega)) (hkeep _ (by omega)) (hkeep _ (by omega)) (hkeep _ (by omega)) (fun m a b c hm => hkeep m ?_)
    rcases Nat.lt_or_ge m n with h | h
    · exact h
    · rw [hd m h] at hm; cases hm
  have hd2 : Dom H2 (n + 4096) := by
    rw [← hH2]
    exact (((((((hd.mono (Nat.le_add_right n 4096)).set (by omega)).set (by omega)).set (by omega)).set (by omega)).set (by omega)).set (by omega))
  have hf2 : Frame B n H H2 := fun m hm _ _ _ _ => hkeep m hm
  have hctx : Ctx2 B (n + 4096) kb (n + 4) (n + 3) i j H2 := ⟨by rw [hkeep _ hkb1]; exact hkb, g4, g3, by omega, by omega, by omega⟩
  have hctx3 : Ctx3 B (n + 4096) kb (n + 4) (n + 3) (n + 6) i j x H2 := ⟨hctx, g6, by omega⟩
  have hN : B + 4096 ≤ n + 4096 := by omega
  have hasks : (ruleT t.list).asks [(i : Int), (j : Int)] = asks2 t.list i j := rfl
  have hres : ∀ l, (ruleT t.list).res [(i : Int), (j : Int)] l = res2 t.list i j l := fun _ => rfl
  rw [hasks] at h1 h2 ⊢
  rw [hres]
  refine Wp.seq (Wp.block (Wp.seq (Wp_region ?_)))
  simp -implicitDefEqProofs only [vm, vs, pairUp, Nat.reduceEqDiff, Nat.reduceAdd, Nat.reduceLeDiff, reduceIte, g6, encTy, List.drop_succ_cons, List.drop_zero]
  by_cases hk5 : x.kind = 5
  · refine Wp.condT (by simp -implicitDefEqProofs only [vm, vs, pairUp, Nat.reduceEqDiff, Nat.reduceAdd, Nat.reduceLeDiff, reduceIte]; simp [hk5]) (Wp.seq (Wp_region ?_))
    have ha : asks2 t.list i j = x.elems.list.flatMap fun e => [[e, (j : Int)]] := by
      unfold asks2; rw [hxt, if_pos hk5, flat_one]
    rw [ha] at h1 h2
    obtain ⟨H', g', c1, c2, c3, c4, s', c5, c6⟩ := all_int (rule := .fnS 59 [.box 3 0]) (fun H H' h hf => Ctx2.keep h hf) (x := x.elems) (f2 := 61) (caps := [.box (n + 4) 0, .box (n + 3) 0]) (oo := fun e => [[e, (j : Int)]]) (val := fun e v => v [e, (j : Int)]) (fun e _ => left_ask hN e) H2 (n + 4096) s hctx hr2 hd2 (Nat.le_refl _) h1 h2
    simp -implicitDefEqProofs only [vm, vs, pairUp, Nat.reduceEqDiff, Nat.reduceAdd, Nat.reduceLeDiff, reduceIte, g6, encTy, List.drop_succ_cons, List.drop_zero, sh_TT, shTy, f4096, List.append_nil, c1]
    refine Wp.ret ?_
    simp only [andThen_ret, inBlock_ret, EndsP_ret, rawD_tmp, rawD_nil, consO_some, rawO_some, tupD_one, set_eq, Nat.reduceEqDiff, if_true, if_false]
    refine ⟨?_, by omega, c3, hf2.trans (c4.mono (by omega)), s', c5, by rw [ha]; exact c6⟩
    rw [ha]
    unfold res2
    rw [hxt, if_pos hk5, flat_one, List.map_map, List.all_map]
    rfl
  have hdone : ∀ {r : Bool}, asks2 t.list i j = [] → r = res2 t.list i j [] → (D.bool r = .bool (res2 t.list i j ((asks2 t.list i j).map (ans s.A))) ∧ n ≤ n + 4096 ∧ Dom H2 (n + 4096) ∧ Frame B n H H2 ∧ ∃ s', Rep 2 B (.fnS 59 [.box 3 0]) H2 s' ∧ s'.A = askL [(i : Int), (j : Int)] (asks2 t.list i j) s.A) := fun {r} h h' => by
    rw [h, h']; exact ⟨rfl, by omega, hd2, hf2, s, hr2, rfl⟩
  refine Wp.condF (by simp -implicitDefEqProofs only [vm, vs, pairUp, Nat.reduceEqDiff, Nat.reduceAdd, Nat.reduceLeDiff, reduceIte]; simp [hk5]) (Wp.seq (Wp_region ?_))
  simp -implicitDefEqProofs only [vm, vs, pairUp, Nat.reduceEqDiff, Nat.reduceAdd, Nat.reduceLeDiff, reduceIte, g7, encTy, List.drop_succ_cons, List.drop_zero]
  by_cases hy5 : y.kind = 5
  · refine Wp.condT (by simp -implicitDefEqProofs only [vm, vs, pairUp, Nat.reduceEqDiff, Nat.reduceAdd, Nat.reduceLeDiff, reduceIte]; simp [hy5]) (Wp.seq (Wp_region ?_))
    have ha : asks2 t.list i j = y.elems.list.flatMap fun e => [[(i : Int), e]] := by
      unfold asks2; rw [hxt, hyt, if_neg hk5, if_pos hy5, flat_one]
    rw [ha] at h1 h2
    obtain ⟨H', g', c1, c2, c3, c4, s', c5, c6⟩ := all_int (rule := .fnS 59 [.box 3 0]) (fun H H' h hf => Ctx2.keep h hf) (x := y.elems) (f2 := 62) (caps := [.box (n + 4) 0, .box (n + 3) 0]) (oo := fun e => [[(i : Int), e]]) (val := fun e v => !v [(i : Int), e]) (fun e _ => right_ask hN e) H2 (n + 4096) s hctx hr2 hd2 (Nat.le_refl _) h1 h2
    simp -implicitDefEqProofs only [vm, vs, pairUp, Nat.reduceEqDiff, Nat.reduceAdd, Nat.reduceLeDiff, reduceIte, g7, encTy, List.drop_succ_cons, List.drop_zero, sh_TT, shTy, f4096, List.append_nil, c1]
    refine Wp.ret ?_
    simp only [andThen_ret, inBlock_ret, EndsP_ret, rawD_tmp, rawD_nil, consO_some, rawO_some, tupD_one, set_eq, Nat.reduceEqDiff, if_true, if_false]
    refine ⟨?_, by omega, c3, hf2.trans (c4.mono (by omega)), s', c5, by rw [ha]; exact c6⟩
    rw [ha]
    unfold res2
    rw [hxt, hyt, if_neg hk5, if_pos hy5, flat_one, List.map_map, List.any_map, List.any_eq_not_all_not]
    rfl
  refine Wp.condF (by simp -implicitDefEqProofs only [vm, vs, pairUp, Nat.reduceEqDiff, Nat.reduceAdd, Nat.reduceLeDiff, reduceIte]; simp [hy5]) (Wp.seq (Wp_region ?_))
  simp -implicitDefEqProofs only [vm, vs, pairUp, Nat.reduceEqDiff, Nat.reduceAdd, Nat.reduceLeDiff, reduceIte, g7, encTy, List.drop_succ_cons, List.drop_zero]
  by_cases hy0 : y.kind = 0
  · refine Wp.condT (by simp -implicitDefEqProofs only [vm, vs, pairUp, Nat.reduceEqDiff, Nat.reduceAdd, Nat.reduceLeDiff, reduceIte]; simp [hy0]) (Wp.seq (Wp_region ?_))
    simp -implicitDefEqProofs only [vm, vs, pairUp, Nat.reduceEqDiff, Nat.reduceAdd, Nat.reduceLeDiff, reduceIte]
    refine Wp.ret ?_
    simp only [andThen_ret, inBlock_ret, EndsP_ret, rawD_tmp, rawD_nil, consO_some, rawO_some, tupD_one, set_eq, Nat.reduceEqDiff, if_true, if_false]
    refine hdone ?_ ?_
    · unfold asks2; rw [hxt, hyt, if_neg hk5, if_neg hy5, if_pos hy0]
    · unfold res2; rw [hxt, hyt, if_neg hk5, if_neg hy5, if_pos hy0]
  refine Wp.condF (by simp -implicitDefEqProofs only [vm, vs, pairUp, Nat.reduceEqDiff, Nat.reduceAdd, Nat.reduceLeDiff, reduceIte]; simp [hy0]) (Wp.seq (Wp_region ?_))
  simp -implicitDefEqProofs only [vm, vs, pairUp, Nat.reduceEqDiff, Nat.reduceAdd, Nat.reduceLeDiff, reduceIte, g6, g7, encTy, List.drop_succ_cons, List.drop_zero]
  by_cases hne : x.kind ≠ y.kind
  · refine Wp.condT (by simp -implicitDefEqProofs only [vm, vs, pairUp, Nat.reduceEqDiff, Nat.reduceAdd, Nat.reduceLeDiff, reduceIte]; simp [hne]) (Wp.seq (Wp_region ?_))
    simp -implicitDefEqProofs only [vm, vs, pairUp, Nat.reduceEqDiff, Nat.reduceAdd, Nat.reduceLeDiff, reduceIte]
    refine Wp.ret ?_
    simp only [andThen_ret, inBlock_ret, EndsP_ret, rawD_tmp, rawD_nil, consO_some, rawO_some, tupD_one, set_eq, Nat.reduceEqDiff, if_true, if_false]
    refine hdone ?_ ?_
    · unfold asks2; rw [hxt, hyt, if_neg hk5, if_neg hy5, if_neg hy0, if_pos hne]
    · unfold res2; rw [hxt, hyt, if_neg hk5, if_neg hy5, if_neg hy0, if_pos hne]
  refine Wp.condF (by simp -implicitDefEqProofs only [vm, vs, pairUp, Nat.reduceEqDiff, Nat.reduceAdd, Nat.reduceLeDiff, reduceIte]; simp at hne; simp [hne]) (Wp.skip ?_)
  simp -implicitDefEqProofs only [vm, vs, pairUp, Nat.reduceEqDiff, Nat.reduceAdd, Nat.reduceLeDiff, reduceIte]
  have ha : asks2 t.list i j = y.fields.list.flatMap (askF x.fields.list) := by
    unfold asks2; rw [hxt, hyt, if_neg hk5, if_neg hy5, if_neg hy0, if_neg hne]
  rw [ha] at h1 h2
  obtain ⟨H', g', c1, c2, c3, c4, s', c5, c6⟩ := all_field (rule := .fnS 59 [.box 3 0]) hN (fun H H' h hf => Ctx3.keep h hf) (x := y.fields) (f2 := 64) (caps := [.box (n + 6) 0, .box (n + 4) 0]) (oo := askF x.fields.list) (val := valF x.fields.list) (fun e _ => field_ask (rising_of hox.2.1) hN e) H2 (n + 4096) s hctx3 hr2 hd2 (Nat.le_refl _) h1 h2
  refine Wp.seq (Wp_region ?_)
  simp -implicitDefEqProofs only [vm, vs, pairUp, Nat.reduceEqDiff, Nat.reduceAdd, Nat.reduceLeDiff, reduceIte, g7, encTy, List.drop_succ_cons, List.drop_zero, sh_TT, shTy, f4096, List.append_nil, c1]
  refine Wp.ret ?_
  simp only [andThen_ret, inBlock_ret, EndsP_ret, rawD_tmp, rawD_nil, consO_some, rawO_some, tupD_one, set_eq, Nat.reduceEqDiff, if_true, if_false]
  refine ⟨?_, by omega, c3, hf2.trans (c4.mono (by omega)), s', c5, by rw [ha]; exact c6⟩
  rw [ha]
  unfold res2
  rw [hxt, hyt, if_neg hk5, if_neg hy5, if_neg hy0, if_neg hne]
  rw [all_valF]
end Go.VM
