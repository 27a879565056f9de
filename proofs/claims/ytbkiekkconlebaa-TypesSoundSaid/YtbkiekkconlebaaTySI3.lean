/-
  In's rule is the rule.
-/
import Derived.Test.YtbkiekkconlebaaTySI2
import Derived.KernelRfl
set_option linter.all false
set_option linter.all false
set_option maxRecDepth 100000
set_option maxHeartbeats 4000000
namespace Go.VM
open Go Go.Sv

def kmap : List (D × D) := [(.int .i64 1, .int .i64 0), (.int .i64 2, .int .i64 1), (.int .i64 3, .int .i64 2), (.int .i64 4, .int .i64 4)]
theorem kmap_get {G : Type} {k : Int} {H : Hp} {g : Nat × G} : lkH (some (.mp kmap)) (.one .i) (.int .i64 k) (.int .i64 0) false H g = some ⟨.int .i64 (kindOf k), H, g, .none⟩ := by
  have hk : keyOk (.one .i) (.int .i64 k) = true := by simp [keyOk, keyCmp, binD.eq1]
  rw [lkH_mp, hk]
  have : mapGet (.one .i) (.int .i64 k) kmap = some (if k = 1 then some (.int .i64 0) else if k = 2 then some (.int .i64 1) else if k = 3 then some (.int .i64 2) else if k = 4 then some (.int .i64 4) else none) := by
    simp only [kmap, mapGet, keyCmp, binD.eq1, if_true, Option.bind_some, beq_iff_eq]
    split
    · rfl
    · split
      · rfl
      · split
        · rfl
        · split <;> rfl
  rw [this, lkG_one]
  unfold kindOf
  by_cases h1 : k = 1
  · simp [h1]
  by_cases h2 : k = 2
  · simp [h2]
  by_cases h3 : k = 3
  · simp [h3]
  by_cases h4 : k = 4
  · simp [h4]
  · simp [h1, h2, h3, h4]
theorem kmap_get2 {G : Type} {k : Int} {H : Hp} {g : Nat × G} : lkG (keyOk (.one .i) (.int .i64 k)) (mapGet (.one .i) (.int .i64 k) kmap) (.int .i64 0) false H g = some ⟨.int .i64 (kindOf k), H, g, .none⟩ := kmap_get
def CI (t : SlOf Ty) (s : SlOf Ob) (H : Hp) : Prop := H 4 = some (.vars [slD encTy t]) ∧ H 9 = some (.vars [.mp 30]) ∧ H 5 = some (.vars [slD encOb s]) ∧ H 30 = some (.mp kmap)
theorem all_valL (s : List Ob) (v : Va) (w : K → Bool) (l : List TF) : (l.all fun e => valL s v e w) = ((l.all fun f => (look1 s v f.name).isSome) && ((l.flatMap (askLk s v)).map w).all id) := by
  induction l with
  | nil => rfl
  | cons f l ih =>
    rw [List.all_cons, List.all_cons, List.flatMap_cons, List.map_append, List.all_append, ih]
    unfold valL askLk
    cases look1 s v f.name with
    | none => simp
    | some n => simp only [Option.isSome_some, Bool.true_and, List.map_cons, List.map_nil, List.all_cons, List.all_nil, Bool.and_true, id]; ac_rfl
theorem in_rule {t : SlOf Ty} {s : SlOf Ob} {v0 : Va} {B : Nat} (hB : 4096 ≤ B) (hm : MayP t.list) (hS : StoreP s.list) : RuleOk TT 3 24 B 126 70 [.box 4 0, .box 9 0, .box 5 0] (ruleI t.list s.list v0) (CI t s) := by
  refine ⟨rfl, fun H H' ⟨h4, h9, h5, h30⟩ hf => ⟨?_, ?_, ?_, ?_⟩, fun H n s1 k kb hr hd hn hkb0 hkb1 hkb hC hkU h1 h2 => ?_⟩
  · rw [hf 4 (by omega) (by omega) (by omega) (by omega) (by rw [h4]; simp)]; exact h4
  · rw [hf 9 (by omega) (by omega) (by omega) (by omega) (by rw [h9]; simp)]; exact h9
  · rw [hf 5 (by omega) (by omega) (by omega) (by omega) (by rw [h5]; simp)]; exact h5
  · rw [hf 30 (by omega) (by omega) (by omega) (by omega) (by rw [h30]; simp)]; exact h30
  suffices key : ∃ r H' g', (callL TT).shared 70 ([.agg (enc k), .fnS 126 [.box (B + 5) 0, .box (B + 6) 0, .box kb 0]] ++ [.box 4 0, .box 9 0, .box 5 0]) H (n, ()) = some (r, H', g') ∧ (r = .bool ((ruleI t.list s.list v0).res k (((ruleI t.list s.list v0).asks k).map (ans s1.A))) ∧ n ≤ g'.1 ∧ Dom H' g'.1 ∧ Frame B n H H' ∧ ∃ s', Rep 3 B (.fnS 70 [.box 4 0, .box 9 0, .box 5 0]) H' s' ∧ s'.A = askL k ((ruleI t.list s.list v0).asks k) s1.A) by
    obtain ⟨r, H', g', k1, rfl, k2⟩ := key
    exact ⟨H', g', k1, k2⟩
  obtain ⟨v, hv, i, hi, rfl⟩ := mem_keysI.1 (mem_dedup.1 hkU)
  obtain ⟨h4, h9, h5, h30⟩ := hC
  generalize hx : t.list[i] = x
  have hxt : tyAt t.list i = x := by rw [tyAt_get hi, hx]
  have f4096 : roomKeys = 4096 := rfl
  have hfree : ∀ i, H (n + i) = none := fun i => hd _ (by omega)
  have n4 : ∀ i, ((4 : Nat) = n + i) = False := fun i => by simp; omega
  have ia := fun H : Hp => iaD_nat (H := H) (enc := encTy) (sz := 3) hi rfl
  have p3 : ∀ a b c : D, partD true 3 [a, b, c] = some (.agg [a, b, c]) := fun _ _ _ => rfl
  have hasks : (ruleI t.list s.list v0).asks (keyV v (i : Int)) = asks3 t.list s.list v i := rfl
  have hres : ∀ l, (ruleI t.list s.list v0).res (keyV v (i : Int)) l = res3 t.list s.list v i l := fun _ => rfl
  rw [hasks] at h1 h2 ⊢
  rw [hres]
  refine fnS_of (vf := v70) rfl rfl (by rfl) rfl ?_
  unfold v70
  refine Wp.seq (Wp_region ?_)
  simp -implicitDefEqProofs only [vm, vs, pairUp, Nat.reduceEqDiff, Nat.reduceAdd, Nat.reduceLeDiff, reduceIte, encK, hfree, hset_eq, Nat.add_left_cancel_iff, Nat.reduceEqDiff, if_false, List.cons_append, List.nil_append]
  refine Wp.seq (Wp_region ?_)
  simp -implicitDefEqProofs only [vm, vs, pairUp, Nat.reduceEqDiff, Nat.reduceAdd, Nat.reduceLeDiff, reduceIte, hset_eq, Nat.add_left_cancel_iff, Nat.reduceEqDiff, if_false, if_true, n4, h4, ia, hx, encTy, p3, hfree, List.drop_succ_cons, List.drop_zero]
  generalize hH2 : ((((H.set (n + 5) (.vars [.int .i64 v.kind, .int .i64 v.n, .int .i64 (i : Int)])).set (n + 6) (.vars [.fnS 126 [.box (B + 5) 0, .box (B + 6) 0, .box kb 0]])).set (n + 8) (.vars [.int .i64 0, .nilsl, .nilsl])).set (n + 8) (.vars [.int .i64 x.kind, slD encTF x.fields, slD encI x.elems])) = H2
  have hkeep : ∀ m, m < n → H2 m = H m := fun m hm => by
    rw [← hH2]
    repeat rw [Hp.set_other _ _ (by omega)]
  have g5 : H2 (n + 5) = some (.vars (enc (keyV v (i : Int)))) := by rw [← hH2]; simp [hset_eq, encK]
  have g6 : H2 (n + 6) = some (.vars [.fnS 126 [.box (B + 5) 0, .box (B + 6) 0, .box kb 0]]) := by rw [← hH2]; simp [hset_eq]
  have g8 : H2 (n + 8) = some (.vars (encTy x)) := by rw [← hH2]; simp [hset_eq, encTy]
  have q9 : H2 9 = some (.vars [.mp 30]) := by rw [hkeep 9 (by omega)]; exact h9
  have q30 : H2 30 = some (.mp kmap) := by rw [hkeep 30 (by omega)]; exact h30
  have q5 : H2 5 = some (.vars [slD encOb s]) := by rw [hkeep 5 (by omega)]; exact h5
  have hr2 : Rep 3 B (.fnS 70 [.box 4 0, .box 9 0, .box 5 0]) H2 s1 := by
    refine hr.congr (hkeep _ (by omega)) (hkeep _ (by omega)) (hkeep _ (by omega)) (hkeep _ (by omega)) (hkeep _ (by omega)) (fun m a b c hm => hkeep m ?_)
    rcases Nat.lt_or_ge m n with h | h
    · exact h
    · rw [hd m h] at hm; cases hm
  have hd2 : Dom H2 (n + 4096) := by
    rw [← hH2]
    exact (((((hd.mono (Nat.le_add_right n 4096)).set (by omega)).set (by omega)).set (by omega)).set (by omega))
  have hf2 : Frame B n H H2 := fun m hm _ _ _ _ => hkeep m hm
  have hctx : CtxI B (n + 4096) kb (n + 6) (n + 5) v i s H2 := ⟨by rw [hkeep _ hkb1]; exact hkb, g6, g5, q5, by omega, by omega, by omega, by omega⟩
  have hN : B + 4096 ≤ n + 4096 := by omega
  have hdone : ∀ {r : Bool}, asks3 t.list s.list v i = [] → r = res3 t.list s.list v i [] → (D.bool r = .bool (res3 t.list s.list v i ((asks3 t.list s.list v i).map (ans s1.A))) ∧ n ≤ n + 4096 ∧ Dom H2 (n + 4096) ∧ Frame B n H H2 ∧ ∃ s', Rep 3 B (.fnS 70 [.box 4 0, .box 9 0, .box 5 0]) H2 s' ∧ s'.A = askL (keyV v (i : Int)) (asks3 t.list s.list v i) s1.A) := fun {r} h h' => by
    rw [h, h']; exact ⟨rfl, by omega, hd2, hf2, s1, hr2, rfl⟩
  refine Wp.seq (Wp.block (Wp.seq (Wp_region ?_)))
  simp -implicitDefEqProofs only [vm, vs, pairUp, Nat.reduceEqDiff, Nat.reduceAdd, Nat.reduceLeDiff, reduceIte, g8, encTy, List.drop_succ_cons, List.drop_zero]
  by_cases hk0 : x.kind = 0
  · refine Wp.condT (by simp -implicitDefEqProofs only [vm, vs, pairUp, Nat.reduceEqDiff, Nat.reduceAdd, Nat.reduceLeDiff, reduceIte]; simp [hk0]) (Wp.seq (Wp_region ?_))
    simp -implicitDefEqProofs only [vm, vs, pairUp, Nat.reduceEqDiff, Nat.reduceAdd, Nat.reduceLeDiff, reduceIte]
    refine Wp.ret ?_
    simp only [andThen_ret, inBlock_ret, EndsP_ret, rawD_tmp, rawD_nil, consO_some, rawO_some, tupD_one, set_eq, Nat.reduceEqDiff, if_true, if_false]
    refine hdone ?_ ?_
    · unfold asks3; rw [hxt, if_pos hk0]
    · unfold res3; rw [hxt, if_pos hk0]
  refine Wp.condF (by simp -implicitDefEqProofs only [vm, vs, pairUp, Nat.reduceEqDiff, Nat.reduceAdd, Nat.reduceLeDiff, reduceIte]; simp [hk0]) (Wp.seq (Wp_region ?_))
  simp -implicitDefEqProofs only [vm, vs, pairUp, Nat.reduceEqDiff, Nat.reduceAdd, Nat.reduceLeDiff, reduceIte, g8, encTy, List.drop_succ_cons, List.drop_zero]
  by_cases hk5 : x.kind = 5
  · refine Wp.condT (by simp -implicitDefEqProofs only [vm, vs, pairUp, Nat.reduceEqDiff, Nat.reduceAdd, Nat.reduceLeDiff, reduceIte]; simp [hk5]) (Wp.seq (Wp_region ?_))
    have ha : asks3 t.list s.list v i = x.elems.list.flatMap fun e => [keyV v e] := by
      unfold asks3; rw [hxt, if_neg hk0, if_pos hk5, flat_one]
    rw [ha] at h1 h2
    obtain ⟨H', g', c1, c2, c3, c4, s', c5, c6⟩ := all_int (rule := .fnS 70 [.box 4 0, .box 9 0, .box 5 0]) (fun H H' h hf => CtxI.keep h hf) (x := x.elems) (f2 := 71) (caps := [.box (n + 6) 0, .box (n + 5) 0]) (oo := fun e => [keyV v e]) (val := fun e w => !w (keyV v e)) (fun e _ => or_ask hN e) H2 (n + 4096) s1 hctx hr2 hd2 (Nat.le_refl _) h1 h2
    simp -implicitDefEqProofs only [vm, vs, pairUp, Nat.reduceEqDiff, Nat.reduceAdd, Nat.reduceLeDiff, reduceIte, g8, encTy, List.drop_succ_cons, List.drop_zero, sh_TT, shTy, f4096, List.append_nil, c1]
    refine Wp.ret ?_
    simp only [andThen_ret, inBlock_ret, EndsP_ret, rawD_tmp, rawD_nil, consO_some, rawO_some, tupD_one, set_eq, Nat.reduceEqDiff, if_true, if_false]
    refine ⟨?_, by omega, c3, hf2.trans (c4.mono (by omega)), s', c5, by rw [ha]; exact c6⟩
    rw [ha]
    unfold res3
    rw [hxt, if_neg hk0, if_pos hk5, flat_one, List.map_map, List.any_map, List.any_eq_not_all_not]
    rfl
  refine Wp.condF (by simp -implicitDefEqProofs only [vm, vs, pairUp, Nat.reduceEqDiff, Nat.reduceAdd, Nat.reduceLeDiff, reduceIte]; simp [hk5]) (Wp.seq (Wp_region ?_))
  simp -implicitDefEqProofs only [vm, vs, pairUp, Nat.reduceEqDiff, Nat.reduceAdd, Nat.reduceLeDiff, reduceIte, g8, g5, encK, q9, q30, kmap_get2, encTy, List.drop_succ_cons, List.drop_zero]
  by_cases hne : kindOf x.kind ≠ v.kind
  · refine Wp.condT (by simp -implicitDefEqProofs only [vm, vs, pairUp, Nat.reduceEqDiff, Nat.reduceAdd, Nat.reduceLeDiff, reduceIte]; simp [hne]) (Wp.seq (Wp_region ?_))
    simp -implicitDefEqProofs only [vm, vs, pairUp, Nat.reduceEqDiff, Nat.reduceAdd, Nat.reduceLeDiff, reduceIte]
    refine Wp.ret ?_
    simp only [andThen_ret, inBlock_ret, EndsP_ret, rawD_tmp, rawD_nil, consO_some, rawO_some, tupD_one, set_eq, Nat.reduceEqDiff, if_true, if_false]
    refine hdone ?_ ?_
    · unfold asks3; rw [hxt, if_neg hk0, if_neg hk5, if_pos hne]
    · unfold res3; rw [hxt, if_neg hk0, if_neg hk5, if_pos hne]
  refine Wp.condF (by simp -implicitDefEqProofs only [vm, vs, pairUp, Nat.reduceEqDiff, Nat.reduceAdd, Nat.reduceLeDiff, reduceIte]; simp at hne; simp [hne]) (Wp.skip ?_)
  simp -implicitDefEqProofs only [vm, vs, pairUp, Nat.reduceEqDiff, Nat.reduceAdd, Nat.reduceLeDiff, reduceIte]
  have ha : asks3 t.list s.list v i = x.fields.list.flatMap (askLk s.list v) := by
    unfold asks3; rw [hxt, if_neg hk0, if_neg hk5, if_neg hne]
  rw [ha] at h1 h2
  obtain ⟨H', g', c1, c2, c3, c4, s', c5, c6⟩ := all_field (rule := .fnS 70 [.box 4 0, .box 9 0, .box 5 0]) hN (fun H H' h hf => CtxI.keep h hf) (x := x.fields) (f2 := 72) (caps := [.box 5 0, .box (n + 5) 0, .box (n + 6) 0]) (oo := askLk s.list v) (val := valL s.list v) (fun e _ => prop_ask hS hN e) H2 (n + 4096) s1 hctx hr2 hd2 (Nat.le_refl _) h1 h2
  refine Wp.seq (Wp_region ?_)
  simp -implicitDefEqProofs only [vm, vs, pairUp, Nat.reduceEqDiff, Nat.reduceAdd, Nat.reduceLeDiff, reduceIte, g8, encTy, List.drop_succ_cons, List.drop_zero, sh_TT, shTy, f4096, List.append_nil, c1]
  refine Wp.ret ?_
  simp only [andThen_ret, inBlock_ret, EndsP_ret, rawD_tmp, rawD_nil, consO_some, rawO_some, tupD_one, set_eq, Nat.reduceEqDiff, if_true, if_false]
  refine ⟨?_, by omega, c3, hf2.trans (c4.mono (by omega)), s', c5, by rw [ha]; exact c6⟩
  rw [ha]
  unfold res3
  rw [hxt, if_neg hk0, if_neg hk5, if_neg hne, all_valL]
end Go.VM
