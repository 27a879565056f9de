/-
  TypesSound: the plain law.
-/
import Derived.Test.YtbkiekkconlebaaTyTells
import Derived.Test.YtbkiekkconlebaaTySI4
import Derived.Test.YtbkiekkconlebaaChecked
set_option linter.all false
set_option linter.all false
set_option maxRecDepth 100000
set_option maxHeartbeats 4000000
namespace Go.VM
open Go Go.Proofs Go.Sv

variable {t : List Ty} {s : List Ob} {v0 v w : Va} {S : K → Bool} {a b x : Int}
theorem holds3_any (h : (tyAt t x).kind = 0) : res3 t s v x ((asks3 t s v x).map S) = true := by simp only [res3, if_pos h]
theorem holds3_or (h0 : (tyAt t x).kind ≠ 0) (h : (tyAt t x).kind = 5) : res3 t s v x ((asks3 t s v x).map S) = true ↔ ∃ e ∈ (tyAt t x).elems.list, S (keyV v e) = true := by
  simp only [res3, asks3, if_neg h0, if_pos h, List.map_map, List.any_map, List.any_eq_true]
  exact Iff.rfl
theorem holds3_plain (h0 : (tyAt t x).kind ≠ 0) (h5 : (tyAt t x).kind ≠ 5) : res3 t s v x ((asks3 t s v x).map S) = true ↔ kindOf (tyAt t x).kind = v.kind ∧ ∀ f ∈ (tyAt t x).fields.list, ∃ w, look1 s v f.name = some w ∧ S (keyV w f.type) = true := by
  by_cases hk : kindOf (tyAt t x).kind = v.kind
  · have e1 : asks3 t s v x = (tyAt t x).fields.list.flatMap (askLk s v) := by simp only [asks3, if_neg h0, if_neg h5, if_neg (fun h : kindOf (tyAt t x).kind ≠ v.kind => h hk)]
    have e2 : ∀ l, res3 t s v x l = (((tyAt t x).fields.list.all fun f => (look1 s v f.name).isSome) && l.all id) := fun l => by simp only [res3, if_neg h0, if_neg h5, if_neg (fun h : kindOf (tyAt t x).kind ≠ v.kind => h hk)]
    rw [e1, e2, ← all_valL, List.all_eq_true]
    constructor
    · intro h
      refine ⟨hk, fun f hf => ?_⟩
      have h1 := h f hf
      unfold valL at h1
      cases hl : look1 s v f.name with
      | none => rw [hl] at h1; cases h1
      | some w => rw [hl] at h1; exact ⟨w, rfl, h1⟩
    · rintro ⟨_, h⟩ f hf
      obtain ⟨w, h1, h2⟩ := h f hf
      unfold valL
      rw [h1]; exact h2
  · have e2 : res3 t s v x ((asks3 t s v x).map S) = false := by simp only [res3, if_neg h0, if_neg h5, if_pos hk]
    rw [e2]
    simp [hk]
theorem GI_of {X : Va → Int → Prop} (hX : ∀ w y, X w y → keyV w y ∈ dedup (keysI t s v0) ∧ ∀ S : K → Bool, (∀ w y, X w y → S (keyV w y) = true) → res3 t s w y ((asks3 t s w y).map S) = true) (h : X v a) : (ruleI t s v0).G (keyV v a) := by
  classical
  refine ⟨fun q => match q with | [k, n, y] => dec (X ⟨k, n⟩ y) | _ => false, fun q hq => ?_, dec_true h⟩
  match q, hq with
  | [k, n, y], hq =>
    obtain ⟨h1, h3⟩ := hX ⟨k, n⟩ y (dec_iff.1 hq)
    exact ⟨h1, h3 _ fun w y hxy => dec_true hxy⟩
theorem GI_holds (hok : (ruleI t s v0).Ok) (h : (ruleI t s v0).G (keyV v a)) (hS : ∀ w y, (ruleI t s v0).G (keyV w y) → S (keyV w y) = true) : res3 t s v a ((asks3 t s v a).map S) = true := by
  obtain ⟨X, hX, hab⟩ := h
  obtain ⟨hU, h1⟩ := hX _ hab
  refine hok.mono _ hU (fun o => X o && decide (o ∈ (ruleI t s v0).U)) S (fun o ho => ?_) (Eq.trans (congrArg _ (List.map_congr_left fun o ho => ?_)) h1)
  · simp only [Bool.and_eq_true, decide_eq_true_eq] at ho
    obtain ⟨w, _, i, _, rfl⟩ := mem_keysI.1 (mem_dedup.1 ho.2)
    exact hS _ _ ⟨X, hX, ho.1⟩
  · simp [hok.closed _ hU o ho]
theorem GI_in (h : (ruleI t s v0).G (keyV v a)) : v ∈ vals s v0 ∧ InT t a := by
  obtain ⟨X, hX, hab⟩ := h
  obtain ⟨w, hw, i, hi, he⟩ := mem_keysI.1 (mem_dedup.1 (hX _ hab).1)
  simp only [keyV, List.cons.injEq, and_true] at he
  obtain ⟨e1, e2, rfl⟩ := he
  have : v = w := by cases v; cases w; simp_all
  exact ⟨this ▸ hw, ⟨by omega, by omega⟩⟩
theorem midI (hok : (ruleI t s v0).Ok) (hokT : (ruleT t).Ok) (hm : MayP t) : ∀ (n : Nat) (a : Int), a.toNat < n → (ruleI t s v0).G (keyV v a) → (ruleT t).G [a, b] → ∃ a', (tyAt t a').kind ≠ 5 ∧ (ruleI t s v0).G (keyV v a') ∧ (ruleT t).G [a', b]
  | 0, a, h, _, _ => absurd h (by omega)
  | n + 1, a, hn, h1, h2 => by
    by_cases h5 : (tyAt t a).kind = 5
    · have k1 := GI_holds hok h1 (S := fun q => dec ((ruleI t s v0).G q)) fun _ _ h => dec_true h
      have k2 := G_holds hokT h2 (S := fun q => dec ((ruleT t).G q)) fun _ _ h => dec_true h
      rw [holds3_or (by rw [h5]; decide) h5] at k1
      rw [holds2_five h5] at k2
      obtain ⟨e, he, hae⟩ := k1
      have hin := elem_in hm (GI_in h1).2 he
      exact midI hok hokT hm n e (by have := hin.1.1; omega) (dec_iff.1 hae) (dec_iff.1 (k2 e he))
    · exact ⟨a, h5, h1, h2⟩
theorem GI_sub (hok : (ruleI t s v0).Ok) (hokT : (ruleT t).Ok) (hm : MayP t) (hS : StoreP s) (h1 : (ruleI t s v0).G (keyV v a)) (h2 : (ruleT t).G [a, b]) : (ruleI t s v0).G (keyV v b) := by
  refine GI_of (X := fun w y => ∃ a, (ruleI t s v0).G (keyV w a) ∧ (ruleT t).G [a, y]) (fun w y ⟨a, k1, k2⟩ => ⟨?_, fun S hS' => ?_⟩) ⟨a, h1, h2⟩
  · have hy := (G_in k2).2
    exact mem_dedup.2 (mem_keysI.2 ⟨w, (GI_in k1).1, y.toNat, by have := hy.1; have := hy.2; omega, by rw [Int.toNat_of_nonneg hy.1]⟩)
  obtain ⟨a, ha5, k1, k2⟩ := midI hok hokT hm (a.toNat + 1) a (Nat.lt_succ_self _) k1 k2
  have k3 := GI_holds hok k1 (S := fun q => dec ((ruleI t s v0).G q)) fun _ _ h => dec_true h
  have k4 := G_holds hokT k2 (S := fun q => dec ((ruleT t).G q)) fun _ _ h => dec_true h
  by_cases h0 : (tyAt t y).kind = 0
  · exact holds3_any h0
  by_cases h5 : (tyAt t y).kind = 5
  · rw [holds3_or h0 h5]
    rw [holds2_right ha5 h5] at k4
    obtain ⟨e, he, h⟩ := k4
    exact ⟨e, he, hS' _ _ ⟨a, k1, dec_iff.1 h⟩⟩
  rw [holds2_plain ha5 h5 h0] at k4
  rw [holds3_plain (by rw [k4.1]; exact h0) ha5] at k3
  rw [holds3_plain h0 h5]
  refine ⟨by rw [← k4.1]; exact k3.1, fun f hf => ?_⟩
  obtain ⟨m, hm1, hm2⟩ := k4.2 f hf
  have : ∃ f' ∈ (tyAt t a).fields.list, f'.name = f.name ∧ f'.type = m := by
    unfold fieldGet at hm1
    cases hf1 : (tyAt t a).fields.list.find? fun g => dec (g.name = f.name) with
    | none => rw [hf1] at hm1; cases hm1
    | some f' =>
      rw [hf1] at hm1
      exact ⟨f', List.mem_of_find?_eq_some hf1, dec_iff.1 (List.find?_some (p := fun g : TF => dec (g.name = f.name)) hf1), by simpa using hm1⟩
  obtain ⟨f', hf', hn, rfl⟩ := this
  obtain ⟨u, hu1, hu2⟩ := k3.2 f' hf'
  exact ⟨u, by rw [← hn]; exact hu1, hS' _ _ ⟨f'.type, dec_iff.1 hu2, dec_iff.1 hm2⟩⟩
theorem in_sub (hs : FewP t) (h1 : InP t s v a) (h2 : SubP t a b) : InP t s v b :=
  ⟨h1.1, h1.2.1, h1.2.2.1, h2.2.2.1, GI_sub (ruleI_ok h1.1 hs h1.2.1) (ruleT_ok h1.1 hs) h1.1 h1.2.1 h1.2.2.2.2 h2.2.2.2⟩

/-! ### The walk -/
theorem is5_vf : vfuncOf Try.prog (annL []) Try.f5 = some v5 := by
  obtain ⟨fn, h1, _, h3⟩ := is5
  have : fn = Try.f5 := by
    have := Try.func5
    rw [this] at h1
    exact (Option.some.inj h1).symm
  rw [← this]; exact h3
structure ToV where
  v : Va
  a : Int
  b : Int
def encTo (x : ToV) : List D := [.int .i64 x.v.kind, .int .i64 x.v.n, .int .i64 x.a, .int .i64 x.b]
theorem va_opens : Opens Try.prog 30 Va encVa := Opens.iso (opens_two (n0 := 1) (n1 := 1) Try.underlying30 rfl rfl rfl (by kernel_rfl) (by kernel_rfl) (by kernel_rfl) (opens_i Try.underlying3) (opens_i Try.underlying3)) (fun p => ⟨p.1, p.2⟩) fun _ => rfl
theorem pr_opens : Opens Try.prog 93 Pr encPr := Opens.iso (opens_two (n0 := 1) (n1 := 2) Try.underlying93 rfl rfl rfl (by kernel_rfl) (by kernel_rfl) (by kernel_rfl) (opens_s Try.underlying9) va_opens) (fun p => ⟨p.1, p.2⟩) fun _ => rfl
theorem ob_opens : Opens Try.prog 95 Ob encOb := Opens.iso (opens_two (n0 := 1) (n1 := 2) Try.underlying95 rfl rfl rfl (by kernel_rfl) (by kernel_rfl) (by kernel_rfl) (opens_sl (n := 3) Try.underlying40 pr_opens (by kernel_rfl) (fun _ => rfl) (by omega)) va_opens) (fun p => ⟨p.1, p.2⟩) fun _ => rfl
theorem store_opens : Opens Try.prog 28 (SlOf Ob) (fun x => [slD encOb x]) := opens_sl (n := 3) Try.underlying28 ob_opens (by kernel_rfl) (fun _ => rfl) (by omega)
theorem to_opens : Opens Try.prog 32 ToV encTo := Opens.iso (opens_three (n0 := 2) (n1 := 1) (n2 := 1) Try.underlying32 rfl rfl rfl rfl (by kernel_rfl) (by kernel_rfl) (by kernel_rfl) (by kernel_rfl) va_opens (opens_i Try.underlying3) (opens_i Try.underlying3)) (fun p => ⟨p.1, p.2.1, p.2.2⟩) fun _ => rfl
theorem TypesSound_pure (t : SlOf Ty) (s : SlOf Ob) (x : ToV) : bodyD (callL TT) lpL v5 [slD encTy t, slD encOb s, .agg (encTo x)] () = some (.bool true, ()) := by
  have p2 : ∀ a b c d : D, partD true 2 [a, b, c, d] = some (.agg [a, b]) := fun _ _ _ _ => rfl
  refine law_of (by simp -implicitDefEqProofs only [vm, vs, pairUp, Nat.reduceEqDiff, Nat.reduceAdd, Nat.reduceLeDiff, reduceIte, encTo]) rfl rfl ?_
  unfold v5
  refine Wp.seq (Wp_region ?_)
  simp -implicitDefEqProofs only [vm, vs, pairUp, Nat.reduceEqDiff, Nat.reduceAdd, Nat.reduceLeDiff, reduceIte, encTo]
  cases x0 : dec (SmallP t.list)
  · refine Wp.seq (Wp.seq (Wp_region ?_))
    simp -implicitDefEqProofs only [vm, vs, pairUp, Nat.reduceEqDiff, Nat.reduceAdd, Nat.reduceLeDiff, reduceIte, sh_TT, shTy, fixed_u, small_c, smallS_c, storeMayR_c, x0]
    refine Wp.condT rfl (Wp.seq (Wp_region ?_))
    simp -implicitDefEqProofs only [vm, vs, pairUp, Nat.reduceEqDiff, Nat.reduceAdd, Nat.reduceLeDiff, reduceIte, sh_TT, shTy, fixed_u]
    refine Wp.ret ?_
    simp -implicitDefEqProofs only [vm, vs, pairUp, Nat.reduceEqDiff, Nat.reduceAdd, Nat.reduceLeDiff, reduceIte]
  cases x1 : dec (SmallS s.list)
  · refine Wp.seq (Wp.seq (Wp_region ?_))
    simp -implicitDefEqProofs only [vm, vs, pairUp, Nat.reduceEqDiff, Nat.reduceAdd, Nat.reduceLeDiff, reduceIte, sh_TT, shTy, fixed_u, small_c, smallS_c, storeMayR_c, x0, x1]
    refine Wp.condT rfl (Wp.seq (Wp_region ?_))
    simp -implicitDefEqProofs only [vm, vs, pairUp, Nat.reduceEqDiff, Nat.reduceAdd, Nat.reduceLeDiff, reduceIte, sh_TT, shTy, fixed_u]
    refine Wp.ret ?_
    simp -implicitDefEqProofs only [vm, vs, pairUp, Nat.reduceEqDiff, Nat.reduceAdd, Nat.reduceLeDiff, reduceIte]
  cases x2 : dec (StoreP s.list)
  · refine Wp.seq (Wp.seq (Wp_region ?_))
    simp -implicitDefEqProofs only [vm, vs, pairUp, Nat.reduceEqDiff, Nat.reduceAdd, Nat.reduceLeDiff, reduceIte, sh_TT, shTy, fixed_u, small_c, smallS_c, storeMayR_c, x0, x1, x2]
    refine Wp.condT rfl (Wp.seq (Wp_region ?_))
    simp -implicitDefEqProofs only [vm, vs, pairUp, Nat.reduceEqDiff, Nat.reduceAdd, Nat.reduceLeDiff, reduceIte, sh_TT, shTy, fixed_u]
    refine Wp.ret ?_
    simp -implicitDefEqProofs only [vm, vs, pairUp, Nat.reduceEqDiff, Nat.reduceAdd, Nat.reduceLeDiff, reduceIte]
  have hs : FewP t.list := (dec_iff.1 x0).1
  have hsm := dec_iff.1 x1
  have hic : ∀ a u, (callL TT).pure 23 [slD encTy t, slD encOb s, .agg [.int .i64 x.v.kind, .int .i64 x.v.n], .int .i64 a] u = some (.bool (dec (InP t.list s.list x.v a)), u) := fun a u => in_c t s hs hsm x.v a u
  refine Wp.seq (Wp.seq (Wp_region ?_))
  simp -implicitDefEqProofs only [vm, vs, pairUp, Nat.reduceEqDiff, Nat.reduceAdd, Nat.reduceLeDiff, reduceIte, sh_TT, shTy, fixed_u, small_c, smallS_c, storeMayR_c, x0, x1, x2]
  refine Wp.condF rfl (Wp.skip ?_)
  simp -implicitDefEqProofs only [vm, vs, pairUp, Nat.reduceEqDiff, Nat.reduceAdd, Nat.reduceLeDiff, reduceIte]
  cases y1 : dec (InP t.list s.list x.v x.a)
  · refine Wp.seq (Wp_region ?_)
    simp -implicitDefEqProofs only [vm, vs, pairUp, Nat.reduceEqDiff, Nat.reduceAdd, Nat.reduceLeDiff, reduceIte, hset_eq, if_true, List.drop_zero, List.drop_succ_cons, p2, sh_TT, shTy, hic, sub_c t hs, y1]
    refine Wp.ret ?_
    simp -implicitDefEqProofs only [vm, vs, pairUp, Nat.reduceEqDiff, Nat.reduceAdd, Nat.reduceLeDiff, reduceIte]
  cases y2 : dec (SubP t.list x.a x.b)
  · refine Wp.seq (Wp_region ?_)
    simp -implicitDefEqProofs only [vm, vs, pairUp, Nat.reduceEqDiff, Nat.reduceAdd, Nat.reduceLeDiff, reduceIte, hset_eq, if_true, List.drop_zero, List.drop_succ_cons, p2, sh_TT, shTy, hic, sub_c t hs, y1, y2]
    refine Wp.ret ?_
    simp -implicitDefEqProofs only [vm, vs, pairUp, Nat.reduceEqDiff, Nat.reduceAdd, Nat.reduceLeDiff, reduceIte]
  have y3 := dec_true (in_sub hs (dec_iff.1 y1) (dec_iff.1 y2))
  · refine Wp.seq (Wp_region ?_)
    simp -implicitDefEqProofs only [vm, vs, pairUp, Nat.reduceEqDiff, Nat.reduceAdd, Nat.reduceLeDiff, reduceIte, hset_eq, if_true, List.drop_zero, List.drop_succ_cons, p2, sh_TT, shTy, hic, sub_c t hs, y1, y2, y3]
    refine Wp.ret ?_
    simp -implicitDefEqProofs only [vm, vs, pairUp, Nat.reduceEqDiff, Nat.reduceAdd, Nat.reduceLeDiff, reduceIte]
end Go.VM
