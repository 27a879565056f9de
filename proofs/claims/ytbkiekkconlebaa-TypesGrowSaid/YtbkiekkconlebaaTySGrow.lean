/-
  TypesGrow: the plain law.
-/
import Derived.Test.YtbkiekkconlebaaTyTells
import Derived.Test.YtbkiekkconlebaaTyS8
set_option linter.all false
set_option linter.all false
set_option maxRecDepth 100000
set_option maxHeartbeats 4000000
namespace Go.VM
open Go Go.Proofs Go.Sv
theorem is6_vf : vfuncOf Try.prog (annL []) Try.f6 = some v6 := by
  obtain ⟨fn, h1, _, h3⟩ := is6
  have : fn = Try.f6 := by
    have := Try.func6
    rw [this] at h1
    exact (Option.some.inj h1).symm
  rw [← this]; exact h3

/-! ### The plain part -/
def tyAny : Ty := ⟨0, .nil, .nil⟩
def tyNull : Ty := ⟨1, .nil, .nil⟩
def more (t : List Ty) : List Ty := t ++ [tyAny, tyNull]
variable {t : List Ty} {a b : Int}
theorem more_len : (more t).length = t.length + 2 := by simp [more]
theorem more_old {i : Int} (h : InT t i) : tyAt (more t) i = tyAt t i := by
  have h1 : i.toNat < t.length := by have := h.1; have := h.2; omega
  unfold tyAt more
  rw [List.getElem?_append_left h1]
theorem more_any : tyAt (more t) t.length = tyAny := by simp [tyAt, more]
theorem more_null : tyAt (more t) (t.length + 1 : Int) = tyNull := by
  have : ((t.length : Int) + 1).toNat = t.length + 1 := by omega
  unfold tyAt more
  rw [this, List.getElem?_append_right (by omega)]
  simp
theorem more_in {i : Int} (h : InT t i) : InT (more t) i := ⟨h.1, by rw [more_len]; have := h.2; omega⟩
theorem more_may (hm : MayP t) (h14 : t.length ≤ 14) : MayP (more t) := by
  refine ⟨fun i hi => ?_, by rw [more_len]; omega⟩
  rw [more_len] at hi ⊢
  have hc : ∀ x : Ty, OkKind x → x.fields.list = [] → x.elems.list = [] → OkTy (t.length + 2) i x := fun x h1 h2 h3 => ⟨h1, fun k hk => by rw [h2] at hk; simp at hk, fun e he => by rw [h3] at he; simp at he⟩
  by_cases h : i < t.length
  · have h1 := hm.1 i h
    have h2 : (more t)[i] = t[i] := by simp [more, h]
    rw [h2]
    exact ⟨h1.1, fun k hk => ⟨(h1.2.1 k hk).1, by have := (h1.2.1 k hk).2.1; omega, (h1.2.1 k hk).2.2⟩, h1.2.2⟩
  · by_cases h' : i = t.length
    · subst h'
      have h2 : (more t)[t.length] = tyAny := by simp [more]
      rw [h2]
      exact hc _ (by simp [OkKind, tyAny, tyNull, SlOf.list]) rfl rfl
    · have : i = t.length + 1 := by omega
      subst this
      have h2 : (more t)[t.length + 1] = tyNull := by simp [more]
      rw [h2]
      exact hc _ (by simp [OkKind, tyAny, tyNull, SlOf.list]) rfl rfl
theorem more_few (hs : FewP t) : FewP (more t) := by
  intro i hi
  rw [more_len] at hi
  by_cases h : i < t.length
  · have h2 : (more t)[i] = t[i] := by simp [more, h]
    rw [h2]; exact hs i h
  · by_cases h' : i = t.length
    · subst h'
      have h2 : (more t)[t.length] = tyAny := by simp [more]
      rw [h2]; exact ⟨by decide, by decide⟩
    · have : i = t.length + 1 := by omega
      subst this
      have h2 : (more t)[t.length + 1] = tyNull := by simp [more]
      rw [h2]; exact ⟨by decide, by decide⟩
theorem more_rule (ha : InT t a) (hb : InT t b) : asks2 (more t) a b = asks2 t a b ∧ ∀ l, res2 (more t) a b l = res2 t a b l := by
  unfold asks2 res2
  rw [more_old ha, more_old hb]
  exact ⟨rfl, fun _ => rfl⟩
theorem grow_old (hs : FewP t) (hm : MayP t) (h14 : t.length ≤ 14) (ha : InT t a) (hb : InT t b) : SubP (more t) a b ↔ SubP t a b := by
  classical
  have hok := ruleT_ok hm hs
  have hok' := ruleT_ok (more_may hm h14) (more_few hs)
  constructor
  · rintro ⟨_, _, _, h⟩
    refine ⟨hm, ha, hb, G_of (X := fun x y => InT t x ∧ InT t y ∧ (ruleT (more t)).G [x, y]) (fun x y ⟨hx, hy, hxy⟩ => ⟨hx, hy, fun S hS => ?_⟩) ⟨ha, hb, h⟩⟩
    have h1 := G_holds hok' hxy (S := fun q => dec ((ruleT (more t)).G q)) fun _ _ h => dec_true h
    obtain ⟨e1, e2⟩ := more_rule hx hy
    rw [e1, e2] at h1
    refine hok.mono [x, y] (mem_pair hx hy) (fun q => dec ((ruleT (more t)).G q) && decide (q ∈ (ruleT t).U)) S (fun o ho => ?_) (Eq.trans (congrArg _ (List.map_congr_left fun o ho => ?_)) h1)
    · simp only [Bool.and_eq_true, decide_eq_true_eq] at ho
      obtain ⟨i, j, hi, hj, rfl⟩ := mem_pairsT.1 ho.2
      exact hS _ _ ⟨⟨by omega, by omega⟩, ⟨by omega, by omega⟩, dec_iff.1 ho.1⟩
    · simp [hok.closed _ (mem_pair hx hy) o ho]
  · rintro ⟨_, _, _, h⟩
    refine ⟨more_may hm h14, more_in ha, more_in hb, G_of (X := fun x y => (ruleT t).G [x, y]) (fun x y hxy => ?_) h⟩
    obtain ⟨hx, hy⟩ := G_in hxy
    refine ⟨more_in hx, more_in hy, fun S hS => ?_⟩
    obtain ⟨e1, e2⟩ := more_rule hx hy
    rw [e1, e2]
    exact G_holds hok hxy hS
theorem n_in : InT (more t) t.length := ⟨by omega, by rw [more_len]; omega⟩
theorem n1_in : InT (more t) (t.length + 1 : Int) := ⟨by omega, by rw [more_len]; omega⟩
theorem grow_any (hs : FewP t) (hm : MayP t) (h14 : t.length ≤ 14) (ha : InT t a) : SubP (more t) a t.length := by
  refine ⟨more_may hm h14, more_in ha, n_in, G_of (X := fun x y => InT (more t) x ∧ y = t.length) (fun x y ⟨hx, hy⟩ => ⟨hx, by rw [hy]; exact n_in, fun S hS => ?_⟩) ⟨more_in ha, rfl⟩⟩
  subst hy
  by_cases h5 : (tyAt (more t) x).kind = 5
  · rw [holds2_five h5]
    intro e he
    exact hS _ _ ⟨(elem_in (more_may hm h14) hx he).1, rfl⟩
  · exact holds2_any h5 (by rw [more_any]; rfl)
theorem grow_not (hs : FewP t) (hm : MayP t) (h14 : t.length ≤ 14) : ¬ SubP (more t) t.length (t.length + 1 : Int) := by
  rintro ⟨_, _, _, h⟩
  have h1 := G_holds (ruleT_ok (more_may hm h14) (more_few hs)) h (S := fun _ => true) fun _ _ _ => rfl
  rw [holds2_plain (by rw [more_any]; decide) (by rw [more_null]; decide) (by rw [more_null]; decide), more_any, more_null] at h1
  exact absurd h1.1 (by decide)
theorem grow_null (hs : FewP t) (hm : MayP t) (h14 : t.length ≤ 14) (ha : InT t a) (h5 : (tyAt t a).kind ≠ 5) : SubP (more t) a (t.length + 1 : Int) ↔ (tyAt t a).kind = 1 := by
  have h5' : (tyAt (more t) a).kind ≠ 5 := by rw [more_old ha]; exact h5
  have hp : ∀ S : K → Bool, res2 (more t) a (t.length + 1 : Int) ((asks2 (more t) a (t.length + 1 : Int)).map S) = true ↔ (tyAt t a).kind = 1 := fun S => by
    rw [holds2_plain h5' (by rw [more_null]; decide) (by rw [more_null]; decide), more_null, more_old ha]
    exact ⟨fun h => h.1, fun h => ⟨h, fun f hf => by simp [tyNull, SlOf.list] at hf⟩⟩
  constructor
  · rintro ⟨_, _, _, h⟩
    exact (hp _).1 (G_holds (ruleT_ok (more_may hm h14) (more_few hs)) h (S := fun _ => true) fun _ _ _ => rfl)
  · intro h
    exact ⟨more_may hm h14, more_in ha, n1_in, G_of (X := fun x y => x = a ∧ y = (t.length + 1 : Int)) (fun x y ⟨hx, hy⟩ => by subst hx; subst hy; exact ⟨more_in ha, n1_in, fun S _ => (hp S).2 h⟩) ⟨rfl, rfl⟩⟩

/-! ### The walk -/
section
variable {G : Type} {pc : Pc G} {dst : Option Nat} {e : Env} {H : Hp} {g : Nat × G}
def bs2O (x y : Option D) (H : Hp) (g : Nat × G) : Option (Res G) := match x, y with
  | some (.agg [.int .i64 0, .nilsl, .nilsl]), some (.agg [.int .i64 1, .nilsl, .nilsl]) => some ⟨.sl true [[.int .i64 0, .nilsl, .nilsl], [.int .i64 1, .nilsl, .nilsl]], H, g, .none⟩
  | _, _ => none
theorem act_bslice2 {x y : Opd} (hx : x.ev e = some (.agg [.int .i64 0, .nilsl, .nilsl])) (hy : y.ev e = some (.agg [.int .i64 1, .nilsl, .nilsl])) : act pc dst (.bslice [.int .i64 0, .nilsl, .nilsl] 2 [(0, x), (1, y)]) e H g = some ⟨.sl true [[.int .i64 0, .nilsl, .nilsl], [.int .i64 1, .nilsl, .nilsl]], H, g, .none⟩ := by
  simp only [act, List.map_cons, List.map_nil, Opd.evL, hx, hy, Option.bind_some]
  rfl
theorem ap_lits {sz by_ k : Nat} {b : Bool} {ys : List (List D)} (hk : H k = none) (h0 : ys ≠ []) (hy : ∀ c ∈ ys, c.length = sz ∧ c.map D.norm = c) (hb : by_ * ys.length ≤ roomBytes) : apO (some k) sz by_ (some (.sl true [])) (some (.sl b ys)) H g = some ⟨.arr k 0 ys.length, H.set k (.arr sz 0 ys), g, .new⟩ := by
  have e1 : ys.map (fun c => c.map D.norm) = ys := Eq.trans (List.map_congr_left (g := id) fun c hc => (hy c hc).2) (by simp)
  have e2 : (ys.all fun c => decide (c.length = sz)) = true := List.all_eq_true.2 fun c hc => by simpa using (hy c hc).1
  have e3 : ys.isEmpty = false := by cases ys <;> simp_all
  have h2 : ¬ by_ * ys.length > roomBytes := by omega
  simp only [apO, act, Opd.ev, elems, e1, e2, e3, hdef, hk, h2, if_true, Nat.reduceEqDiff, if_false, Option.bind_some, List.length_nil, List.map_nil, List.nil_append, Nat.zero_add, Bool.false_eq_true, Option.isSome_none, Bool.false_or, decide_false, decide_eq_true_eq, List.all_nil]
theorem ap_arrs {sz by_ k q n : Nat} {b : Bool} {es ys : List (List D)} (hk : H k = some (.arr sz q es)) (hn : n = es.length) (h0 : ys ≠ []) (hy : ∀ c ∈ ys, c.length = sz ∧ c.map D.norm = c) (hb : by_ * (n + ys.length) ≤ roomBytes) : apO dst sz by_ (some (.arr k q n)) (some (.sl b ys)) H g = some ⟨.arr k (q + 1) (n + ys.length), H.set k (.arr sz (q + 1) (es ++ ys)), g, .write⟩ := by
  subst hn
  have e1 : ys.map (fun c => c.map D.norm) = ys := Eq.trans (List.map_congr_left (g := id) fun c hc => (hy c hc).2) (by simp)
  have e2 : (ys.all fun c => decide (c.length = sz)) = true := List.all_eq_true.2 fun c hc => by simpa using (hy c hc).1
  have e3 : ys.isEmpty = false := by cases ys <;> simp_all
  have h2 : ¬ by_ * (es.length + ys.length) > roomBytes := by omega
  simp only [apO, act, Opd.ev, elems, hk, e1, e2, e3, h2, if_true, Nat.reduceEqDiff, if_false, Option.bind_some, Bool.false_eq_true, and_self, Nat.le_refl, List.take_length, not_false_eq_true]
end
theorem encTy_ok (x : Ty) : (encTy x).length = 3 ∧ (encTy x).map D.norm = encTy x := by
  constructor
  · rfl
  · simp only [encTy, vm, vs, pairUp, Nat.reduceEqDiff, Nat.reduceAdd, Nat.reduceLeDiff, reduceIte]
theorem frz_tab {H : Hp} {k q n : Nat} {l : List Ty} (h : H k = some (.arr 3 q (l.map encTy))) (hn : n = l.length) : frz H (.arr k q n) = some (.sl false (l.map encTy), H.set k (.farr 3 q (l.map encTy))) := by
  subst hn
  have h1 : (l.map encTy).all (fun c => c.all D.plain1) = true := by
    rw [List.all_eq_true]
    intro c hc
    obtain ⟨x, _, rfl⟩ := List.mem_map.1 hc
    simp only [encTy, vm, vs, pairUp, Nat.reduceEqDiff, Nat.reduceAdd, Nat.reduceLeDiff, reduceIte]
  have h2 : (l.map encTy).take l.length = l.map encTy := List.take_of_length_le (by simp)
  simp only [frz, frz1, h, List.length_map, h1, if_true, h2]
  rw [if_pos ⟨trivial, Nat.le_refl _⟩]
theorem TypesGrow_pure (t : SlOf Ty) (a b : Int) : bodyD (callL TT) lpL v6 [slD encTy t, .int .i64 a, .int .i64 b] () = some (.bool true, ()) := by
  refine law_of (by simp -implicitDefEqProofs only [vm, vs, pairUp, Nat.reduceEqDiff, Nat.reduceAdd, Nat.reduceLeDiff, reduceIte]) rfl rfl ?_
  unfold v6
  refine Wp.seq (Wp_region ?_)
  simp -implicitDefEqProofs only [vm, vs, pairUp, Nat.reduceEqDiff, Nat.reduceAdd, Nat.reduceLeDiff, reduceIte]
  refine Wp.seq (Wp_region ?_)
  simp -implicitDefEqProofs only [vm, vs, pairUp, Nat.reduceEqDiff, Nat.reduceAdd, Nat.reduceLeDiff, reduceIte]
  cases x0 : dec (SmallP t.list)
  · refine Wp.seq (Wp.seq (Wp_region ?_))
    simp -implicitDefEqProofs only [vm, vs, pairUp, Nat.reduceEqDiff, Nat.reduceAdd, Nat.reduceLeDiff, reduceIte, sh_TT, shTy, fixed_u, small_c, mayR_c, ge_iff_le, gt_iff_lt, x0]
    refine Wp.condT rfl (Wp.seq (Wp_region ?_))
    simp -implicitDefEqProofs only [vm, vs, pairUp, Nat.reduceEqDiff, Nat.reduceAdd, Nat.reduceLeDiff, reduceIte, sh_TT, shTy, fixed_u]
    refine Wp.ret ?_
    simp -implicitDefEqProofs only [vm, vs, pairUp, Nat.reduceEqDiff, Nat.reduceAdd, Nat.reduceLeDiff, reduceIte]
  cases x1 : decide ((14 : Int) < t.list.length)
  rotate_left
  · refine Wp.seq (Wp.seq (Wp_region ?_))
    simp -implicitDefEqProofs only [vm, vs, pairUp, Nat.reduceEqDiff, Nat.reduceAdd, Nat.reduceLeDiff, reduceIte, sh_TT, shTy, fixed_u, small_c, mayR_c, ge_iff_le, gt_iff_lt, x0, x1]
    refine Wp.condT rfl (Wp.seq (Wp_region ?_))
    simp -implicitDefEqProofs only [vm, vs, pairUp, Nat.reduceEqDiff, Nat.reduceAdd, Nat.reduceLeDiff, reduceIte, sh_TT, shTy, fixed_u]
    refine Wp.ret ?_
    simp -implicitDefEqProofs only [vm, vs, pairUp, Nat.reduceEqDiff, Nat.reduceAdd, Nat.reduceLeDiff, reduceIte]
  cases x2 : dec (MayP t.list)
  · refine Wp.seq (Wp.seq (Wp_region ?_))
    simp -implicitDefEqProofs only [vm, vs, pairUp, Nat.reduceEqDiff, Nat.reduceAdd, Nat.reduceLeDiff, reduceIte, sh_TT, shTy, fixed_u, small_c, mayR_c, ge_iff_le, gt_iff_lt, x0, x1, x2]
    refine Wp.condT rfl (Wp.seq (Wp_region ?_))
    simp -implicitDefEqProofs only [vm, vs, pairUp, Nat.reduceEqDiff, Nat.reduceAdd, Nat.reduceLeDiff, reduceIte, sh_TT, shTy, fixed_u]
    refine Wp.ret ?_
    simp -implicitDefEqProofs only [vm, vs, pairUp, Nat.reduceEqDiff, Nat.reduceAdd, Nat.reduceLeDiff, reduceIte]
  cases x3 : decide (a < 0)
  rotate_left
  · refine Wp.seq (Wp.seq (Wp_region ?_))
    simp -implicitDefEqProofs only [vm, vs, pairUp, Nat.reduceEqDiff, Nat.reduceAdd, Nat.reduceLeDiff, reduceIte, sh_TT, shTy, fixed_u, small_c, mayR_c, ge_iff_le, gt_iff_lt, x0, x1, x2, x3]
    refine Wp.condT rfl (Wp.seq (Wp_region ?_))
    simp -implicitDefEqProofs only [vm, vs, pairUp, Nat.reduceEqDiff, Nat.reduceAdd, Nat.reduceLeDiff, reduceIte, sh_TT, shTy, fixed_u]
    refine Wp.ret ?_
    simp -implicitDefEqProofs only [vm, vs, pairUp, Nat.reduceEqDiff, Nat.reduceAdd, Nat.reduceLeDiff, reduceIte]
  cases x4 : decide (b < 0)
  rotate_left
  · refine Wp.seq (Wp.seq (Wp_region ?_))
    simp -implicitDefEqProofs only [vm, vs, pairUp, Nat.reduceEqDiff, Nat.reduceAdd, Nat.reduceLeDiff, reduceIte, sh_TT, shTy, fixed_u, small_c, mayR_c, ge_iff_le, gt_iff_lt, x0, x1, x2, x3, x4]
    refine Wp.condT rfl (Wp.seq (Wp_region ?_))
    simp -implicitDefEqProofs only [vm, vs, pairUp, Nat.reduceEqDiff, Nat.reduceAdd, Nat.reduceLeDiff, reduceIte, sh_TT, shTy, fixed_u]
    refine Wp.ret ?_
    simp -implicitDefEqProofs only [vm, vs, pairUp, Nat.reduceEqDiff, Nat.reduceAdd, Nat.reduceLeDiff, reduceIte]
  cases x5 : decide ((t.list.length : Int) ≤ a)
  rotate_left
  · refine Wp.seq (Wp.seq (Wp_region ?_))
    simp -implicitDefEqProofs only [vm, vs, pairUp, Nat.reduceEqDiff, Nat.reduceAdd, Nat.reduceLeDiff, reduceIte, sh_TT, shTy, fixed_u, small_c, mayR_c, ge_iff_le, gt_iff_lt, x0, x1, x2, x3, x4, x5]
    refine Wp.condT rfl (Wp.seq (Wp_region ?_))
    simp -implicitDefEqProofs only [vm, vs, pairUp, Nat.reduceEqDiff, Nat.reduceAdd, Nat.reduceLeDiff, reduceIte, sh_TT, shTy, fixed_u]
    refine Wp.ret ?_
    simp -implicitDefEqProofs only [vm, vs, pairUp, Nat.reduceEqDiff, Nat.reduceAdd, Nat.reduceLeDiff, reduceIte]
  cases x6 : decide ((t.list.length : Int) ≤ b)
  rotate_left
  · refine Wp.seq (Wp.seq (Wp_region ?_))
    simp -implicitDefEqProofs only [vm, vs, pairUp, Nat.reduceEqDiff, Nat.reduceAdd, Nat.reduceLeDiff, reduceIte, sh_TT, shTy, fixed_u, small_c, mayR_c, ge_iff_le, gt_iff_lt, x0, x1, x2, x3, x4, x5, x6]
    refine Wp.condT rfl (Wp.seq (Wp_region ?_))
    simp -implicitDefEqProofs only [vm, vs, pairUp, Nat.reduceEqDiff, Nat.reduceAdd, Nat.reduceLeDiff, reduceIte, sh_TT, shTy, fixed_u]
    refine Wp.ret ?_
    simp -implicitDefEqProofs only [vm, vs, pairUp, Nat.reduceEqDiff, Nat.reduceAdd, Nat.reduceLeDiff, reduceIte]
  have hs : FewP t.list := (dec_iff.1 x0).1
  have hm := dec_iff.1 x2
  have h14 : t.list.length ≤ 14 := by simp at x1; omega
  have ha : InT t.list a := ⟨by simpa using x3, by simpa using x5⟩
  have hb : InT t.list b := ⟨by simpa using x4, by simpa using x6⟩
  refine Wp.seq (Wp.seq (Wp_region ?_))
  simp -implicitDefEqProofs only [vm, vs, pairUp, Nat.reduceEqDiff, Nat.reduceAdd, Nat.reduceLeDiff, reduceIte, sh_TT, shTy, fixed_u, small_c, mayR_c, ge_iff_le, gt_iff_lt, x0, x1, x2, x3, x4, x5, x6]
  refine Wp.condF rfl (Wp.skip ?_)
  simp -implicitDefEqProofs only [vm, vs, pairUp, Nat.reduceEqDiff, Nat.reduceAdd, Nat.reduceLeDiff, reduceIte]
  clear x0 x1 x2 x3 x4 x5 x6
  rcases t with _ | ⟨l, hl⟩
  · exact absurd ha (by simp [InT, SlOf.list])
  have hlist : (SlOf.of l hl).list = l := rfl
  simp only [hlist] at *
  have hmx : (more l).length ≤ maxLen := by rw [more_len]; have : maxLen = 9223372036854775807 := rfl; omega
  have ct : ∀ x y u, (callL TT).pure 17 [.sl false (l.map encTy), .int .i64 x, .int .i64 y] u = some (.bool (dec (SubP l x y)), u) := fun x y u => sub_c (.of l hl) hs x y u
  have cm : ∀ x y u, (callL TT).pure 17 [.sl false ((more l).map encTy), .int .i64 x, .int .i64 y] u = some (.bool (dec (SubP (more l) x y)), u) := fun x y u => sub_c (.of (more l) hmx) (more_few hs) x y u
  have hl0 : 0 < l.length := by have := ha.1; have := ha.2; omega
  have hne : l.map encTy ≠ [] := by intro h; rw [List.map_eq_nil_iff] at h; rw [h] at hl0; simp at hl0
  have hyl : ∀ c ∈ l.map encTy, c.length = 3 ∧ c.map D.norm = c := fun c hc => by
    obtain ⟨x, _, rfl⟩ := List.mem_map.1 hc
    exact encTy_ok x
  have hroom : 56 * (l.map encTy).length ≤ roomBytes := by rw [List.length_map]; have : roomBytes = 140737488355328 := rfl; omega
  have hmap : l.map encTy ++ [[D.int .i64 0, .nilsl, .nilsl], [D.int .i64 1, .nilsl, .nilsl]] = (more l).map encTy := by simp [more, encTy, tyAny, tyNull, slD]
  have hy2 : ∀ c ∈ [[D.int .i64 0, .nilsl, .nilsl], [D.int .i64 1, .nilsl, .nilsl]], c.length = 3 ∧ c.map D.norm = c := fun c hc => by
    simp only [List.mem_cons, List.not_mem_nil, or_false] at hc
    rcases hc with rfl | rfl <;> exact ⟨rfl, rfl⟩
  have hb0 : setParts [D.int .i64 0, .nilsl, .nilsl] [] = some [D.int .i64 0, .nilsl, .nilsl] := rfl
  have hb1 : setParts [D.int .i64 0, .nilsl, .nilsl] [(0, 1, .int .i64 1)] = some [D.int .i64 1, .nilsl, .nilsl] := rfl
  have hap1 := fun g : Nat × Unit => ap_lits (H := fun _ => none) (k := 48) (g := g) (b := false) rfl hne hyl hroom
  refine Wp.seq (Wp_region ?_)
  simp -implicitDefEqProofs only [vm, vs, pairUp, Nat.reduceEqDiff, Nat.reduceAdd, Nat.reduceLeDiff, reduceIte, slD, act_bslice0, hap1, hb0, hb1, act_bslice2]
  rw [ap_arrs (es := l.map encTy) (Hp.set_same _ _ _) (by simp) (by simp) hy2 (by rw [List.length_map]; simp only [List.length_cons, List.length_nil]; have : roomBytes = 140737488355328 := rfl; omega)]
  simp -implicitDefEqProofs only [vm, vs, pairUp, Nat.reduceEqDiff, Nat.reduceAdd, Nat.reduceLeDiff, reduceIte, hmap, List.length_map]
  generalize hH : (Hp.set _ 48 (HC.arr 3 (0 + 1) ((more l).map encTy))) = H1
  have h48 : H1 48 = some (.arr 3 1 ((more l).map encTy)) := by rw [← hH]; exact Hp.set_same _ _ _
  have hfz := frz_tab (n := l.length + 2) h48 more_len.symm
  have hw : IntKind.wrap .i64 ((l.length : Int) + 1) = (l.length : Int) + 1 := wrap_in (by omega)
  have e1 : dec (SubP (more l) a b) = dec (SubP l a b) := dec_congr (grow_old hs hm h14 ha hb)
  have e2 := dec_true (grow_any hs hm h14 ha)
  have e3 := dec_false (grow_not hs hm h14)
  have hbne : ∀ x : Bool, (x != x) = false := fun x => by cases x <;> rfl
  refine Wp.seq (Wp.seq (Wp_region ?_))
  simp -implicitDefEqProofs only [vm, vs, pairUp, Nat.reduceEqDiff, Nat.reduceAdd, Nat.reduceLeDiff, reduceIte, sh_TT, shTy, hfz, cm, ct, e1, e2, e3, hw, bin_bne, hbne]
  refine Wp.condF rfl (Wp.skip ?_)
  simp -implicitDefEqProofs only [vm, vs, pairUp, Nat.reduceEqDiff, Nat.reduceAdd, Nat.reduceLeDiff, reduceIte]
  have hal : a.toNat < (SlOf.of l hl).list.length := by have := ha.1; have := ha.2; show a.toNat < l.length; omega
  have hxa : tyAt l a = l[a.toNat] := by
    obtain ⟨j, hj, he, h2⟩ := tyAt_mem ha.1 ha.2
    rw [h2]
    congr 1
    omega
  have ia : ∀ H : Hp, iaD H 3 (.sl false (l.map encTy)) a = some (.ref (encTy l[a.toNat])) := fun H => iaD_sl (H := H) (enc := encTy) (x := .of l hl) ha.1 hal rfl
  generalize l[a.toNat] = x at hxa ia
  cases k5 : decide (x.kind = 5) with
  | true =>
    refine Wp.seq (Wp_effs (by kernel_rfl) (by simp -implicitDefEqProofs only [vm, vs, pairUp, Nat.reduceEqDiff, Nat.reduceAdd, Nat.reduceLeDiff, reduceIte, ia, encTy, List.drop_zero, k5]; rfl) (by kernel_rfl) ?_)
    simp only [andThen_normal]
    refine Wp.ret ?_
    simp -implicitDefEqProofs only [vm, vs, pairUp, Nat.reduceEqDiff, Nat.reduceAdd, Nat.reduceLeDiff, reduceIte]
  | false =>
    have e4 : dec (SubP (more l) a ((l.length : Int) + 1)) = decide (x.kind = 1) := by
      have h5 : (tyAt l a).kind ≠ 5 := by rw [hxa]; simpa using k5
      have h6 := grow_null hs hm h14 ha h5
      rw [hxa] at h6
      by_cases h7 : x.kind = 1
      · rw [dec_true (h6.2 h7), h7]; rfl
      · rw [dec_false (fun h => h7 (h6.1 h))]
        simp [h7]
    refine Wp.seq (Wp_effs (by kernel_rfl) (by simp -implicitDefEqProofs only [vm, vs, pairUp, Nat.reduceEqDiff, Nat.reduceAdd, Nat.reduceLeDiff, reduceIte, ia, encTy, List.drop_zero, k5, sh_TT, shTy, hfz, cm, hw, e4, bin_beq, BEq.rfl]; rfl) (by kernel_rfl) ?_)
    simp only [andThen_normal]
    refine Wp.ret ?_
    simp -implicitDefEqProofs only [vm, vs, pairUp, Nat.reduceEqDiff, Nat.reduceAdd, Nat.reduceLeDiff, reduceIte]
end Go.VM
