/-
  The document's Sub: pairs are taken away.
-/
import Derived.Test.YtbkiekkconlebaaTyS6
import Derived.KernelRfl
set_option linter.all false
set_option linter.all false
set_option maxRecDepth 100000
namespace Go.VM
open Go Go.Sv

section
variable {G : Type} {pc : Pc G} {dst : Option Nat} {e : Env} {H : Hp} {g : Nat × G}
theorem act_bslice0 {zs : List D} : act pc dst (.bslice zs 0 []) e H g = some ⟨.sl true [], H, g, .none⟩ := by
  simp [act, Opd.evL, frzL, setParts, zerosD, act.chunks, effOf]
def bsB (v : Option D) (H : Hp) (g : Nat × G) : Option (Res G) := match v with
  | some (.bool b) => some ⟨.sl true [[.bool b]], H, g, .none⟩
  | _ => none
theorem bsB_some {b : Bool} : bsB (some (.bool b)) H g = some ⟨.sl true [[.bool b]], H, g, .none⟩ := rfl
theorem act_bslice1 {b : Bool} : act pc dst (.bslice [.bool false] 1 [(0, .c (.bool b))]) e H g = some ⟨.sl true [[.bool b]], H, g, .none⟩ := rfl
theorem ap_lit {k : Nat} {b : Bool} (hk : H k = none) : apO (some k) 1 1 (some (.sl true [])) (some (.sl true [[.bool b]])) H g = some ⟨.arr k 0 1, H.set k (.arr 1 0 [[.bool b]]), g, .new⟩ := by
  simp [apO, act, elems, Opd.ev, hdef, hk, roomBytes, D.norm]
theorem ap_more {k q n : Nat} {b : Bool} {es : List (List D)} (hk : H k = some (.arr 1 q es)) (hn : es.length = n) (hr : n + 1 ≤ roomBytes) : apO dst 1 1 (some (.arr k q n)) (some (.sl true [[.bool b]])) H g = some ⟨.arr k (q + 1) (n + 1), H.set k (.arr 1 (q + 1) (es ++ [[.bool b]])), g, .write⟩ := by
  subst hn
  have h2 : ¬ roomBytes < es.length + 1 := by omega
  simp [apO, act, elems, Opd.ev, hk, h2, D.norm]
end

theorem okBits {l : List Nat} {q : Nat} {es : List (List D)} (h : ∀ c ∈ es, ∃ b, c = [.bool b]) : (HC.arr 1 q es).okH l = true := by
  simp only [HC.okH, List.all_eq_true]
  intro c hc
  obtain ⟨b, rfl⟩ := h c hc
  intro d hd
  simp only [List.mem_singleton] at hd
  subst hd; rfl
theorem bits_shape {n : Nat} {S : K → Bool} : ∀ c ∈ bitsL n S, ∃ b, c = [.bool b] := fun c hc => by
  obtain ⟨q, _, rfl⟩ := List.mem_map.1 hc
  exact ⟨_, rfl⟩
theorem bits_true {n : Nat} : List.replicate (n * n) [D.bool true] = bitsL n fun _ => true := by
  unfold bitsL
  rw [← pairsT_len n]
  generalize pairsT n = l
  induction l with
  | nil => rfl
  | cons x l ih => rw [List.length_cons, List.replicate_succ, ih]; rfl
theorem bits_set {n i j : Nat} {S : K → Bool} (hi : i < n) (hj : j < n) (b : Bool) : (bitsL n S).set (i * n + j) [.bool b] = bitsL n (upd S [(i : Int), (j : Int)] b) := by
  have hlt := idx2_lt hi hj
  have hg := pairsT_get hi hj
  apply List.ext_getElem
  · simp [bitsL]
  · intro m h1 h2
    have hm : m < (pairsT n).length := by simpa [bitsL] using h2
    rw [List.getElem_set]
    by_cases h : i * n + j = m
    · subst h
      rw [if_pos rfl]
      have h3 : (pairsT n)[i * n + j] = [(i : Int), (j : Int)] := by
        rw [List.getElem?_eq_getElem hm] at hg
        exact Option.some.inj hg
      simp only [bitsL, List.getElem_map, h3, upd_same]
    · rw [if_neg h]
      simp only [bitsL, List.getElem_map]
      rw [upd_ne]
      intro he
      have h4 : i * n + j < (pairsT n).length := by rw [pairsT_len]; exact hlt
      rw [List.getElem?_eq_getElem h4] at hg
      have h5 := Option.some.inj hg
      exact h (((List.getElem_inj (pairsT_nd n)).1 (h5.trans he.symm)))
theorem ia_arr {n q : Nat} {S : K → Bool} {x y : Int} (hx : 0 ≤ x ∧ x < n) (hy : 0 ≤ y ∧ y < n) {H : Hp} (h : H 46 = some (.arr 1 q (bitsL n S))) : iaD H 1 (.arr 46 q (n * n)) (x * n + y) = some (.aptr 46 q (x.toNat * n + y.toNat) 0) := by
  have h3 := idx2_lt (n := n) (i := x.toNat) (j := y.toNat) (by omega) (by omega)
  rw [idx_nat hx hy]
  simp only [iaD, h, iaA, Int.toNat_natCast, bitsL_len]
  rw [if_pos ⟨trivial, trivial, by omega, by omega, by omega⟩]
theorem look_bit {n : Nat} {S : K → Bool} {x y : Int} (hx : 0 ≤ x ∧ x < n) (hy : 0 ≤ y ∧ y < n) : (bitsL n S)[x.toNat * n + y.toNat]? = some [.bool (S [x, y])] := by
  unfold bitsL
  rw [List.getElem?_map, pairsT_get (by omega) (by omega), Int.toNat_of_nonneg hx.1, Int.toNat_of_nonneg hy.1]
  rfl

theorem storeA_at {G : Type} {q i : Nat} {es : List (List D)} {c v : Bool} {H : Hp} {g : Nat × G} (h : es[i]? = some [.bool c]) : storeA (some (.arr 1 q es)) 1 46 q i 0 (.bool v) H g = some ⟨.undef, H.set 46 (.arr 1 q (es.set i [.bool v])), g, .write⟩ := by
  simp [storeA, h, putCells, D.norm, D.cells]
theorem frz_bits {n q : Nat} {S : K → Bool} {H : Hp} (h : H 46 = some (.arr 1 q (bitsL n S))) : frz H (.arr 46 q (n * n)) = some (bitsD n S, H.set 46 (.farr 1 q (bitsL n S))) := by
  have h1 : (bitsL n S).all (fun c => c.all D.plain1) = true := by
    rw [List.all_eq_true]
    intro c hc
    obtain ⟨b, rfl⟩ := bits_shape c hc
    rfl
  have h2 : (bitsL n S).take (n * n) = bitsL n S := List.take_of_length_le (by rw [bitsL_len]; exact Nat.le_refl _)
  simp only [frz, frz1, h, bitsL_len, h1, if_true, h2, bitsD]
  rw [if_pos ⟨trivial, Nat.le_refl _⟩]

/-! ### The plain part -/
section
variable {R : Rule} {S0 S : K → Bool} {gone : Bool}
structure Pass (R : Rule) (S0 S : K → Bool) (gone : Bool) (done : K → Prop) : Prop where
  big : ∀ p, R.G p → S p = true
  lt : gone = true → R.U.countP S < R.U.countP S0
  same : gone = false → S = S0 ∧ ∀ p ∈ R.U, done p → S p = true → R.res p ((R.asks p).map S) = true
theorem Pass.congr {done done' : K → Prop} (h : Pass R S0 S gone done) (hd : ∀ p ∈ R.U, done' p → done p) : Pass R S0 S gone done' :=
  ⟨h.big, h.lt, fun hg => ⟨(h.same hg).1, fun p hp h1 => (h.same hg).2 p hp (hd p hp h1)⟩⟩
theorem Pass.skip {done : K → Prop} (h : Pass R S0 S gone done) {p : K} (hp : S p = true → R.res p ((R.asks p).map S) = true) : Pass R S0 S gone (fun q => done q ∨ q = p) :=
  ⟨h.big, h.lt, fun hg => ⟨(h.same hg).1, fun q hq h1 => by
    rcases h1 with h1 | rfl
    · exact (h.same hg).2 q hq h1
    · exact hp⟩⟩
theorem countP_upd {l : List K} {p : K} (hp : p ∈ l) (hS : S p = true) : l.countP (upd S p false) < l.countP S := by
  have hsub : ∀ y, upd S p false y = true → S y = true := fun y hy => by
    unfold upd at hy
    split at hy
    · cases hy
    · exact hy
  induction l with
  | nil => simp at hp
  | cons u U ih =>
    simp only [List.countP_cons]
    rcases List.mem_cons.1 hp with rfl | hm
    · have a3 := List.countP_mono_left (l := U) (p := upd S p false) (q := S) fun y _ hy => hsub y hy
      rw [upd_same, hS]
      simp only [Bool.false_eq_true, if_false, if_true, Nat.add_zero]
      omega
    · have a3 := ih hm
      have a4 : (if (upd S p false u) = true then 1 else 0) ≤ if S u = true then 1 else 0 := by
        by_cases hu : upd S p false u = true
        · rw [if_pos hu, if_pos (hsub u hu)]; exact Nat.le_refl _
        · rw [if_neg hu]; exact Nat.zero_le _
      omega
theorem Pass.drop (hR : R.Ok) {done : K → Prop} (h : Pass R S0 S gone done) {p : K} (hpU : p ∈ R.U) (hS : S p = true) (hr : R.res p ((R.asks p).map S) = false) (done' : K → Prop) : Pass R S0 (upd S p false) true done' := by
  refine ⟨fun q hq => ?_, fun _ => ?_, fun hg => by cases hg⟩
  · unfold upd
    split
    · rename_i he
      subst he
      obtain ⟨X, hX, hXq⟩ := hq
      obtain ⟨_, h1⟩ := hX q hXq
      have := hR.mono q hpU X S (fun o ho => h.big o ⟨X, hX, ho⟩) h1
      rw [hr] at this; cases this
    · exact h.big q hq
  · have h1 := countP_upd hpU hS
    cases gone with
    | true => have := h.lt rfl; omega
    | false => rw [(h.same rfl).1] at h1 ⊢; exact h1
/-- Nothing was taken away. -/
theorem Pass.fin (hR : R.Ok) (h : Pass R S0 S false fun _ => True) {p : K} (hp : p ∈ R.U) : S p = true ↔ R.G p := by
  refine ⟨fun h1 => ⟨fun q => S q && decide (q ∈ R.U), fun q hq => ?_, by simp [h1, hp]⟩, h.big p⟩
  simp only [Bool.and_eq_true, decide_eq_true_eq] at hq
  refine ⟨hq.2, ?_⟩
  refine Eq.trans (congrArg _ (List.map_congr_left fun o ho => ?_)) ((h.same rfl).2 q hq.2 trivial hq.1)
  simp [hR.closed q hq.2 o ho]
end

/-! ### The walk -/
structure RS (t : SlOf Ty) (N : Nat) (a b : Int) (S : K → Bool) (e : Env) (H : Hp) (q : Nat) : Prop where
  e0 : e 0 = some (slD encTy t)
  e1 : e 1 = some (.int .i64 a)
  e2 : e 2 = some (.int .i64 b)
  e7 : e 7 = some (.int .i64 N)
  e8 : e 8 = some (.arr 46 q (N * N))
  h : H 46 = some (.arr 1 q (bitsL N S))
section
variable {t : SlOf Ty} {N : Nat} {a b : Int} {S : K → Bool} {e e' : Env} {H : Hp} {q : Nat}
theorem RS.keep (h : RS t N a b S e H q) {keep : List Nat} (h0 : keep.contains 0 = true) (h1 : keep.contains 1 = true) (h2 : keep.contains 2 = true) (h7 : keep.contains 7 = true) (h8 : keep.contains 8 = true) : RS t N a b S (keepEnv keep [46] e) (keepHp [46] H) q :=
  ⟨keepEnv_some h.e0 h0 okH_sl, keepEnv_some h.e1 h1 rfl, keepEnv_some h.e2 h2 rfl, keepEnv_some h.e7 h7 rfl, keepEnv_some h.e8 h8 rfl, keepHp_in h.h rfl⟩
theorem RS.hok (h : RS t N a b S e H q) : hOk [46] H = true := hOk_cons h.h (okBits bits_shape) rfl
theorem RS.env (h : RS t N a b S e H q) (h0 : e' 0 = e 0) (h1 : e' 1 = e 1) (h2 : e' 2 = e 2) (h7 : e' 7 = e 7) (h8 : e' 8 = e 8) : RS t N a b S e' H q :=
  ⟨h0.trans h.e0, h1.trans h.e1, h2.trans h.e2, h7.trans h.e7, h8.trans h.e8, h.h⟩
end

theorem subR_c (t : SlOf Ty) (hs : FewP t.list) (a b : Int) (u : Unit) : (callL TT).pure 18 [slD encTy t, .int .i64 a, .int .i64 b] u = some (.bool (dec (SubP t.list a b)), u) := by
  refine fn_of rfl rfl (by simp -implicitDefEqProofs only [vm, vs, pairUp, Nat.reduceEqDiff, Nat.reduceAdd, Nat.reduceLeDiff, reduceIte]) rfl rfl ?_
  unfold v18
  refine Wp.seq (Wp_region ?_)
  simp -implicitDefEqProofs only [vm, vs, pairUp, Nat.reduceEqDiff, Nat.reduceAdd, Nat.reduceLeDiff, reduceIte]
  refine Wp.seq (Wp_region ?_)
  simp -implicitDefEqProofs only [vm, vs, pairUp, Nat.reduceEqDiff, Nat.reduceAdd, Nat.reduceLeDiff, reduceIte]
  have hno : ¬ (MayP t.list ∧ InT t.list a ∧ InT t.list b) → dec (SubP t.list a b) = false := fun h => dec_false fun h' => h ⟨h'.1, h'.2.1, h'.2.2.1⟩
  by_cases hgo : MayP t.list ∧ InT t.list a ∧ InT t.list b
  rotate_left
  · rw [hno hgo]
    cases a1 : dec (MayP t.list) with
    | false =>
      refine Wp.seq (Wp.seq (Wp_region ?_))
      simp -implicitDefEqProofs only [vm, vs, pairUp, Nat.reduceEqDiff, Nat.reduceAdd, Nat.reduceLeDiff, reduceIte, sh_TT, shTy, mayR_c, a1]
      refine Wp.condT rfl (Wp.seq (Wp_region ?_))
      simp -implicitDefEqProofs only [vm, vs, pairUp, Nat.reduceEqDiff, Nat.reduceAdd, Nat.reduceLeDiff, reduceIte]
      refine Wp.ret ?_
      simp -implicitDefEqProofs only [vm, vs, pairUp, Nat.reduceEqDiff, Nat.reduceAdd, Nat.reduceLeDiff, reduceIte]
    | true =>
      have hm := dec_iff.1 a1
      cases a2 : decide (a < 0) with
      | true =>
        refine Wp.seq (Wp.seq (Wp_region ?_))
        simp -implicitDefEqProofs only [vm, vs, pairUp, Nat.reduceEqDiff, Nat.reduceAdd, Nat.reduceLeDiff, reduceIte, sh_TT, shTy, mayR_c, a1, a2]
        refine Wp.condT rfl (Wp.seq (Wp_region ?_))
        simp -implicitDefEqProofs only [vm, vs, pairUp, Nat.reduceEqDiff, Nat.reduceAdd, Nat.reduceLeDiff, reduceIte]
        refine Wp.ret ?_
        simp -implicitDefEqProofs only [vm, vs, pairUp, Nat.reduceEqDiff, Nat.reduceAdd, Nat.reduceLeDiff, reduceIte]
      | false =>
        cases a3 : decide (b < 0) with
        | true =>
          refine Wp.seq (Wp.seq (Wp_region ?_))
          simp -implicitDefEqProofs only [vm, vs, pairUp, Nat.reduceEqDiff, Nat.reduceAdd, Nat.reduceLeDiff, reduceIte, sh_TT, shTy, mayR_c, a1, a2, a3]
          refine Wp.condT rfl (Wp.seq (Wp_region ?_))
          simp -implicitDefEqProofs only [vm, vs, pairUp, Nat.reduceEqDiff, Nat.reduceAdd, Nat.reduceLeDiff, reduceIte]
          refine Wp.ret ?_
          simp -implicitDefEqProofs only [vm, vs, pairUp, Nat.reduceEqDiff, Nat.reduceAdd, Nat.reduceLeDiff, reduceIte]
        | false =>
          cases a4 : decide ((t.list.length : Int) ≤ a) with
          | true =>
            refine Wp.seq (Wp.seq (Wp_region ?_))
            simp -implicitDefEqProofs only [vm, vs, pairUp, Nat.reduceEqDiff, Nat.reduceAdd, Nat.reduceLeDiff, reduceIte, sh_TT, shTy, mayR_c, a1, a2, a3, ge_iff_le, a4]
            refine Wp.condT rfl (Wp.seq (Wp_region ?_))
            simp -implicitDefEqProofs only [vm, vs, pairUp, Nat.reduceEqDiff, Nat.reduceAdd, Nat.reduceLeDiff, reduceIte]
            refine Wp.ret ?_
            simp -implicitDefEqProofs only [vm, vs, pairUp, Nat.reduceEqDiff, Nat.reduceAdd, Nat.reduceLeDiff, reduceIte]
          | false =>
            cases a5 : decide ((t.list.length : Int) ≤ b) with
            | true =>
              refine Wp.seq (Wp.seq (Wp_region ?_))
              simp -implicitDefEqProofs only [vm, vs, pairUp, Nat.reduceEqDiff, Nat.reduceAdd, Nat.reduceLeDiff, reduceIte, sh_TT, shTy, mayR_c, a1, a2, a3, ge_iff_le, a4, a5]
              refine Wp.condT rfl (Wp.seq (Wp_region ?_))
              simp -implicitDefEqProofs only [vm, vs, pairUp, Nat.reduceEqDiff, Nat.reduceAdd, Nat.reduceLeDiff, reduceIte]
              refine Wp.ret ?_
              simp -implicitDefEqProofs only [vm, vs, pairUp, Nat.reduceEqDiff, Nat.reduceAdd, Nat.reduceLeDiff, reduceIte]
            | false =>
              simp only [decide_eq_false_iff_not] at a2 a3 a4 a5
              exact absurd ⟨hm, ⟨by omega, by omega⟩, ⟨by omega, by omega⟩⟩ hgo
  obtain ⟨hm, hia, hib⟩ := hgo
  have hia' : 0 ≤ a ∧ a < t.list.length := hia
  have hib' : 0 ≤ b ∧ b < t.list.length := hib
  have a1 := dec_true hm
  have a2 : decide (a < 0) = false := by simp; omega
  have a3 : decide (b < 0) = false := by simp; omega
  have a4 : decide ((t.list.length : Int) ≤ a) = false := by simp; omega
  have a5 : decide ((t.list.length : Int) ≤ b) = false := by simp; omega
  have hRok := ruleT_ok hm hs
  have hn200 := hm.2
  refine Wp.seq (Wp.seq (Wp_region ?_))
  simp -implicitDefEqProofs only [vm, vs, pairUp, Nat.reduceEqDiff, Nat.reduceAdd, Nat.reduceLeDiff, reduceIte, sh_TT, shTy, mayR_c, a1, a2, a3, ge_iff_le, a4, a5]
  refine Wp.condF rfl (Wp.skip ?_)
  simp -implicitDefEqProofs only [vm, vs, pairUp, Nat.reduceEqDiff, Nat.reduceAdd, Nat.reduceLeDiff, reduceIte]
  refine Wp.seq (Wp_region ?_)
  simp -implicitDefEqProofs only [vm, vs, pairUp, Nat.reduceEqDiff, Nat.reduceAdd, Nat.reduceLeDiff, reduceIte, act_bslice0]
  refine Wp.seq (Wp.seq (Wp_region ?_))
  simp -implicitDefEqProofs only [vm, vs, pairUp, Nat.reduceEqDiff, Nat.reduceAdd, Nat.reduceLeDiff, reduceIte]
  have hU : (ruleT t.list).U = pairsT t.list.length := rfl
  have hrule := fun (S : K → Bool) (i j : Nat) (hi : i < t.list.length) (hj : j < t.list.length) (u : Unit) => ruleR_c t hm S hi hj u
  generalize hN : t.list.length = N at *
  have hNN : IntKind.wrap .i64 ((N : Int) * (N : Int)) = ((N * N : Nat) : Int) := by
    have h1 : N * N ≤ 200 * 200 := Nat.mul_le_mul hn200 hn200
    rw [Int.natCast_mul, ← Int.natCast_mul, wrap_in (by omega)]
  have hNN' : N * N ≤ 40000 := Nat.mul_le_mul hn200 hn200
  have hN1 : 0 < N * N := Nat.mul_pos (by omega) (by omega)
  refine Wp.block (Wp.loopT (Inv := fun m e H _ => ∃ k : Nat, k ≤ N * N ∧ m = N * N - k ∧ e 0 = some (slD encTy t) ∧ e 1 = some (.int .i64 a) ∧ e 2 = some (.int .i64 b) ∧ e 7 = some (.int .i64 N) ∧ e 9 = some (.int .i64 k) ∧ ((k = 0 ∧ e 8 = some (.sl true []) ∧ H 46 = none) ∨ (0 < k ∧ ∃ q, e 8 = some (.arr 46 q k) ∧ H 46 = some (.arr 1 q (List.replicate k [.bool true]))))) ?_ (n := N * N) ⟨0, by omega, rfl, rfl, rfl, rfl, rfl, rfl, .inl ⟨rfl, rfl, rfl⟩⟩)
  rintro m e3 H g3 ⟨k, hk, rfl, n0, n1, n2, n7, n9, hcase⟩
  have hrep : ∀ c ∈ List.replicate k [D.bool true], ∃ b, c = [.bool b] := fun c hc => ⟨true, List.eq_of_mem_replicate hc⟩
  have hok : hOk [46] H = true := by
    rcases hcase with ⟨_, _, h⟩ | ⟨_, q, _, h⟩
    · simp [hOk, h]
    · exact hOk_cons h (okBits hrep) rfl
  refine ⟨hok, ?_⟩
  have k0 : keepEnv [0, 1, 2, 7, 8, 9] [46] e3 0 = some (slD encTy t) := keepEnv_some n0 rfl okH_sl
  have k1 : keepEnv [0, 1, 2, 7, 8, 9] [46] e3 1 = some (.int .i64 a) := keepEnv_some n1 rfl rfl
  have k2 : keepEnv [0, 1, 2, 7, 8, 9] [46] e3 2 = some (.int .i64 b) := keepEnv_some n2 rfl rfl
  have k7 : keepEnv [0, 1, 2, 7, 8, 9] [46] e3 7 = some (.int .i64 N) := keepEnv_some n7 rfl rfl
  have k9 : keepEnv [0, 1, 2, 7, 8, 9] [46] e3 9 = some (.int .i64 k) := keepEnv_some n9 rfl rfl
  have kc : ((k = 0 ∧ keepEnv [0, 1, 2, 7, 8, 9] [46] e3 8 = some (.sl true []) ∧ keepHp [46] H 46 = none) ∨ (0 < k ∧ ∃ q, keepEnv [0, 1, 2, 7, 8, 9] [46] e3 8 = some (.arr 46 q k) ∧ keepHp [46] H 46 = some (.arr 1 q (List.replicate k [.bool true])))) := by
    rcases hcase with ⟨h1, h2, h3⟩ | ⟨h1, q, h2, h3⟩
    · exact .inl ⟨h1, keepEnv_some h2 rfl rfl, by simp [keepHp, h3]⟩
    · exact .inr ⟨h1, q, keepEnv_some h2 rfl rfl, keepHp_in h3 rfl⟩
  generalize keepEnv [0, 1, 2, 7, 8, 9] [46] e3 = e4 at k0 k1 k2 k7 k9 kc
  generalize keepHp [46] H = H4 at kc
  have hklt : k < maxLen := by
    have : maxLen = 9223372036854775807 := rfl
    omega
  have hw := wrap_nat (n := k) (by omega)
  refine Wp.seq (Wp.seq (Wp_region ?_))
  simp -implicitDefEqProofs only [vm, vs, pairUp, Nat.reduceEqDiff, Nat.reduceAdd, Nat.reduceLeDiff, reduceIte, k7, k9, hNN]
  by_cases hkl : k < N * N
  · refine Wp.condT (by simp -implicitDefEqProofs only [vm, vs, pairUp, Nat.reduceEqDiff, Nat.reduceAdd, Nat.reduceLeDiff, reduceIte]; simp; omega) (Wp.skip ?_)
    simp -implicitDefEqProofs only [vm, vs, pairUp, Nat.reduceEqDiff, Nat.reduceAdd, Nat.reduceLeDiff, reduceIte]
    rcases kc with ⟨rfl, k8, h46⟩ | ⟨hk0, q, k8, h46⟩
    · refine Wp.seq (Wp.block (Wp_region ?_))
      simp -implicitDefEqProofs only [vm, vs, pairUp, Nat.reduceEqDiff, Nat.reduceAdd, Nat.reduceLeDiff, reduceIte, act_bslice1, k8, ap_lit h46]
      refine Wp_region ?_
      simp -implicitDefEqProofs only [vm, vs, pairUp, Nat.reduceEqDiff, Nat.reduceAdd, Nat.reduceLeDiff, reduceIte, k9, hw]
      exact Round_normal ⟨N * N - 1, by omega, 1, by omega, rfl, k0, k1, k2, k7, rfl, .inr ⟨by omega, 0, rfl, Hp.set_same _ _ _⟩⟩
    · refine Wp.seq (Wp.block (Wp_region ?_))
      simp -implicitDefEqProofs only [vm, vs, pairUp, Nat.reduceEqDiff, Nat.reduceAdd, Nat.reduceLeDiff, reduceIte, act_bslice1, k8, ap_more h46 List.length_replicate (show k + 1 ≤ roomBytes by have : roomBytes = 140737488355328 := rfl; omega)]
      refine Wp_region ?_
      simp -implicitDefEqProofs only [vm, vs, pairUp, Nat.reduceEqDiff, Nat.reduceAdd, Nat.reduceLeDiff, reduceIte, k9, hw]
      refine Round_normal ⟨N * N - (k + 1), by omega, k + 1, by omega, rfl, k0, k1, k2, k7, rfl, .inr ⟨by omega, q + 1, rfl, ?_⟩⟩
      rw [Hp.set_same, List.replicate_succ', ]
  refine Wp.condF (by simp -implicitDefEqProofs only [vm, vs, pairUp, Nat.reduceEqDiff, Nat.reduceAdd, Nat.reduceLeDiff, reduceIte]; simp; omega) (Wp.exit ?_)
  simp -implicitDefEqProofs only [vm, vs, pairUp, Nat.reduceEqDiff, Nat.reduceAdd, Nat.reduceLeDiff, reduceIte]
  have hke : k = N * N := by omega
  rcases kc with ⟨h0, _⟩ | ⟨_, q0, k8, h46⟩
  · omega
  rw [hke] at k8 h46
  rw [bits_true] at h46
  have hin : ∀ i j : Nat, i < N → j < N → ([(i : Int), (j : Int)] : K) ∈ (ruleT t.list).U := fun i j hi hj => by rw [hU]; exact mem_pairsT.2 ⟨i, j, hi, hj, rfl⟩
  refine Wp.block (Wp.loopT (Inv := fun m e H _ => ∃ (S : K → Bool) (q : Nat), RS t N a b S e H q ∧ (∀ p, (ruleT t.list).G p → S p = true) ∧ m = (ruleT t.list).U.countP S) ?_ (n := (ruleT t.list).U.countP fun _ => true) ⟨fun _ => true, q0, ⟨k0, k1, k2, k7, k8, h46⟩, fun _ _ => rfl, rfl⟩)
  clear hcase hrep hok k0 k1 k2 k7 k9 k8 h46 n0 n1 n2 n7 n9 hw hkl hklt hk hke
  rintro m e5 H5 g5 ⟨S0, q, rs, hbig, rfl⟩
  refine ⟨rs.hok, ?_⟩
  have rs' := rs.keep (keep := [0, 1, 2, 7, 8]) rfl rfl rfl rfl rfl
  generalize keepEnv [0, 1, 2, 7, 8] [46] e5 = e6 at rs'
  generalize keepHp [46] H5 = H6 at rs'
  clear rs
  refine Wp.block (Wp.seq (Wp_region ?_))
  simp -implicitDefEqProofs only [vm, vs, pairUp, Nat.reduceEqDiff, Nat.reduceAdd, Nat.reduceLeDiff, reduceIte]
  refine Wp.seq (Wp.seq (Wp_region ?_))
  simp -implicitDefEqProofs only [vm, vs, pairUp, Nat.reduceEqDiff, Nat.reduceAdd, Nat.reduceLeDiff, reduceIte]
  refine Wp.block (Wp.loopT (Inv := fun m e H _ => ∃ (x : Nat) (S : K → Bool) (q : Nat) (gone : Bool), x ≤ N ∧ m = N - x ∧ RS t N a b S e H q ∧ e 10 = some (.bool gone) ∧ e 11 = some (.int .i64 x) ∧ Pass (ruleT t.list) S0 S gone (fun p => ∃ i j : Nat, p = [(i : Int), (j : Int)] ∧ i < x)) ?_ (n := N) ⟨0, S0, q, false, by omega, rfl, rs'.env rfl rfl rfl rfl rfl, rfl, rfl, ⟨hbig, fun h => (by cases h), fun _ => ⟨rfl, fun p _ ⟨i, j, _, h⟩ => by omega⟩⟩⟩)
  clear rs' hbig
  rintro m e7 H7 g7 ⟨x, S, q, gone, hx, rfl, rs, m10, m11, hp⟩
  refine ⟨rs.hok, ?_⟩
  have rs' := rs.keep (keep := [0, 1, 2, 7, 8, 10, 11]) rfl rfl rfl rfl rfl
  have o10 : keepEnv [0, 1, 2, 7, 8, 10, 11] [46] e7 10 = some (.bool gone) := keepEnv_some m10 rfl rfl
  have o11 : keepEnv [0, 1, 2, 7, 8, 10, 11] [46] e7 11 = some (.int .i64 x) := keepEnv_some m11 rfl rfl
  generalize keepEnv [0, 1, 2, 7, 8, 10, 11] [46] e7 = e8 at rs' o10 o11
  generalize keepHp [46] H7 = H8 at rs'
  clear rs m10 m11
  refine Wp.seq (Wp.seq (Wp_region ?_))
  simp -implicitDefEqProofs only [vm, vs, pairUp, Nat.reduceEqDiff, Nat.reduceAdd, Nat.reduceLeDiff, reduceIte, rs'.e7, o11]
  by_cases hxl : x < N
  · refine Wp.condT (by simp -implicitDefEqProofs only [vm, vs, pairUp, Nat.reduceEqDiff, Nat.reduceAdd, Nat.reduceLeDiff, reduceIte]; simp; omega) (Wp.skip ?_)
    simp -implicitDefEqProofs only [vm, vs, pairUp, Nat.reduceEqDiff, Nat.reduceAdd, Nat.reduceLeDiff, reduceIte]
    refine Wp.seq (Wp.block (Wp.seq (Wp_region ?_)))
    simp -implicitDefEqProofs only [vm, vs, pairUp, Nat.reduceEqDiff, Nat.reduceAdd, Nat.reduceLeDiff, reduceIte]
    refine Wp.block (Wp.loopT (Inv := fun m e H _ => ∃ (y : Nat) (S : K → Bool) (q : Nat) (gone : Bool), y ≤ N ∧ m = N - y ∧ RS t N a b S e H q ∧ e 10 = some (.bool gone) ∧ e 11 = some (.int .i64 x) ∧ e 12 = some (.int .i64 y) ∧ Pass (ruleT t.list) S0 S gone (fun p => ∃ i j : Nat, p = [(i : Int), (j : Int)] ∧ (i < x ∨ (i = x ∧ j < y)))) ?_ (n := N) ⟨0, S, q, gone, by omega, rfl, rs'.env rfl rfl rfl rfl rfl, o10, o11, rfl, hp.congr fun p _ ⟨i, j, h1, h2⟩ => ⟨i, j, h1, by omega⟩⟩)
    clear rs' o10 o11 hp
    rintro m e9 H9 g9 ⟨y, S, q, gone, hy, rfl, rs, m10, m11, m12, hp⟩
    refine ⟨rs.hok, ?_⟩
    have rs' := rs.keep (keep := [0, 1, 2, 7, 8, 10, 11, 12]) rfl rfl rfl rfl rfl
    have o10 : keepEnv [0, 1, 2, 7, 8, 10, 11, 12] [46] e9 10 = some (.bool gone) := keepEnv_some m10 rfl rfl
    have o11 : keepEnv [0, 1, 2, 7, 8, 10, 11, 12] [46] e9 11 = some (.int .i64 x) := keepEnv_some m11 rfl rfl
    have o12 : keepEnv [0, 1, 2, 7, 8, 10, 11, 12] [46] e9 12 = some (.int .i64 y) := keepEnv_some m12 rfl rfl
    generalize keepEnv [0, 1, 2, 7, 8, 10, 11, 12] [46] e9 = e10 at rs' o10 o11 o12
    generalize keepHp [46] H9 = H10 at rs'
    clear rs m10 m11 m12
    refine Wp.seq (Wp.seq (Wp_region ?_))
    simp -implicitDefEqProofs only [vm, vs, pairUp, Nat.reduceEqDiff, Nat.reduceAdd, Nat.reduceLeDiff, reduceIte, rs'.e7, o12]
    by_cases hyl : y < N
    · refine Wp.condT (by simp -implicitDefEqProofs only [vm, vs, pairUp, Nat.reduceEqDiff, Nat.reduceAdd, Nat.reduceLeDiff, reduceIte]; simp; omega) (Wp.skip ?_)
      simp -implicitDefEqProofs only [vm, vs, pairUp, Nat.reduceEqDiff, Nat.reduceAdd, Nat.reduceLeDiff, reduceIte]
      have hx' : 0 ≤ (x : Int) ∧ (x : Int) < N := by omega
      have hy' : 0 ≤ (y : Int) ∧ (y : Int) < N := by omega
      have hwy := wrap_nat (n := y) (by have : maxLen = 9223372036854775807 := rfl; omega)
      have hpin := hin x y hxl hyl
      have hlook : (bitsL N S)[(x : Int).toNat * N + (y : Int).toNat]? = some [.bool (S [(x : Int), (y : Int)])] := look_bit hx' hy'
      have hdone : ∀ p ∈ (ruleT t.list).U, (∃ i j : Nat, p = [(i : Int), (j : Int)] ∧ (i < x ∨ (i = x ∧ j < y + 1))) → ((∃ i j : Nat, p = [(i : Int), (j : Int)] ∧ (i < x ∨ (i = x ∧ j < y))) ∨ p = [(x : Int), (y : Int)]) := fun p _ ⟨i, j, h1, h2⟩ => by
        rcases h2 with h2 | ⟨rfl, h2⟩
        · exact .inl ⟨i, j, h1, .inl h2⟩
        · by_cases hjy : j < y
          · exact .inl ⟨i, j, h1, .inr ⟨rfl, hjy⟩⟩
          · have : j = y := by omega
            subst this
            exact .inr h1
      cases a1 : S [(x : Int), (y : Int)] with
      | false =>
        rw [a1] at hlook
        refine Wp.seq (Wp.block (Wp.seq (Wp_region ?_)))
        simp -implicitDefEqProofs only [vm, vs, pairUp, Nat.reduceEqDiff, Nat.reduceAdd, Nat.reduceLeDiff, reduceIte, rs'.e7, rs'.e8, o11, o12, idx_wrap hn200 hx' hy', ia_arr hx' hy' rs'.h, rs'.h, hlook, Option.map_some, List.drop_zero]
        refine Wp.condF (by simp -implicitDefEqProofs only [vm, vs, pairUp, Nat.reduceEqDiff, Nat.reduceAdd, Nat.reduceLeDiff, reduceIte]) (Wp.skip ?_)
        simp -implicitDefEqProofs only [vm, vs, pairUp, Nat.reduceEqDiff, Nat.reduceAdd, Nat.reduceLeDiff, reduceIte]
        refine Wp_region ?_
        simp -implicitDefEqProofs only [vm, vs, pairUp, Nat.reduceEqDiff, Nat.reduceAdd, Nat.reduceLeDiff, reduceIte, o12, hwy]
        exact Round_normal ⟨N - (y + 1), by omega, y + 1, S, q, gone, by omega, rfl, rs'.env rfl rfl rfl rfl rfl, o10, o11, rfl, (hp.skip (p := [(x : Int), (y : Int)]) (fun h => by rw [a1] at h; cases h)).congr hdone⟩
      | true =>
        rw [a1] at hlook
        have hfrz : frzL frz H10 [slD encTy t, .arr 46 q (N * N), .int .i64 (x : Int), .int .i64 (y : Int)] = some ([slD encTy t, bitsD N S, .int .i64 (x : Int), .int .i64 (y : Int)], H10.set 46 (.farr 1 q (bitsL N S))) := by
          simp -implicitDefEqProofs only [vm, vs, pairUp, Nat.reduceEqDiff, Nat.reduceAdd, Nat.reduceLeDiff, reduceIte, frz_bits rs'.h]
        cases a2 : res2 t.list x y ((asks2 t.list x y).map S) with
        | true =>
          refine Wp.seq (Wp.block (Wp.seq (Wp_region ?_)))
          simp -implicitDefEqProofs only [vm, vs, pairUp, Nat.reduceEqDiff, Nat.reduceAdd, Nat.reduceLeDiff, reduceIte, rs'.e0, rs'.e7, rs'.e8, o11, o12, idx_wrap hn200 hx' hy', ia_arr hx' hy' rs'.h, rs'.h, hlook, Option.map_some, List.drop_zero, sh_TT, shTy, hfrz, hrule S x y hxl hyl, a2]
          refine Wp.condF (by simp -implicitDefEqProofs only [vm, vs, pairUp, Nat.reduceEqDiff, Nat.reduceAdd, Nat.reduceLeDiff, reduceIte]) (Wp.skip ?_)
          simp -implicitDefEqProofs only [vm, vs, pairUp, Nat.reduceEqDiff, Nat.reduceAdd, Nat.reduceLeDiff, reduceIte]
          refine Wp_region ?_
          simp -implicitDefEqProofs only [vm, vs, pairUp, Nat.reduceEqDiff, Nat.reduceAdd, Nat.reduceLeDiff, reduceIte, o12, hwy]
          exact Round_normal ⟨N - (y + 1), by omega, y + 1, S, q, gone, by omega, rfl, rs'.env rfl rfl rfl rfl rfl, o10, o11, rfl, (hp.skip (p := [(x : Int), (y : Int)]) (fun _ => a2)).congr hdone⟩
        | false =>
          refine Wp.seq (Wp.block (Wp.seq (Wp_region ?_)))
          simp -implicitDefEqProofs only [vm, vs, pairUp, Nat.reduceEqDiff, Nat.reduceAdd, Nat.reduceLeDiff, reduceIte, rs'.e0, rs'.e7, rs'.e8, o11, o12, idx_wrap hn200 hx' hy', ia_arr hx' hy' rs'.h, rs'.h, hlook, Option.map_some, List.drop_zero, sh_TT, shTy, hfrz, hrule S x y hxl hyl, a2]
          refine Wp.condT (by simp -implicitDefEqProofs only [vm, vs, pairUp, Nat.reduceEqDiff, Nat.reduceAdd, Nat.reduceLeDiff, reduceIte]) (Wp.seq (Wp_region ?_))
          simp -implicitDefEqProofs only [vm, vs, pairUp, Nat.reduceEqDiff, Nat.reduceAdd, Nat.reduceLeDiff, reduceIte, rs'.e7, rs'.e8, o11, o12, idx_wrap hn200 hx' hy', ia_arr hx' hy' rs'.h, rs'.h, storeA_at hlook]
          refine Wp_region ?_
          simp -implicitDefEqProofs only [vm, vs, pairUp, Nat.reduceEqDiff, Nat.reduceAdd, Nat.reduceLeDiff, reduceIte]
          refine Wp_region ?_
          simp -implicitDefEqProofs only [vm, vs, pairUp, Nat.reduceEqDiff, Nat.reduceAdd, Nat.reduceLeDiff, reduceIte, o12, hwy]
          refine Round_normal ⟨N - (y + 1), by omega, y + 1, upd S [(x : Int), (y : Int)] false, q, true, by omega, rfl, ⟨rs'.e0, rs'.e1, rs'.e2, rs'.e7, rs'.e8, ?_⟩, rfl, o11, rfl, hp.drop hRok hpin a1 a2 _⟩
          rw [Hp.set_same, ← bits_set hxl hyl]
          rfl
    · refine Wp.condF (by simp -implicitDefEqProofs only [vm, vs, pairUp, Nat.reduceEqDiff, Nat.reduceAdd, Nat.reduceLeDiff, reduceIte]; simp; omega) (Wp.exit ?_)
      simp -implicitDefEqProofs only [vm, vs, pairUp, Nat.reduceEqDiff, Nat.reduceAdd, Nat.reduceLeDiff, reduceIte]
      have hwx := wrap_nat (n := x) (by have : maxLen = 9223372036854775807 := rfl; omega)
      refine Wp_region ?_
      simp -implicitDefEqProofs only [vm, vs, pairUp, Nat.reduceEqDiff, Nat.reduceAdd, Nat.reduceLeDiff, reduceIte, o11, hwx]
      have hye : y = N := by omega
      subst hye
      refine Round_normal ⟨y - (x + 1), by omega, x + 1, S, q, gone, by omega, rfl, rs'.env rfl rfl rfl rfl rfl, o10, rfl, hp.congr fun p hpU ⟨i, j, h1, h2⟩ => ⟨i, j, h1, ?_⟩⟩
      rw [hU] at hpU
      obtain ⟨i', j', hi', hj', h3⟩ := mem_pairsT.1 hpU
      rw [h1] at h3
      simp at h3
      omega
  · refine Wp.condF (by simp -implicitDefEqProofs only [vm, vs, pairUp, Nat.reduceEqDiff, Nat.reduceAdd, Nat.reduceLeDiff, reduceIte]; simp; omega) (Wp.exit ?_)
    simp -implicitDefEqProofs only [vm, vs, pairUp, Nat.reduceEqDiff, Nat.reduceAdd, Nat.reduceLeDiff, reduceIte]
    have hxe : x = N := by omega
    subst hxe
    have hp' : Pass (ruleT t.list) S0 S gone (fun _ => True) := hp.congr fun p hpU _ => by
      rw [hU] at hpU
      obtain ⟨i', j', hi', hj', h3⟩ := mem_pairsT.1 hpU
      exact ⟨i', j', h3, hi'⟩
    refine Wp.seq (Wp_region ?_)
    simp -implicitDefEqProofs only [vm, vs, pairUp, Nat.reduceEqDiff, Nat.reduceAdd, Nat.reduceLeDiff, reduceIte, o10]
    cases gone with
    | true =>
      refine Wp.condF (by simp -implicitDefEqProofs only [vm, vs, pairUp, Nat.reduceEqDiff, Nat.reduceAdd, Nat.reduceLeDiff, reduceIte]) (Wp.skip ?_)
      simp -implicitDefEqProofs only [vm, vs, pairUp, Nat.reduceEqDiff, Nat.reduceAdd, Nat.reduceLeDiff, reduceIte]
      exact Round_normal ⟨_, hp.lt rfl, S, q, rs'.env rfl rfl rfl rfl rfl, hp.big, rfl⟩
    | false =>
      refine Wp.condT (by simp -implicitDefEqProofs only [vm, vs, pairUp, Nat.reduceEqDiff, Nat.reduceAdd, Nat.reduceLeDiff, reduceIte]) (Wp.seq (Wp_region ?_))
      simp -implicitDefEqProofs only [vm, vs, pairUp, Nat.reduceEqDiff, Nat.reduceAdd, Nat.reduceLeDiff, reduceIte, rs'.e1, rs'.e2, rs'.e7, rs'.e8, idx_wrap hn200 hia' hib', ia_arr hia' hib' rs'.h, rs'.h, look_bit hia' hib', Option.map_some, List.drop_zero]
      refine Wp.ret ?_
      simp -implicitDefEqProofs only [vm, vs, pairUp, Nat.reduceEqDiff, Nat.reduceAdd, Nat.reduceLeDiff, reduceIte]
      have hab : ([a, b] : K) ∈ (ruleT t.list).U := by
        have := hin a.toNat b.toNat (by omega) (by omega)
        rw [Int.toNat_of_nonneg hia'.1, Int.toNat_of_nonneg hib'.1] at this
        exact this
      have hf := hp'.fin hRok hab
      cases hS : S [a, b] with
      | true => rw [dec_true (show SubP t.list a b from ⟨hm, hia, hib, hf.1 hS⟩)]
      | false =>
        rw [dec_false (fun h : SubP t.list a b => by rw [hf.2 h.2.2.2] at hS; cases hS)]
end Go.VM
