/-
  The functions that Sub's rule hands to all.
-/
import Derived.Test.YtbkiekkconlebaaM5
import Derived.Test.YtbkiekkconlebaaTyS1
set_option linter.all false
set_option linter.all false
set_option maxRecDepth 100000
namespace Go.VM
open Go Go.Sv

theorem holdT2 : HoldT TT 2 16 [.int .i64 0, .int .i64 0] 121 := ⟨rfl, rfl, rfl, by omega, by omega⟩
theorem len2 (a b : Int) : ([a, b] : K).length = 2 := rfl
theorem enc2 (a b : Int) : enc [a, b] = [.int .i64 a, .int .i64 b] := rfl
theorem set2 (a b : Int) : setParts [.int .i64 0, .int .i64 0] [(0, 1, .int .i64 a), (1, 1, .int .i64 b)] = some (enc [a, b]) := rfl

/-- What an asker is handed: who asks, the function, the pair. -/
structure Ctx2 (B N kb hb pb : Nat) (a b : Int) (H : Hp) : Prop where
  hk : H kb = some (.vars (enc [a, b]))
  hh : H hb = some (.vars [.fnS 121 [.box (B + 5) 0, .box (B + 6) 0, .box kb 0]])
  hp : H pb = some (.vars (enc [a, b]))
  k0 : B + 4096 ≤ kb ∧ kb < N
  h0 : B + 4096 ≤ hb ∧ hb < N
  p0 : B + 4096 ≤ pb ∧ pb < N
theorem keep_v {B N : Nat} {H H' : Hp} (h : Frame B N H H') {j : Nat} {cs : List D} (hj : H j = some (.vars cs)) (j0 : B + 4096 ≤ j ∧ j < N) : H' j = some (.vars cs) := by
  rw [h j j0.2 (by omega) (by omega) (by omega) (by rw [hj]; simp)]; exact hj
theorem Ctx2.keep {B N kb hb pb : Nat} {a b : Int} {H H' : Hp} (h : Ctx2 B N kb hb pb a b H) (hf : Frame B N H H') : Ctx2 B N kb hb pb a b H' :=
  ⟨keep_v hf h.hk h.k0, keep_v hf h.hh h.h0, keep_v hf h.hp h.p0, h.k0, h.h0, h.p0⟩

variable {B N kb hb pb : Nat} {a b : Int} {rule : D}
theorem left_ask (hN : B + 4096 ≤ N) (e : Int) : AskOk TT 2 16 B N rule (Ctx2 B N kb hb pb a b) [a, b] 61 [.int .i64 e, .box hb 0, .box pb 0] [[e, b]] (fun v => v [e, b]) := by
  refine AskOk.of fun H n s hC hr hd hn h1 h2 => ?_
  obtain ⟨H', g', c1, c2, c3, c4, s', c5, c6⟩ := hold_ask (T := TT) (by_ := 16) (rule := rule) (kb := kb) (o := [e, b]) holdT2 hN (len2 a b) (len2 e b) H (n + 4096) s hC.hk hr (hd.mono (by omega)) (by omega) h1 h2
  refine fnS_of (vf := v61) rfl rfl (by rfl) rfl ?_
  unfold v61
  refine Wp.seq (Wp_region ?_)
  simp -implicitDefEqProofs only [vm, vs, pairUp, Nat.reduceEqDiff, Nat.reduceAdd, Nat.reduceLeDiff, reduceIte]
  refine Wp.seq (Wp_region ?_)
  have f4096 : roomKeys = 4096 := rfl
  simp -implicitDefEqProofs only [vm, vs, pairUp, Nat.reduceEqDiff, Nat.reduceAdd, Nat.reduceLeDiff, reduceIte, hC.hh, hC.hp, enc2, set2, f4096, List.drop_succ_cons, List.drop_zero, List.cons_append, List.nil_append, List.getElem?_cons_zero, List.getElem?_cons_succ]
  simp only [enc2] at c1
  rw [c1]
  simp -implicitDefEqProofs only [vm, vs, pairUp, Nat.reduceEqDiff, Nat.reduceAdd, Nat.reduceLeDiff, reduceIte]
  refine Wp.ret ?_
  simp only [EndsP_ret, rawD_tmp, rawD_nil, consO_some, rawO_some, tupD_one, set_eq, Nat.reduceEqDiff, if_true, if_false]
  exact ⟨trivial, by omega, c3, c4.mono (by omega), s', c5, c6⟩
theorem right_ask (hN : B + 4096 ≤ N) (e : Int) : AskOk TT 2 16 B N rule (Ctx2 B N kb hb pb a b) [a, b] 62 [.int .i64 e, .box hb 0, .box pb 0] [[a, e]] (fun v => !v [a, e]) := by
  refine AskOk.of fun H n s hC hr hd hn h1 h2 => ?_
  obtain ⟨H', g', c1, c2, c3, c4, s', c5, c6⟩ := hold_ask (T := TT) (by_ := 16) (rule := rule) (kb := kb) (o := [a, e]) holdT2 hN (len2 a b) (len2 a e) H (n + 4096) s hC.hk hr (hd.mono (by omega)) (by omega) h1 h2
  refine fnS_of (vf := v62) rfl rfl (by rfl) rfl ?_
  unfold v62
  refine Wp.seq (Wp_region ?_)
  simp -implicitDefEqProofs only [vm, vs, pairUp, Nat.reduceEqDiff, Nat.reduceAdd, Nat.reduceLeDiff, reduceIte]
  refine Wp.seq (Wp_region ?_)
  have f4096 : roomKeys = 4096 := rfl
  simp -implicitDefEqProofs only [vm, vs, pairUp, Nat.reduceEqDiff, Nat.reduceAdd, Nat.reduceLeDiff, reduceIte, hC.hh, hC.hp, enc2, set2, f4096, List.drop_succ_cons, List.drop_zero, List.cons_append, List.nil_append, List.getElem?_cons_zero, List.getElem?_cons_succ]
  simp only [enc2] at c1
  rw [c1]
  simp -implicitDefEqProofs only [vm, vs, pairUp, Nat.reduceEqDiff, Nat.reduceAdd, Nat.reduceLeDiff, reduceIte]
  refine Wp.ret ?_
  simp only [EndsP_ret, rawD_tmp, rawD_nil, consO_some, rawO_some, tupD_one, set_eq, Nat.reduceEqDiff, if_true, if_false]
  exact ⟨trivial, by omega, c3, c4.mono (by omega), s', c5, c6⟩

/-- With the left type's look. -/
structure Ctx3 (B N kb hb pb xb : Nat) (a b : Int) (x : Ty) (H : Hp) : Prop extends Ctx2 B N kb hb pb a b H where
  hx : H xb = some (.vars (encTy x))
  x0 : B + 4096 ≤ xb ∧ xb < N
theorem Ctx3.keep {B N kb hb pb xb : Nat} {a b : Int} {x : Ty} {H H' : Hp} (h : Ctx3 B N kb hb pb xb a b x H) (hf : Frame B N H H') : Ctx3 B N kb hb pb xb a b x H' :=
  ⟨h.toCtx2.keep hf, keep_v hf h.hx h.x0, h.x0⟩
noncomputable def valF (l : List TF) (f : TF) (v : K → Bool) : Bool := match fieldGet l f.name with
  | some n => v [n, f.type]
  | none => false
theorem field_ask {xb : Nat} {x : Ty} (hx : Rising TF.name x.fields.list) (hN : B + 4096 ≤ N) (f : TF) : AskOk TT 2 16 B N rule (Ctx3 B N kb hb pb xb a b x) [a, b] 64 [.agg (encTF f), .box xb 0, .box hb 0] (askF x.fields.list f) (valF x.fields.list f) := by
  refine AskOk.of fun H n s hC hr hd hn h1 h2 => ?_
  have f4096 : roomKeys = 4096 := rfl
  refine fnS_of (vf := v64) rfl rfl (by rfl) rfl ?_
  unfold v64
  have f3 : H (n + 3) = none := hd _ (by omega)
  refine Wp.seq (Wp_region ?_)
  simp -implicitDefEqProofs only [vm, vs, pairUp, Nat.reduceEqDiff, Nat.reduceAdd, Nat.reduceLeDiff, reduceIte, f3, encTF]
  have n3 : (xb = n + 3) = False := by simp; have := hC.x0; omega
  have hx' : partD true 3 (encTy x) = some (.agg (encTy x)) := by rfl
  have hf : frzL frz (H.set (n + 3) (.vars [.str f.name, .int .i64 f.type])) [.agg (encTy x), .str f.name] = some ([.agg (encTy x), .str f.name], H.set (n + 3) (.vars [.str f.name, .int .i64 f.type])) := by simp -implicitDefEqProofs only [vm, vs, pairUp, Nat.reduceEqDiff, Nat.reduceAdd, Nat.reduceLeDiff, reduceIte, encTy]
  have hsc : (fieldD x.fields.list f.name).scalar = true := rfl
  have hpl : (fieldD x.fields.list f.name).plain = true := rfl
  have hk' : ∀ {j : Nat} {cs : List D}, H j = some (.vars cs) → (B + 4096 ≤ j ∧ j < N) → (H.set (n + 3) (.vars [.str f.name, .int .i64 f.type])) j = some (.vars cs) := fun {j cs} hj j0 => by rw [Hp.set_other _ _ (by omega)]; exact hj
  have hr1 : Rep 2 B rule (H.set (n + 3) (.vars [.str f.name, .int .i64 f.type])) s := hr.set (by omega) (fun a d e => by rw [f3]; simp)
  have hfr1 : Frame B n H (H.set (n + 3) (.vars [.str f.name, .int .i64 f.type])) := Frame.set (.inr (.inr (.inr (.inl (by omega)))))
  have hd1 : Dom (H.set (n + 3) (.vars [.str f.name, .int .i64 f.type])) (n + 4096) := (hd.mono (by omega)).set (by omega)
  have hhb := hk' hC.hh hC.h0
  have hxb := hk' hC.hx hC.x0
  have hfb : (H.set (n + 3) (.vars [.str f.name, .int .i64 f.type])) (n + 3) = some (.vars [.str f.name, .int .i64 f.type]) := Hp.set_same _ _ _
  generalize (H.set (n + 3) (.vars [.str f.name, .int .i64 f.type])) = H1 at hf hk' hr1 hfr1 hd1 hhb hxb hfb ⊢
  cases hg : fieldGet x.fields.list f.name with
  | none =>
    have hfd : fieldD x.fields.list f.name = .tup [.int .i64 0, .bool false] := by unfold fieldD; rw [hg]; rfl
    refine Wp.seq (Wp_region ?_)
    simp -implicitDefEqProofs only [vm, vs, pairUp, Nat.reduceEqDiff, Nat.reduceAdd, Nat.reduceLeDiff, reduceIte, hfb, hxb, hx', if_false, if_true, sh_TT, shTy, hf, field_c x f.name hx, hsc, hpl, f4096, List.getElem?_cons_zero, List.getElem?_cons_succ]
    simp only [hfd]
    simp -implicitDefEqProofs only [vm, vs, pairUp, Nat.reduceEqDiff, Nat.reduceAdd, Nat.reduceLeDiff, reduceIte, List.getElem?_cons_zero, List.getElem?_cons_succ]
    refine Wp.seq (Wp_region ?_)
    simp -implicitDefEqProofs only [vm, vs, pairUp, Nat.reduceEqDiff, Nat.reduceAdd, Nat.reduceLeDiff, reduceIte]
    refine Wp.ret ?_
    simp only [EndsP_ret, rawD_tmp, rawD_nil, consO_some, rawO_some, tupD_one, set_eq, Nat.reduceEqDiff, if_true, if_false]
    refine ⟨by simp only [valF, hg], by omega, hd1, hfr1, s, hr1, by simp only [askF, hg]; rfl⟩
  | some m =>
    have hfd : fieldD x.fields.list f.name = .tup [.int .i64 m, .bool true] := by unfold fieldD; rw [hg]; rfl
    have ho : askF x.fields.list f = [[m, f.type]] := by simp only [askF, hg]
    rw [ho] at h1 h2
    obtain ⟨H', g', c1, c2, c3, c4, s', c5, c6⟩ := hold_ask (T := TT) (by_ := 16) (rule := rule) (kb := kb) (o := [m, f.type]) holdT2 hN (len2 a b) (len2 m f.type) H1 (n + 4096) s (hk' hC.hk hC.k0) hr1 hd1 (by omega) h1 h2
    simp only [enc2] at c1
    refine Wp.seq (Wp_region ?_)
    simp -implicitDefEqProofs only [vm, vs, pairUp, Nat.reduceEqDiff, Nat.reduceAdd, Nat.reduceLeDiff, reduceIte, hfb, hxb, hx', if_false, if_true, sh_TT, shTy, hf, field_c x f.name hx, hsc, hpl, f4096, List.getElem?_cons_zero, List.getElem?_cons_succ]
    simp only [hfd]
    simp -implicitDefEqProofs only [vm, vs, pairUp, Nat.reduceEqDiff, Nat.reduceAdd, Nat.reduceLeDiff, reduceIte, List.getElem?_cons_zero, List.getElem?_cons_succ]
    refine Wp.seq (Wp_region ?_)
    simp -implicitDefEqProofs only [vm, vs, pairUp, Nat.reduceEqDiff, Nat.reduceAdd, Nat.reduceLeDiff, reduceIte, hhb, hfb, enc2, set2, List.drop_succ_cons, List.drop_zero, List.cons_append, List.nil_append]
    rw [c1]
    simp -implicitDefEqProofs only [vm, vs, pairUp, Nat.reduceEqDiff, Nat.reduceAdd, Nat.reduceLeDiff, reduceIte]
    refine Wp.ret ?_
    simp only [EndsP_ret, rawD_tmp, rawD_nil, consO_some, rawO_some, tupD_one, set_eq, Nat.reduceEqDiff, if_true, if_false]
    refine ⟨by simp only [valF, hg], by omega, c3, hfr1.trans (c4.mono (by omega)), s', c5, by rw [ho]; exact c6⟩
end Go.VM
