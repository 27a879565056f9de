/-
  In's rule asks as the rule does.
-/
import Derived.Test.YtbkiekkconlebaaTySI1
import Derived.KernelRfl
set_option linter.all false
set_option linter.all false
set_option maxRecDepth 100000
set_option maxHeartbeats 4000000
namespace Go.VM
open Go Go.Sv

theorem holdT3 : HoldT TT 3 24 [.int .i64 0, .int .i64 0, .int .i64 0] 126 := ⟨rfl, rfl, rfl, by omega, by omega⟩
theorem set3 (a b c : Int) : setParts [.int .i64 0, .int .i64 0, .int .i64 0] [(0, 2, .agg [.int .i64 a, .int .i64 b]), (2, 1, .int .i64 c)] = some [.int .i64 a, .int .i64 b, .int .i64 c] := rfl
theorem encK (v : Va) (x : Int) : enc (keyV v x) = [.int .i64 v.kind, .int .i64 v.n, .int .i64 x] := rfl
theorem lenK (v : Va) (x : Int) : (keyV v x).length = 3 := rfl
structure CtxI (B N kb hb pb : Nat) (v : Va) (x : Int) (s : SlOf Ob) (H : Hp) : Prop where
  hk : H kb = some (.vars (enc (keyV v x)))
  hh : H hb = some (.vars [.fnS 126 [.box (B + 5) 0, .box (B + 6) 0, .box kb 0]])
  hp : H pb = some (.vars (enc (keyV v x)))
  hs : H 5 = some (.vars [slD encOb s])
  k0 : B + 4096 ≤ kb ∧ kb < N
  h0 : B + 4096 ≤ hb ∧ hb < N
  p0 : B + 4096 ≤ pb ∧ pb < N
  b0 : 4096 ≤ B ∧ B ≤ N
theorem CtxI.keep {B N kb hb pb : Nat} {v : Va} {x : Int} {s : SlOf Ob} {H H' : Hp} (h : CtxI B N kb hb pb v x s H) (hf : Frame B N H H') : CtxI B N kb hb pb v x s H' :=
  ⟨keep_v hf h.hk h.k0, keep_v hf h.hh h.h0, keep_v hf h.hp h.p0, by
    have := h.b0
    rw [hf 5 (by omega) (by omega) (by omega) (by omega) (by rw [h.hs]; simp)]; exact h.hs, h.k0, h.h0, h.p0, h.b0⟩

variable {B N kb hb pb : Nat} {v : Va} {x : Int} {s : SlOf Ob} {rule : D}
theorem or_ask (hN : B + 4096 ≤ N) (e : Int) : AskOk TT 3 24 B N rule (CtxI B N kb hb pb v x s) (keyV v x) 71 [.int .i64 e, .box hb 0, .box pb 0] [keyV v e] (fun w => !w (keyV v e)) := by
  refine AskOk.of fun H n s1 hC hr hd hn h1 h2 => ?_
  obtain ⟨H', g', c1, c2, c3, c4, s', c5, c6⟩ := hold_ask (T := TT) (by_ := 24) (rule := rule) (kb := kb) (o := keyV v e) holdT3 hN (lenK v x) (lenK v e) H (n + 4096) s1 hC.hk hr (hd.mono (by omega)) (by omega) h1 h2
  have p2 : ∀ a b c : D, partD true 2 [a, b, c] = some (.agg [a, b]) := fun _ _ _ => rfl
  refine fnS_of (vf := v71) rfl rfl (by rfl) rfl ?_
  unfold v71
  refine Wp.seq (Wp_region ?_)
  simp -implicitDefEqProofs only [vm, vs, pairUp, Nat.reduceEqDiff, Nat.reduceAdd, Nat.reduceLeDiff, reduceIte]
  refine Wp.seq (Wp_region ?_)
  have f4096 : roomKeys = 4096 := rfl
  simp -implicitDefEqProofs only [vm, vs, pairUp, Nat.reduceEqDiff, Nat.reduceAdd, Nat.reduceLeDiff, reduceIte, hC.hh, hC.hp, encK, set3, p2, f4096, List.drop_succ_cons, List.drop_zero, List.cons_append, List.nil_append, List.getElem?_cons_zero, List.getElem?_cons_succ]
  simp only [encK] at c1
  rw [c1]
  simp -implicitDefEqProofs only [vm, vs, pairUp, Nat.reduceEqDiff, Nat.reduceAdd, Nat.reduceLeDiff, reduceIte]
  refine Wp.ret ?_
  simp only [EndsP_ret, rawD_tmp, rawD_nil, consO_some, rawO_some, tupD_one, set_eq, Nat.reduceEqDiff, if_true, if_false]
  exact ⟨trivial, by omega, c3, c4.mono (by omega), s', c5, c6⟩

noncomputable def valL (s : List Ob) (v : Va) (f : TF) (w : K → Bool) : Bool := match look1 s v f.name with
  | some u => w (keyV u f.type)
  | none => false
theorem prop_ask (hS : StoreP s.list) (hN : B + 4096 ≤ N) (f : TF) : AskOk TT 3 24 B N rule (CtxI B N kb hb pb v x s) (keyV v x) 72 [.agg (encTF f), .box 5 0, .box pb 0, .box hb 0] (askLk s.list v f) (valL s.list v f) := by
  refine AskOk.of fun H n s1 hC hr hd hn h1 h2 => ?_
  have f4096 : roomKeys = 4096 := rfl
  have p2 : ∀ a b c : D, partD true 2 [a, b, c] = some (.agg [a, b]) := fun _ _ _ => rfl
  have p2' : ∀ a b : D, partD true 2 [a, b] = some (.agg [a, b]) := fun _ _ => rfl
  refine fnS_of (vf := v72) rfl rfl (by rfl) rfl ?_
  unfold v72
  have f4 : H (n + 4) = none := hd _ (by omega)
  have f6 : H (n + 6) = none := hd _ (by omega)
  refine Wp.seq (Wp_region ?_)
  simp -implicitDefEqProofs only [vm, vs, pairUp, Nat.reduceEqDiff, Nat.reduceAdd, Nat.reduceLeDiff, reduceIte, f4, encTF]
  have hlc := fun u => look_c s hS v f.name u
  simp only [encVa] at hlc
  have hfz : ∀ H : Hp, frzL frz H [slD encOb s, .agg [.int .i64 v.kind, .int .i64 v.n], .str f.name] = some ([slD encOb s, .agg [.int .i64 v.kind, .int .i64 v.n], .str f.name], H) := fun H => by simp -implicitDefEqProofs only [vm, vs, pairUp, Nat.reduceEqDiff, Nat.reduceAdd, Nat.reduceLeDiff, reduceIte]
  have n4 : (pb = n + 4) = False := by simp; have := hC.p0; omega
  have n5 : ((5 : Nat) = n + 4) = False := by simp; have := hC.b0; omega
  have hget : ∀ w : Option Va, lookD w = .tup [.agg [.int .i64 (w.getD va0).kind, .int .i64 (w.getD va0).n], .bool w.isSome] := fun w => rfl
  have hpl : ∀ w : Option Va, (lookD w).plain = true ∧ (lookD w).scalar = true := fun w => ⟨rfl, rfl⟩
  generalize hw : look1 s.list v f.name = w at hlc
  have hpw := hpl w
  rw [hget] at hlc hpw
  refine Wp.seq (Wp_region ?_)
  simp -implicitDefEqProofs only [vm, vs, pairUp, Nat.reduceEqDiff, Nat.reduceAdd, Nat.reduceLeDiff, reduceIte, hset_eq, n4, n5, Nat.add_left_cancel_iff, Nat.reduceEqDiff, if_true, if_false, hC.hs, hC.hp, encK, p2, List.drop_zero, sh_TT, shTy, hfz, hlc, hpw.1, hpw.2, List.getElem?_cons_zero, List.getElem?_cons_succ, f6, f4096]
  generalize hH1 : (((H.set (n + 4) (.vars [.str f.name, .int .i64 f.type])).set (n + 6) (.vars [.int .i64 0, .int .i64 0])).set (n + 6) (.vars [.int .i64 (w.getD va0).kind, .int .i64 (w.getD va0).n])) = H1
  have hk' : ∀ {j : Nat}, j < n → H1 j = H j := fun {j} hj => by
    rw [← hH1]
    repeat rw [Hp.set_other _ _ (by omega)]
  have g4 : H1 (n + 4) = some (.vars [.str f.name, .int .i64 f.type]) := by rw [← hH1]; simp [hset_eq]
  have g6 : H1 (n + 6) = some (.vars [.int .i64 (w.getD va0).kind, .int .i64 (w.getD va0).n]) := by rw [← hH1]; simp [hset_eq]
  have hhb : H1 hb = some (.vars [.fnS 126 [.box (B + 5) 0, .box (B + 6) 0, .box kb 0]]) := by rw [hk' (by have := hC.h0; omega)]; exact hC.hh
  have hkb : H1 kb = some (.vars (enc (keyV v x))) := by rw [hk' (by have := hC.k0; omega)]; exact hC.hk
  have hr1 : Rep 3 B rule H1 s1 := by
    refine hr.congr (hk' (by omega)) (hk' (by omega)) (hk' (by omega)) (hk' (by omega)) (hk' (by omega)) (fun m a b c hm => hk' ?_)
    rcases Nat.lt_or_ge m n with h | h
    · exact h
    · rw [hd m h] at hm; cases hm
  have hd1 : Dom H1 (n + 4096) := by rw [← hH1]; exact ((((hd.mono (Nat.le_add_right n 4096)).set (by omega)).set (by omega)).set (by omega))
  have hf1 : Frame B n H H1 := fun m hm _ _ _ _ => hk' hm
  cases w with
  | none =>
    refine Wp.seq (Wp_region ?_)
    simp -implicitDefEqProofs only [vm, vs, pairUp, Nat.reduceEqDiff, Nat.reduceAdd, Nat.reduceLeDiff, reduceIte, Option.isSome_none]
    refine Wp.ret ?_
    simp only [EndsP_ret, rawD_tmp, rawD_nil, consO_some, rawO_some, tupD_one, set_eq, Nat.reduceEqDiff, if_true, if_false]
    refine ⟨by simp only [valL, hw], by omega, hd1, hf1, s1, hr1, by simp only [askLk, hw]; rfl⟩
  | some u =>
    have ho : askLk s.list v f = [keyV u f.type] := by simp only [askLk, hw]
    rw [ho] at h1 h2
    obtain ⟨H', g', c1, c2, c3, c4, s', c5, c6⟩ := hold_ask (T := TT) (by_ := 24) (rule := rule) (kb := kb) (o := keyV u f.type) holdT3 hN (lenK v x) (lenK u f.type) H1 (n + 4096) s1 hkb hr1 hd1 (by omega) h1 h2
    simp only [encK] at c1
    refine Wp.seq (Wp_region ?_)
    simp -implicitDefEqProofs only [vm, vs, pairUp, Nat.reduceEqDiff, Nat.reduceAdd, Nat.reduceLeDiff, reduceIte, Option.isSome_some, Option.getD_some, hhb, g4, g6, p2', set3, List.drop_succ_cons, List.drop_zero, List.cons_append, List.nil_append] at c1 ⊢
    rw [c1]
    simp -implicitDefEqProofs only [vm, vs, pairUp, Nat.reduceEqDiff, Nat.reduceAdd, Nat.reduceLeDiff, reduceIte]
    refine Wp.ret ?_
    simp only [EndsP_ret, rawD_tmp, rawD_nil, consO_some, rawO_some, tupD_one, set_eq, Nat.reduceEqDiff, if_true, if_false]
    refine ⟨by simp only [valL, hw], by omega, c3, hf1.trans (c4.mono (by omega)), s', c5, by rw [ho]; exact c6⟩
end Go.VM
