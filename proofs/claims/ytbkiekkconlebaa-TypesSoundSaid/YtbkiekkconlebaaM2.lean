/-
  Each operation of the small machine is what the program does. No condition.
-/
import Derived.Test.YtbkiekkconlebaaM1
import Derived.Laws.StructEq
import Derived.MapKept
set_option linter.all false
section
namespace Go.VM
open Go Go.RowKit

variable {gh : Gh} {σ : Sg} {H H' : Hp} {I : Im} {g : Nat × gh.G} {w : World} {P : Program}

def OpRuns (P : Program) (o : Oper) (a : Act) (w : World) (v : Value) (w' : World) : Prop :=
  (execOp a.eval o).run P w = .ok (.value v) w' ∨ ((execOp a.eval o).run P w = .ok .skip w' ∧ v = Go.undef)

theorem OpRuns.wp {o : Oper} {a : Act} {v : Value} {w' : World} {K : Act → World → Prop} {Q : Exit → Act → World → Prop} (h : OpRuns P o a w v w') (hK : K (a.put o.dst v) w') : o.wp P a w K Q := by
  unfold Oper.wp
  rcases h with h | ⟨h, rfl⟩
  · rw [h]; exact hK
  · rw [h]; exact hK

/-- The slots. -/
structure EnvOk (σ : Sg) (H : Hp) (I : Im) (w : World) (n : Nat) (e : Env) (tm : Array Value) : Prop where
  size : tm.size = n
  at_ : ∀ s d, e s = some d → s < n ∧ VR σ H I w d (tm.getD s Go.undef)

def ActOk (gh : Gh) (P : Program) (o : Oper) (a : Act) (σ : Sg) (H : Hp) (I : Im) (g : gh.G) (w : World) (r : Res gh.G) : Prop :=
  ∃ v w' σ' I', OpRuns P o a w v w' ∧ Inv gh σ' r.H I' r.g.2 w' ∧ StepOk gh σ H I g w σ' r.H I' r.g.2 w' ∧ VR σ' r.H I' w' r.d v

theorem ActOk.same {o : Oper} {a : Act} {d : D} {v : Value} {r : Res gh.G} (h : Inv gh σ H I g.2 w) (hr : OpRuns P o a w v w) (hv : VR σ H I w d v) (he : okD d H g = some r) : ActOk gh P o a σ H I g.2 w r := by
  simp only [okD, Option.some.injEq] at he
  subst he
  exact ⟨v, w, σ, I, hr, h, .refl _ _ _ _ _, hv⟩

theorem ofVal1_ok {v : Value} {d : D} (h : D.ofVal1 v = some d) : VR0 I w d v ∧ (v.oneCell' = true) := by
  unfold D.ofVal1 at h
  split at h <;> first | (simp at h; done) | (simp only [Option.some.injEq] at h; subst h; exact ⟨by constructor, rfl⟩)

theorem mapM_ofVal1 : ∀ (vs : List Value) (ds : List D), vs.mapM D.ofVal1 = some ds → ds.length = vs.length ∧ ∀ i (h : i < ds.length) (h' : i < vs.length), D.ofVal1 vs[i] = some ds[i]
  | [], ds, h => by
    simp at h
    subst h
    exact ⟨rfl, fun i h => by simp at h⟩
  | v :: vs, ds, h => by
    simp only [List.mapM_cons, Option.bind_eq_bind, Option.bind_eq_some_iff, Option.pure_def, Option.some.injEq] at h
    obtain ⟨d, h1, ds', h2, rfl⟩ := h
    obtain ⟨a, b⟩ := mapM_ofVal1 vs ds' h2
    refine ⟨by simp [a], fun i hi hi' => ?_⟩
    cases i with
    | zero => exact h1
    | succ i => exact b i (by simpa using hi) (by simpa using hi')

theorem ofVal_ok {v : Value} {d : D} (h : D.ofVal v = some d) : VR0 I w d v := by
  unfold D.ofVal at h
  split at h
  · rename_i cs
    obtain ⟨ds, h1, rfl⟩ := Option.map_eq_some_iff.1 h
    obtain ⟨hl, hv⟩ := mapM_ofVal1 _ _ h1
    have hl' : ds.length = cs.size := by simpa using hl
    refine .agg hl' (fun i hi => ?_) (fun i hi => ?_)
    · have := hv i (by omega) (by simpa using hi)
      simp only [Array.getElem_toList] at this
      exact (ofVal1_ok (I := I) (w := w) this).2
    · have := hv i hi (by rw [← hl]; exact hi)
      simp only [Array.getElem_toList] at this
      exact (ofVal1_ok this).1
  · exact (ofVal1_ok h).1

theorem opd_ok {n : Nat} {e : Env} {a : Act} {x : Operand} {ox : Opd} {d : D} (he : EnvOk σ H I w n e a.tmps) (hx : opdOf x = some ox) (hd : ox.ev e = some d) : VR σ H I w d (a.eval x) := by
  cases x with
  | tmp t =>
    simp only [opdOf, Option.some.injEq] at hx
    subst hx
    exact (he.at_ t d hd).2
  | const v =>
    simp only [opdOf] at hx
    obtain ⟨d', h1, rfl⟩ := Option.map_eq_some_iff.1 hx
    simp only [Opd.ev, Option.some.injEq] at hd
    subst hd
    exact .imm (ofVal_ok h1)
  | func f =>
    simp only [opdOf, Option.some.injEq] at hx
    subst hx
    simp only [Opd.ev, Option.some.injEq] at hd
    subst hd
    exact .imm (.fn (by simp) (fun i hi => by simp at hi))
  | global _ => simp [opdOf] at hx

theorem opds_ok {n : Nat} {e : Env} {a : Act} (he : EnvOk σ H I w n e a.tmps) : ∀ {xs : List Operand} {os : List Opd} {ds : List D}, opdsOf xs = some os → Opd.evL e os = some ds →
    ds.length = xs.length ∧ ∀ i (h : i < ds.length) (h' : i < xs.length), VR σ H I w ds[i] (a.eval xs[i])
  | [], os, ds, h, h' => by
    simp only [opdsOf, Option.some.injEq] at h
    subst h
    simp only [Opd.evL, Option.some.injEq] at h'
    subst h'
    exact ⟨rfl, fun i hi => by simp at hi⟩
  | x :: xs, os, ds, h, h' => by
    simp only [opdsOf] at h
    obtain ⟨ox, h1, h2⟩ := Option.bind_eq_some_iff.1 h
    obtain ⟨os', h3, h4⟩ := Option.bind_eq_some_iff.1 h2
    simp only [Option.some.injEq] at h4
    subst h4
    simp only [Opd.evL] at h'
    obtain ⟨d, h5, h6⟩ := Option.bind_eq_some_iff.1 h'
    obtain ⟨ds', h7, h8⟩ := Option.bind_eq_some_iff.1 h6
    simp only [Option.some.injEq] at h8
    subst h8
    obtain ⟨l, m⟩ := opds_ok he h3 h7
    refine ⟨by simp [l], fun i hi hi' => ?_⟩
    cases i with
    | zero => exact opd_ok he h1 h5
    | succ i => exact m i (by simpa using hi) (by simpa using hi')

/-! ### Types -/
theorem run_szOf {t : TypeId} {s : Nat} (h : szOf P t = some s) (w : World) : (sizeOf t).run P w = .ok s w := by
  unfold szOf at h
  obtain ⟨i, h1, rfl⟩ := Option.map_eq_some_iff.1 h
  simp [sizeOf, typeInfo, h1]
theorem run_aggOf {t : TypeId} {b : Bool} (h : aggOf P t = some b) (w : World) : (isAgg t).run P w = .ok b w := by
  unfold aggOf at h
  obtain ⟨d, h1, rfl⟩ := Option.map_eq_some_iff.1 h
  simp only [isAgg, Sem.run_bind, run_underlying h1, Result.andThen]
  cases d <;> rfl
theorem run_zeroOf {t : TypeId} {d : D} (h : zeroOf P t = some d) (w : World) : ∃ v, (zeroValue t).run P w = .ok v w ∧ D.ofVal v = some d := by
  unfold zeroOf at h
  obtain ⟨v, h1, h2⟩ := Option.bind_eq_some_iff.1 h
  obtain ⟨i, h3, h4⟩ := Option.bind_eq_some_iff.1 h1
  exact ⟨v, by simp [zeroValue, typeInfo, h3, h4], h2⟩

theorem Addr.add_off {a : Addr} (hs : a.spot = none) (j : Nat) : a.add j = ⟨a.block, a.off + j, none⟩ := by
  unfold Addr.add
  split
  · subst j; cases a; simp_all
  · rfl

/-- Cells that lie one behind the other are loaded. -/
theorem part_ok {t : TypeId} {agg : Bool} {sz : Nat} {cs : List D} {d : D} {a : Addr} {f : Nat → Value} (hs : a.spot = none) (hagg : aggOf P t = some agg) (hsz : szOf P t = some sz) (hp : partD agg sz cs = some d)
    (hc : ∀ j (hj : j < cs.length), w.cell? ⟨a.block, a.off + j, none⟩ = some (f j) ∧ (f j).oneCell' = true ∧ VR σ H I w cs[j] (f j)) :
    ∃ v, (loadVar t a).run P w = .ok v w ∧ VR σ H I w d v := by
  cases agg with
  | true =>
    simp only [partD, if_true] at hp
    split at hp
    · rename_i hle
      simp only [Option.some.injEq] at hp
      subst hp
      have hr := run_loadCells (P := P) w a sz f (fun j hj => by rw [Addr.add_off hs]; exact (hc j (by omega)).1)
      refine ⟨.agg ((List.range sz).map f).toArray, by simp [loadVar, run_aggOf hagg, run_szOf hsz, hr], .agg (by simp; omega) (fun i hi => ?_) (fun i hi => ?_)⟩
      · simp only [List.size_toArray, List.length_map, List.length_range] at hi
        simp only [List.getElem_toArray, List.getElem_map, List.getElem_range]
        exact (hc i (by omega)).2.1
      · have hi' : i < sz := by simp at hi; omega
        simp only [List.getElem_toArray, List.getElem_map, List.getElem_range, List.getElem_take]
        exact (hc i (by omega)).2.2
    · simp at hp
  | false =>
    simp only [partD, Bool.false_eq_true, if_false] at hp
    cases cs with
    | nil => simp at hp
    | cons c cs =>
      simp only [List.head?_cons, Option.some.injEq] at hp
      subst hp
      obtain ⟨h1, _, h3⟩ := hc 0 (by simp)
      have ha : a = ⟨a.block, a.off + 0, none⟩ := by cases a; simp_all
      refine ⟨f 0, ?_, h3⟩
      simp only [loadVar, Sem.run_bind, run_aggOf hagg, Result.andThen, Bool.false_eq_true, if_false, run_load]
      rw [ha, h1]

theorem mov_ok {n : Nat} {e : Env} {a : Act} {o : Oper} {x : Operand} {ox : Opd} {d : D} {r : Res gh.G} (h : Inv gh σ H I g.2 w) (he : EnvOk σ H I w n e a.tmps) (ho : o.op = .move x ∨ o.op = .assign x) (hx : opdOf x = some ox) (hd : ox.ev e = some d) (hr : okD d H g = some r) : ActOk gh P o a σ H I g.2 w r := by
  refine .same h (.inl ?_) (opd_ok he hx hd) hr
  rcases ho with ho | ho <;> simp [execOp, ho]

theorem VR.bool_inv {b : Bool} {v : Value} (h : VR σ H I w (.bool b) v) : v = .bool b := by cases h with | imm h => cases h; rfl
theorem VR.int_inv {k : IntKind} {n : Int} {v : Value} (h : VR σ H I w (.int k n) v) : v = .int k n := by cases h with | imm h => cases h; rfl
theorem VR.str_inv {s : ByteArray} {v : Value} (h : VR σ H I w (.str s) v) : v = .string s := by cases h with | imm h => cases h; rfl
theorem VR.nilsl_inv {v : Value} (h : VR σ H I w .nilsl v) : v = .slice none 0 0 := by cases h with | imm h => cases h; rfl
theorem VR.agg_inv {cs : List D} {v : Value} (h : VR σ H I w (.agg cs) v) : ∃ vs, v = .agg vs ∧ ∃ hl : cs.length = vs.size, (∀ i (h : i < vs.size), (vs[i]).oneCell' = true) ∧ ∀ i (h : i < cs.length), VR σ H I w (cs[i]) (vs[i]'(hl ▸ h)) := by
  cases h with
  | imm hv => cases hv with
    | agg hl h1 hv => exact ⟨_, rfl, hl, h1, fun i hi => .imm (hv i hi)⟩
  | agg hl h1 hv => exact ⟨_, rfl, hl, h1, hv⟩
theorem VR.tup_inv {cs : List D} {v : Value} (h : VR σ H I w (.tup cs) v) : ∃ vs, v = .tuple vs ∧ ∃ hl : cs.length = vs.size, ∀ i (h : i < cs.length), VR σ H I w (cs[i]) (vs[i]'(hl ▸ h)) := by
  cases h with
  | imm hv => cases hv with
    | tup hl hv => exact ⟨_, rfl, hl, fun i hi => .imm (hv i hi)⟩
  | tup hl hv => exact ⟨_, rfl, hl, hv⟩
theorem VR.fnS_inv {f : FuncId} {cs : List D} {v : Value} (h : VR σ H I w (.fnS f cs) v) : ∃ vs, v = .func (.func f) #[] vs ∧ ∃ hl : cs.length = vs.size, ∀ i (h : i < cs.length), VR σ H I w (cs[i]) (vs[i]'(hl ▸ h)) := by
  cases h with
  | imm hv => cases hv
  | fnS hl hv => exact ⟨_, rfl, hl, hv⟩
theorem VR.fn_inv {f : FuncId} {cs : List D} {v : Value} (h : VR σ H I w (.fn f cs) v) : ∃ vs, v = .func (.func f) #[] vs ∧ ∃ hl : cs.length = vs.size, ∀ i (h : i < cs.length), VR0 I w (cs[i]) (vs[i]'(hl ▸ h)) := by
  cases h with
  | imm hv => cases hv with
    | fn hl hv => exact ⟨_, rfl, hl, hv⟩
theorem VR.ref_inv {cs : List D} {v : Value} (h : VR σ H I w (.ref cs) v) : ∃ (a : Addr) (f : Nat → Value), v = .pointer (some a) ∧ a.spot = none ∧ (∀ j, j < cs.length → I a.block (a.off + j)) ∧ (∀ j, j < cs.length → w.cell? ⟨a.block, a.off + j, none⟩ = some (f j)) ∧ (∀ j, j < cs.length → (f j).oneCell' = true) ∧ ∀ j (h : j < cs.length), VR0 I w (cs[j]) (f j) := by
  cases h with
  | imm hv => cases hv with
    | ref f hs hI hc h1 hv => exact ⟨_, f, rfl, hs, hI, hc, h1, hv⟩
theorem VR.sl_inv {ex : Bool} {es : List (List D)} {v : Value} (h : VR σ H I w (.sl ex es) v) : ∃ (a : Addr) (c sz : Nat) (f : Nat → Nat → Value), v = .slice (some a) es.length c ∧ es.length ≤ c ∧ (ex = true → c = es.length) ∧ c ≤ maxLen ∧ 0 < sz ∧
    (∀ i (h : i < es.length), (es[i]).length = sz) ∧ (0 < es.length → a.spot = none) ∧ (∀ i j, i < es.length → j < sz → I a.block (a.off + (i * sz + j))) ∧
    (∀ i j, i < es.length → j < sz → w.cell? ⟨a.block, a.off + (i * sz + j), none⟩ = some (f i j)) ∧ (∀ i j, i < es.length → j < sz → (f i j).oneCell' = true) ∧
    ∀ i (h : i < es.length) j (h' : j < (es[i]).length), VR0 I w ((es[i])[j]) (f i j) := by
  cases h with
  | imm hv => cases hv with
    | sl sz f hn hc hex hm hsz hl hs hI hcell h1 hv => subst hn; exact ⟨_, _, sz, f, rfl, hc, hex, hm, hsz, hl, hs, hI, hcell, h1, hv⟩

theorem pick_ok {n : Nat} {e : Env} {a : Act} {o : Oper} {c x y : Operand} {oc ox oy : Opd} {r : Res gh.G} (h : Inv gh σ H I g.2 w) (he : EnvOk σ H I w n e a.tmps) (ho : o.op = .pick c x y) (hc : opdOf c = some oc) (hx : opdOf x = some ox) (hy : opdOf y = some oy)
    {t : Bool} (ht : oc.ev e = some (.bool t)) {d : D} (hd : (if t then ox.ev e else oy.ev e) = some d) (hr : okD d H g = some r) : ActOk gh P o a σ H I g.2 w r := by
  have h1 := (opd_ok he hc ht).bool_inv
  cases t with
  | true => exact .same h (.inl (by simp [execOp, ho, h1, asBool])) (opd_ok he hx (by simpa using hd)) hr
  | false => exact .same h (.inl (by simp [execOp, ho, h1, asBool])) (opd_ok he hy (by simpa using hd)) hr

theorem load_ok {n : Nat} {e : Env} {a : Act} {o : Oper} {t : TypeId} {x : Operand} {ox : Opd} {agg : Bool} {sz : Nat} {p d : D} {cs : List D} {r : Res gh.G} (h : Inv gh σ H I g.2 w) (he : EnvOk σ H I w n e a.tmps) (ho : o.op = .load t x) (hx : opdOf x = some ox) (hagg : aggOf P t = some agg) (hsz : szOf P t = some sz)
    (hp : ox.ev e = some p) (hl : look H p = some cs) (hd : partD agg sz cs = some d) (hr : okD d H g = some r) : ActOk gh P o a σ H I g.2 w r := by
  obtain ⟨ad, hv, hs, f, hc⟩ := look_ok h (opd_ok he hx hp) hl
  obtain ⟨v, h1, h2⟩ := part_ok hs hagg hsz hd hc
  exact .same h (.inl (by simp [execOp, ho, Instr.loadAt, Instr.sureAddr, hv, h1])) h2 hr

theorem nilchk_ok {n : Nat} {e : Env} {a : Act} {o : Oper} {x : Operand} {ox : Opd} {d : D} {r : Res gh.G} (h : Inv gh σ H I g.2 w) (he : EnvOk σ H I w n e a.tmps) (ho : o.op = .nilCheck x) (hx : opdOf x = some ox)
    (hd : ox.ev e = some d) (hk : (∃ k f, d = .box k f) ∨ (∃ c, d = .ref c) ∨ ∃ k q i j, d = .aptr k q i j) (hr : okD d H g = some r) : ActOk gh P o a σ H I g.2 w r := by
  have hv := opd_ok he hx hd
  have : ∃ ad, a.eval x = .pointer (some ad) := by
    rcases hk with ⟨k, f, rfl⟩ | ⟨c, rfl⟩ | ⟨k, q, i, j, rfl⟩
    · obtain ⟨_, _, _, e⟩ := hv.box_inv; exact ⟨_, e⟩
    · obtain ⟨_, _, e, _⟩ := hv.ref_inv; exact ⟨_, e⟩
    · obtain ⟨_, _, _, _, _, e, _⟩ := hv.aptr_inv; exact ⟨_, e⟩
  obtain ⟨ad, hp⟩ := this
  exact .same (v := .pointer (some ad)) h (.inl (by simp [execOp, ho, hp])) (by rw [← hp]; exact hv) hr
end Go.VM
end

section
namespace Go.VM
open Go Go.RowKit

variable {gh : Gh} {σ : Sg} {H H' : Hp} {I : Im} {g : Nat × gh.G} {w : World} {P : Program}

def FK.fits (k : FK) (d : Option TypeDesc) : Prop := (k = .i → ∃ q, d = some (.int q)) ∧ (k = .b → d = some .bool) ∧ (k = .s → d = some .string)

theorem flatField_ok {f : Field} {i : Nat} {k : FK} (h : flatField P f i = some k) : f.name ≠ "_" ∧ f.offset = i ∧ szOf P f.type = some 1 ∧
    k.fits (P.underlying f.type) := by
  unfold flatField at h
  split at h
  · rename_i hc
    simp only [Bool.and_eq_true, bne_iff_ne, ne_eq, beq_iff_eq] at hc
    obtain ⟨⟨a, b⟩, c⟩ := hc
    refine ⟨a, b, c, ?_⟩
    split at h <;> first | (simp at h; done) | (rename_i hu; simp only [Option.some.injEq] at h; subst h; rw [hu]; refine ⟨fun h => ?_, fun h => ?_, fun h => ?_⟩ <;> first | exact ⟨_, rfl⟩ | rfl | (cases h; done))
  · simp at h

theorem eq1_ok {k : FK} {x y : D} {b : Bool} {vx vy : Value} {t : TypeId} {d : Nat} (he : binD.eq1 k x y = some b) (hx : VR σ H I w x vx) (hy : VR σ H I w y vy)
    (ht : k.fits (P.underlying t)) : (Op.equalIn (d + 1) t vx vy).run P w = .ok b w := by
  unfold binD.eq1 at he
  split at he
  · split at he
    · rename_i hq
      subst hq
      simp only [Option.some.injEq] at he
      subst he
      obtain ⟨k, hk⟩ := ht.1 rfl
      rw [hx.int_inv, hy.int_inv]
      exact run_equalIn_int w d t _ k _ _ hk
    · simp at he
  · simp only [Option.some.injEq] at he
    subst he
    rw [hx.str_inv, hy.str_inv, run_equalIn_string w d t _ _ (ht.2.2 rfl), beq_toListBytes]
  · simp only [Option.some.injEq] at he
    subst he
    rw [hx.bool_inv, hy.bool_inv]
    exact run_equalIn_bool' w d t _ _ (ht.2.1 rfl)
  · simp at he

theorem run_eqFields {d : Nat} {xs ys : Array Value} {cs ds : List D} (hc : cs.length = xs.size) (hd : ds.length = ys.size) (hcv : ∀ i (h : i < cs.length), VR σ H I w (cs[i]) (xs[i]'(hc ▸ h))) (hdv : ∀ i (h : i < ds.length), VR σ H I w (ds[i]) (ys[i]'(hd ▸ h))) :
    ∀ (fs : List Field) (ks : List FK) (i : Nat) (b : Bool), flatFrom P fs i = some ks → binD.eqL ks (cs.drop i) (ds.drop i) = some b → (Op.eqFields (d + 1) xs ys fs).run P w = .ok b w
  | [], ks, i, b, hf, he => by
    simp only [flatFrom, Option.some.injEq] at hf
    subst hf
    cases h1 : cs.drop i <;> cases h2 : ds.drop i <;> rw [h1, h2] at he <;> simp [binD.eqL] at he
    subst he
    simp [Op.eqFields]
  | f :: fs, ks, i, b, hf, he => by
    simp only [flatFrom] at hf
    obtain ⟨k, hf1, hf2⟩ := Option.bind_eq_some_iff.1 hf
    obtain ⟨ks', hf3, rfl⟩ := Option.map_eq_some_iff.1 hf2
    obtain ⟨hname, hoff, hsz, hty⟩ := flatField_ok hf1
    have hi : i < cs.length := by
      rcases Nat.lt_or_ge i cs.length with x | x
      · exact x
      · rw [List.drop_eq_nil_of_le x] at he; simp [binD.eqL] at he
    have hi2 : i < ds.length := by
      rcases Nat.lt_or_ge i ds.length with x | x
      · exact x
      · rw [List.drop_eq_nil_of_le x] at he
        rw [List.drop_eq_getElem_cons hi] at he
        simp [binD.eqL] at he
    rw [List.drop_eq_getElem_cons hi, List.drop_eq_getElem_cons hi2] at he
    simp only [binD.eqL] at he
    obtain ⟨b1, e1, he⟩ := Option.bind_eq_some_iff.1 he
    obtain ⟨b2, e2, he⟩ := Option.map_eq_some_iff.1 he
    subst he
    have ih := run_eqFields (d := d) hc hd hcv hdv fs ks' (i + 1) b2 hf3 e2
    have hag : aggOf P f.type = some false := by
      unfold aggOf
      cases k with
      | i => obtain ⟨k, h⟩ := hty.1 rfl; rw [h]; rfl
      | b => rw [hty.2.1 rfl]; rfl
      | s => rw [hty.2.2 rfl]; rfl
    have hpart : ∀ (zs : Array Value) (hz : i < zs.size), (part f.type zs f.offset).run P w = .ok zs[i] w := by
      intro zs hz
      simp [part, run_aggOf hag, hoff, Array.getElem?_eq_getElem hz]
    have heq := eq1_ok (d := d) e1 (hcv i hi) (hdv i hi2) hty
    simp only [Op.eqFields, if_pos hname, Sem.run_bind, hpart _ (hc ▸ hi), hpart _ (hd ▸ hi2), heq, Result.andThen_ok]
    cases b1
    · simp
    · simpa using ih

theorem eqK_flat {t : TypeId} {ks : List FK} (h : eqKOf P t = .flat ks) : ∃ fs, P.underlying t = some (.struct fs) ∧ flatFrom P fs.toList 0 = some ks ∧ P.stoodInHeld t = false ∧ P.eqGuardType P.depth t = false := by
  unfold eqKOf at h
  split at h
  · simp at h
  · rename_i fs hfs
    split at h
    · rename_i hc
      simp only [Bool.and_eq_true, Bool.not_eq_true'] at hc
      split at h
      · rename_i ks' hks
        simp only [EqK.flat.injEq] at h
        subst h
        exact ⟨fs, hfs, hks, hc.1, hc.2⟩
      · simp at h
    · simp at h
  · simp at h
  · simp at h
theorem eqK_bool {t : TypeId} (h : eqKOf P t = .bool) : P.underlying t = some .bool := by
  unfold eqKOf at h
  split at h
  · assumption
  · split at h
    · split at h <;> simp at h
    · simp at h
  · simp at h
  · simp at h
theorem eqK_slice {t : TypeId} (h : eqKOf P t = .slice) : ∃ e, P.underlying t = some (.slice e) := by
  unfold eqKOf at h
  split at h
  · simp at h
  · split at h
    · split at h <;> simp at h
    · simp at h
  · exact ⟨_, by assumption⟩
  · simp at h

theorem eqL_whole {t : TypeId} {ks : List FK} {cs ds : List D} {xs ys : Array Value} {b : Bool} (h : eqKOf P t = .flat ks) (hc : cs.length = xs.size) (hd : ds.length = ys.size) (hcv : ∀ i (h : i < cs.length), VR σ H I w (cs[i]) (xs[i]'(hc ▸ h))) (hdv : ∀ i (h : i < ds.length), VR σ H I w (ds[i]) (ys[i]'(hd ▸ h)))
    (he : binD.eqL ks cs ds = some b) : (Op.equalIn 10000 t (.agg xs) (.agg ys)).run P w = .ok b w ∧ P.eqGuardType P.depth t = false := by
  obtain ⟨fs, h1, h2, h3, h4⟩ := eqK_flat h
  have hf : P.fieldsOf t = fs := by simp [Program.fieldsOf, h1]
  refine ⟨?_, h4⟩
  rw [run_equalIn_struct (P := P) w 9999 t xs ys (by rw [hf]; exact h1) h3, hf]
  exact run_eqFields (d := 9998) hc hd hcv hdv fs.toList ks 0 b h2 (by simpa using he)

theorem equalIn_nil (w : World) (d : Nat) {t e : TypeId} (a : Option Addr) (n c : Nat) (h : P.underlying t = some (.slice e)) : (Op.equalIn (d + 1) t (.slice a n c) (.slice none 0 0)).run P w = .ok a.isNone w := by
  cases a <;> simp [Op.equalIn, run_underlying h]
theorem eql_nil (w : World) {t e : TypeId} (a : Option Addr) (n c : Nat) (ox oy : Operand) (h : P.underlying t = some (.slice e)) : (do eqGuard .eql t ox oy (.slice a n c) (.slice none 0 0); binOp .eql t (.slice a n c) (.slice none 0 0) : Sem Value).run P w = .ok (.bool a.isNone) w := by
  simp only [binOp]
  simp [eqGuard, Op.equal, Op.maxDepth, equalIn_nil w 9999 a n c h]
theorem neq_nil (w : World) {t e : TypeId} (a : Option Addr) (n c : Nat) (ox oy : Operand) (h : P.underlying t = some (.slice e)) : (do eqGuard .neq t ox oy (.slice a n c) (.slice none 0 0); binOp .neq t (.slice a n c) (.slice none 0 0) : Sem Value).run P w = .ok (.bool (!a.isNone)) w := by
  simp only [binOp]
  simp [eqGuard, Op.equal, Op.maxDepth, equalIn_nil w 9999 a n c h]

theorem binD_ok {op : BinOp} {t : TypeId} {x y : D} {d : D} {vx vy : Value} (ox oy : Operand) (hx : VR σ H I w x vx) (hy : VR σ H I w y vy) (h : binD op (eqKOf P t) x y = some d) :
    ∃ v, (do eqGuard op t ox oy vx vy; binOp op t vx vy : Sem Value).run P w = .ok v w ∧ VR0 I w d v := by
  unfold binD at h
  split at h
  · -- numbers
    rw [hx.int_inv, hy.int_inv]
    split at h
    · rename_i hq
      subst hq
      split at h <;> first
        | (simp at h; done)
        | (simp only [Option.some.injEq] at h; subst h; refine ⟨_, ?_, by constructor⟩; simp [eqGuard, binOp, Op.intArith, Op.intCmp]; done)
        | (split at h
           · simp at h
           · rename_i hb
             simp only [Option.some.injEq] at h; subst h; refine ⟨_, ?_, by constructor⟩; simp [eqGuard, binOp, Op.intDiv, hb])
        | (split at h
           · simp at h
           · rename_i hb
             simp only [Option.some.injEq] at h; subst h; refine ⟨_, ?_, by constructor⟩; simp [eqGuard, binOp, Op.shift, hb])
    · simp at h
  · -- strings
    rw [hx.str_inv, hy.str_inv]
    split at h <;> first
      | (simp at h; done)
      | (simp only [Option.some.injEq] at h; subst h; refine ⟨_, ?_, by constructor⟩; simp [eqGuard, binOp, Op.stringOp, beq_toListBytes, bne, bytesLess, ByteArray.toList_eq]; done)
      | (split at h
         · rename_i hb
           simp only [Option.some.injEq] at h; subst h; refine ⟨_, ?_, by constructor⟩
           have : ¬ (9223372036854775807 : Int) < (‹ByteArray›.size : Int) + (‹ByteArray›.size : Int) := by omega
           simp [eqGuard, binOp, Op.stringOp]
           omega
         · simp at h)
  · -- truth values
    rw [hx.bool_inv, hy.bool_inv]
    split at h <;> first
      | (simp at h; done)
      | (rename_i hk
         simp only [Option.some.injEq] at h; subst h; refine ⟨_, ?_, by constructor⟩; simp [eqGuard, binOp, Op.equal, Op.maxDepth, run_equalIn_bool' w _ t _ _ (eqK_bool hk), bne])
  · -- structs
    obtain ⟨xs, rfl, hxl, _, hxv⟩ := hx.agg_inv
    obtain ⟨ys, rfl, hyl, _, hyv⟩ := hy.agg_inv
    split at h
    · rename_i hk
      obtain ⟨b, h1, rfl⟩ := Option.map_eq_some_iff.1 h
      obtain ⟨h2, h3⟩ := eqL_whole hk hxl hyl hxv hyv h1
      exact ⟨.bool b, by simp [Sem.run_bind, run_eqGuard_agg (P := P) w _ t ox oy xs ys h3, run_eql_struct, h2], .bool b⟩
    · rename_i hk
      obtain ⟨b, h1, rfl⟩ := Option.map_eq_some_iff.1 h
      obtain ⟨h2, h3⟩ := eqL_whole hk hxl hyl hxv hyv h1
      exact ⟨.bool (!b), by simp [Sem.run_bind, run_eqGuard_agg (P := P) w _ t ox oy xs ys h3, run_neq_struct, h2], .bool _⟩
    · simp at h
  · -- slices and nil
    rw [hy.nilsl_inv]
    split at h <;> first | (simp at h; done) | skip
    all_goals
      rename_i hk
      obtain ⟨e, hu⟩ := eqK_slice hk
      simp only [Option.some.injEq] at h; subst h
      first
        | (rw [hx.nilsl_inv]; exact ⟨_, eql_nil w none 0 0 ox oy hu, .bool _⟩)
        | (rw [hx.nilsl_inv]; exact ⟨_, neq_nil w none 0 0 ox oy hu, .bool _⟩)
        | (obtain ⟨_, _, _, _, rfl, _⟩ := hx.sl_inv; exact ⟨_, eql_nil w _ _ _ ox oy hu, .bool _⟩)
        | (obtain ⟨_, _, _, _, rfl, _⟩ := hx.sl_inv; exact ⟨_, neq_nil w _ _ _ ox oy hu, .bool _⟩)
  · simp at h
end Go.VM
end

section
namespace Go.VM
open Go Go.RowKit

variable {gh : Gh} {σ : Sg} {H H' : Hp} {I : Im} {g : Nat × gh.G} {w : World} {P : Program} {n : Nat} {e : Env} {a : Act} {o : Oper} {r : Res gh.G}

theorem bin_ok {op : BinOp} {t t' : TypeId} {x y : Operand} {ox oy : Opd} {d1 d2 d : D} (h : Inv gh σ H I g.2 w) (he : EnvOk σ H I w n e a.tmps) (ho : o.op = .binOp op t x y t') (hx : opdOf x = some ox) (hy : opdOf y = some oy)
    (h1 : ox.ev e = some d1) (h2 : oy.ev e = some d2) (hb : binD op (eqKOf P t) d1 d2 = some d) (hr : okD d H g = some r) : ActOk gh P o a σ H I g.2 w r := by
  obtain ⟨v, hv, hd⟩ := binD_ok x y (opd_ok he hx h1) (opd_ok he hy h2) hb
  refine .same h (.inl ?_) (.imm hd) hr
  simp only [execOp, ho]
  rw [Sem.run_bind, hv]
  rfl

theorem un_ok {op : UnOp} {t : TypeId} {x : Operand} {ox : Opd} {d1 d : D} (h : Inv gh σ H I g.2 w) (he : EnvOk σ H I w n e a.tmps) (ho : o.op = .unOp op t x) (hx : opdOf x = some ox)
    (h1 : ox.ev e = some d1) (hb : unD op d1 = some d) (hr : okD d H g = some r) : ActOk gh P o a σ H I g.2 w r := by
  have hv := opd_ok he hx h1
  cases d1 with
  | bool b =>
    cases op <;> simp only [unD] at hb <;> first | (simp at hb; done) | skip
    simp only [Option.some.injEq] at hb; subst hb
    exact .same h (.inl (by simp [execOp, ho, hv.bool_inv, Op.unary])) (.imm (.bool _)) hr
  | int q m =>
    cases op <;> simp only [unD] at hb <;> first | (simp at hb; done) | skip
    simp only [Option.some.injEq] at hb; subst hb
    exact .same h (.inl (by simp [execOp, ho, hv.int_inv, Op.unary, Op.intArith])) (.imm (.int _ _)) hr
  | _ => simp [unD] at hb

theorem fieldOf_ok {s : TypeId} {f : Nat} {fd : Field} (h : fieldOf P s f = some fd) : ∃ fs, P.underlying s = some (.struct fs) ∧ fs[f]? = some fd := by
  unfold fieldOf at h
  split at h
  · exact ⟨_, by assumption, h⟩
  · simp at h

theorem faddr_ok {s : TypeId} {f z : Nat} {x : Operand} {ox : Opd} {fd : Field} {p d : D} (h : Inv gh σ H I g.2 w) (he : EnvOk σ H I w n e a.tmps) (ho : o.op = .fieldAddr s x f) (hx : opdOf x = some ox) (hf : fieldOf P s f = some fd) (hz : szOf P fd.type = some z) (hz0 : 0 < z)
    (hp : ox.ev e = some p) (hd : (∃ cs, p = .ref cs ∧ d = .ref (cs.drop fd.offset)) ∨ (∃ k q, p = .box k q ∧ d = .box k (q + fd.offset)) ∨ (∃ k q i j, p = .aptr k q i j ∧ d = .aptr k q i (j + fd.offset))) (hr : okD d H g = some r) : ActOk gh P o a σ H I g.2 w r := by
  obtain ⟨fs, hu, hfs⟩ := fieldOf_ok hf
  have hv := opd_ok he hx hp
  have run : ∀ ad : Addr, a.eval x = .pointer (some ad) → OpRuns P o a w (.pointer (some (ad.add fd.offset))) w := by
    intro ad had
    refine .inl ?_
    have hzz : ¬ z = 0 := by omega
    simp [execOp, ho, Instr.fieldAt, run_underlying hu, hfs, had, Instr.sureAddr, fieldPlace, run_szOf hz, hzz]
  rcases hd with ⟨cs, rfl, rfl⟩ | ⟨k, q, rfl, rfl⟩ | ⟨k, q, i, j, rfl, rfl⟩
  · obtain ⟨ad, f', had, hs, hI, hc, h1, h2⟩ := hv.ref_inv
    refine .same h (run ad had) (.imm (.ref (fun j => f' (fd.offset + j)) ?_ (fun j hj => ?_) (fun j hj => ?_) (fun j hj => ?_) (fun j hj => ?_))) hr
    · rw [Addr.add_off hs]
    · rw [Addr.add_off hs]; simp only [List.length_drop] at hj; dsimp only; rw [Nat.add_assoc]; exact hI _ (by omega)
    · rw [Addr.add_off hs]; simp only [List.length_drop] at hj; dsimp only; rw [Nat.add_assoc]; exact hc _ (by omega)
    · simp only [List.length_drop] at hj; exact h1 _ (by omega)
    · simp only [List.length_drop] at hj; simp only [List.getElem_drop]; exact h2 _ (by omega)
  · obtain ⟨c, hc, hV, had⟩ := hv.box_inv
    refine .same h (run _ had) ?_ hr
    rw [Addr.add_lit]
    exact .box hc hV
  · obtain ⟨ad, hc, sz, g0, es, had, hk, ha, hg, hat⟩ := hv.aptr_inv
    refine .same h (run _ had) (.aptr hk ha hg (fun hq => ?_)) hr
    rw [hat hq, Addr.add_lit, Nat.add_assoc]

theorem partV_ok {t : TypeId} {agg : Bool} {sz off : Nat} {cs : List D} {vs : Array Value} {d : D} (hagg : aggOf P t = some agg) (hsz : szOf P t = some sz) (hl : cs.length = vs.size) (h1 : ∀ i (h : i < vs.size), (vs[i]).oneCell' = true) (hv : ∀ i (h : i < cs.length), VR σ H I w (cs[i]) (vs[i]'(hl ▸ h)))
    (hp : partD agg sz (cs.drop off) = some d) : ∃ v, (part t vs off).run P w = .ok v w ∧ VR σ H I w d v := by
  cases agg with
  | true =>
    simp only [partD, if_true, List.length_drop] at hp
    split at hp
    · rename_i hle
      simp only [Option.some.injEq] at hp
      subst hp
      refine ⟨.agg (vs.extract off (off + sz)), by simp [part, run_aggOf hagg, run_szOf hsz], ?_⟩
      by_cases h0 : off + sz ≤ vs.size
      · refine .agg (by simp; omega) (fun i hi => ?_) (fun i hi => ?_)
        · simp only [Array.getElem_extract]; exact h1 _ (by simp at hi; omega)
        · simp only [Array.getElem_extract, List.getElem_take, List.getElem_drop]
          exact hv (off + i) (by simp at hi; omega)
      · have hsz0 : sz = 0 := by omega
        subst hsz0
        refine .agg (by simp; omega) (fun i hi => ?_) (fun i hi => ?_)
        · simp at hi; omega
        · simp at hi
    · simp at hp
  | false =>
    simp only [partD, Bool.false_eq_true, if_false] at hp
    rw [List.head?_drop] at hp
    obtain ⟨hi, rfl⟩ := List.getElem?_eq_some_iff.1 hp
    exact ⟨_, by simp [part, run_aggOf hagg, Array.getElem?_eq_getElem (hl ▸ hi)], hv off hi⟩

theorem fld_ok {s : TypeId} {f z : Nat} {x : Operand} {ox : Opd} {fd : Field} {ag : Bool} {cs : List D} {d : D} (h : Inv gh σ H I g.2 w) (he : EnvOk σ H I w n e a.tmps) (ho : o.op = .field s x f) (hx : opdOf x = some ox) (hf : fieldOf P s f = some fd) (hz : szOf P fd.type = some z) (hag : aggOf P fd.type = some ag)
    (hp : ox.ev e = some (.agg cs)) (hd : partD ag z (cs.drop fd.offset) = some d) (hr : okD d H g = some r) : ActOk gh P o a σ H I g.2 w r := by
  obtain ⟨fs, hu, hfs⟩ := fieldOf_ok hf
  obtain ⟨vs, hvs, hl, h1, hv⟩ := (opd_ok he hx hp).agg_inv
  obtain ⟨v, h2, h3⟩ := partV_ok hag hz hl h1 hv hd
  exact .same h (.inl (by simp [execOp, ho, Instr.field, run_underlying hu, hfs, hvs, asAgg, h2])) h3 hr

theorem idx_inv {x : Operand} {ox : Opd} {q : IntKind} {m : Int} (he : EnvOk σ H I w n e a.tmps) (hx : opdOf x = some ox) (h : (ox.ev e).bind natIdx = some (q, m)) : a.eval x = .int q m := by
  obtain ⟨d, h1, h2⟩ := Option.bind_eq_some_iff.1 h
  cases d <;> simp [natIdx] at h2
  obtain ⟨rfl, rfl⟩ := h2
  exact (opd_ok he hx h1).int_inv

theorem iaddr_ok {t el : TypeId} {sz : Nat} {x i : Operand} {ox oi : Opd} {p d : D} {q : IntKind} {m : Int} (h : Inv gh σ H I g.2 w) (he : EnvOk σ H I w n e a.tmps) (ho : o.op = .indexAddr t x i) (hx : opdOf x = some ox) (hi : opdOf i = some oi) (hu : P.underlying t = some (.slice el)) (hsz : szOf P el = some sz) (_hs0 : 0 < sz)
    (hp : ox.ev e = some p) (hm : (oi.ev e).bind natIdx = some (q, m))
    (hd : (∃ ex es c, p = .sl ex es ∧ 0 ≤ m ∧ m < es.length ∧ es[m.toNat]? = some c ∧ c.length = sz ∧ d = .ref c) ∨
      (∃ k u l hc z g0 es, p = .arr k u l ∧ H k = some hc ∧ hc.asArr = some (z, g0, es) ∧ u = g0 ∧ z = sz ∧ l ≤ es.length ∧ 0 ≤ m ∧ m < l ∧ d = .aptr k u m.toNat 0)) (hr : okD d H g = some r) : ActOk gh P o a σ H I g.2 w r := by
  have hmi := idx_inv he hi hm
  have hv := opd_ok he hx hp
  rcases hd with ⟨ex, es, c, rfl, h0, h1, hc, hcl, rfl⟩ | ⟨k, u, l, hc, z, g0, es, rfl, hk, ha, rfl, rfl, hl, h0, h1, rfl⟩
  · obtain ⟨ad, cap, sz', f, hval, hcap, _, _, hs0', hel, hsp, hI, hcell, hone, hvr⟩ := hv.sl_inv
    obtain ⟨hlt, hce⟩ := List.getElem?_eq_some_iff.1 hc
    have hsz' : sz' = sz := by rw [← hcl, ← hce]; exact (hel _ hlt).symm
    subst hsz'
    refine .same (v := .pointer (some (ad.add (m.toNat * sz')))) h (.inl ?_) (.imm ?_) hr
    · simp [execOp, ho, Instr.indexAt, hmi, asIntOf, run_underlying hu, hval, run_szOf hsz, h0, h1]
    · have hspot := hsp (by omega)
      rw [Addr.add_off hspot]
      refine .ref (fun j => f m.toNat j) rfl (fun j hj => ?_) (fun j hj => ?_) (fun j hj => ?_) (fun j hj => ?_)
      · dsimp only; rw [Nat.add_assoc]; exact hI _ _ hlt (by omega)
      · dsimp only; rw [Nat.add_assoc]; exact hcell _ _ hlt (by omega)
      · exact hone _ _ hlt (by omega)
      · have := hvr m.toNat hlt j (by rw [hce]; exact hj)
        simpa [hce] using this
  · obtain ⟨ad, cap, hc', z', g0', es', hval, hk', ha', hg, hat⟩ := hv.arr_inv
    rw [hk] at hk'
    obtain rfl := Option.some.inj hk'
    rw [ha] at ha'
    simp only [Option.some.injEq, Prod.mk.injEq] at ha'
    obtain ⟨rfl, rfl, rfl⟩ := ha'
    obtain ⟨rfl, rfl⟩ := hat rfl
    refine .same (v := .pointer (some ⟨(σ k).1, m.toNat * z, none⟩)) h (.inl ?_) (.aptr hk ha (Nat.le_refl _) (fun _ => by simp)) hr
    simp [Addr.add_lit, execOp, ho, Instr.indexAt, hmi, asIntOf, run_underlying hu, hval, run_szOf hsz, h0, h1]

theorem iaddrA_ok {t el : TypeId} {sz len : Nat} {x i : Operand} {ox oi : Opd} {p d : D} {q : IntKind} {m : Int} (h : Inv gh σ H I g.2 w) (he : EnvOk σ H I w n e a.tmps) (ho : o.op = .indexAddr t x i) (hx : opdOf x = some ox) (hi : opdOf i = some oi) (hu : P.underlying t = some (.array len el)) (hsz : szOf P el = some sz)
    (hp : ox.ev e = some p) (hm : (oi.ev e).bind natIdx = some (q, m)) (h0 : 0 ≤ m) (h1 : m < (len : Int))
    (hd : (∃ cs, p = .ref cs ∧ d = .ref (cs.drop (m.toNat * sz))) ∨ (∃ k u, p = .box k u ∧ d = .box k (u + m.toNat * sz))) (hr : okD d H g = some r) : ActOk gh P o a σ H I g.2 w r := by
  have hmi := idx_inv he hi hm
  have hv := opd_ok he hx hp
  have run : ∀ ad : Addr, a.eval x = .pointer (some ad) → OpRuns P o a w (.pointer (some (ad.add (m.toNat * sz)))) w := by
    intro ad had
    refine .inl ?_
    simp [execOp, ho, Instr.indexAt, hmi, asIntOf, run_underlying hu, had, Instr.sureAddr, run_szOf hsz, h0, h1]
  rcases hd with ⟨cs, rfl, rfl⟩ | ⟨k, u, rfl, rfl⟩
  · obtain ⟨ad, f', had, hs, hI, hc, hone, h2⟩ := hv.ref_inv
    refine .same h (run ad had) (.imm (.ref (fun j => f' (m.toNat * sz + j)) ?_ (fun j hj => ?_) (fun j hj => ?_) (fun j hj => ?_) (fun j hj => ?_))) hr
    · rw [Addr.add_off hs]
    · rw [Addr.add_off hs]; simp only [List.length_drop] at hj; dsimp only; rw [Nat.add_assoc]; exact hI _ (by omega)
    · rw [Addr.add_off hs]; simp only [List.length_drop] at hj; dsimp only; rw [Nat.add_assoc]; exact hc _ (by omega)
    · simp only [List.length_drop] at hj; exact hone _ (by omega)
    · simp only [List.length_drop] at hj; simp only [List.getElem_drop]; exact h2 _ (by omega)
  · obtain ⟨c, hc, hV, had⟩ := hv.box_inv
    refine .same h (run _ had) ?_ hr
    rw [Addr.add_lit]
    exact .box hc hV

theorem idxA_ok {t el : TypeId} {sz len : Nat} {ag : Bool} {x i : Operand} {ox oi : Opd} {cs : List D} {d : D} {q : IntKind} {m : Int} (h : Inv gh σ H I g.2 w) (he : EnvOk σ H I w n e a.tmps) (ho : o.op = .index t x i) (hx : opdOf x = some ox) (hi : opdOf i = some oi) (hu : P.underlying t = some (.array len el)) (hsz : szOf P el = some sz) (hag : aggOf P el = some ag)
    (hp : ox.ev e = some (.agg cs)) (hm : (oi.ev e).bind natIdx = some (q, m)) (h0 : 0 ≤ m) (h1 : m < (len : Int)) (hd : partD ag sz (cs.drop (m.toNat * sz)) = some d) (hr : okD d H g = some r) : ActOk gh P o a σ H I g.2 w r := by
  have hmi := idx_inv he hi hm
  obtain ⟨vs, hvs, hl, hone, hv⟩ := (opd_ok he hx hp).agg_inv
  obtain ⟨v, h2, h3⟩ := partV_ok hag hsz hl hone hv hd
  exact .same h (.inl (by simp [execOp, ho, Instr.index, hmi, asIntOf, run_underlying hu, hvs, run_szOf hsz, h0, h1, h2])) h3 hr

theorem idxS_ok {t : TypeId} {x i : Operand} {ox oi : Opd} {s : ByteArray} {q : IntKind} {m : Int} (h : Inv gh σ H I g.2 w) (he : EnvOk σ H I w n e a.tmps) (ho : o.op = .index t x i) (hx : opdOf x = some ox) (hi : opdOf i = some oi) (hu : P.underlying t = some .string)
    (hp : ox.ev e = some (.str s)) (hm : (oi.ev e).bind natIdx = some (q, m)) (h0 : 0 ≤ m) (h1 : m < (s.size : Int)) (hr : okD (.int .u8 ((s[m.toNat]'(by omega)).toNat : Int)) H g = some r) : ActOk gh P o a σ H I g.2 w r := by
  have hmi := idx_inv he hi hm
  have hv := (opd_ok he hx hp).str_inv
  refine .same h (.inl ?_) (.imm (.int _ _)) hr
  have hlt : m.toNat < s.size := by omega
  simp [execOp, ho, Instr.index, hmi, asIntOf, run_underlying hu, hv, h0, ByteArray.getElem?_lt' s m.toNat hlt]

theorem ext_ok {x : Operand} {ox : Opd} {k : Nat} {vs : List D} {d : D} (h : Inv gh σ H I g.2 w) (he : EnvOk σ H I w n e a.tmps) (ho : o.op = .extract x k) (hx : opdOf x = some ox) (hp : ox.ev e = some (.tup vs)) (hd : vs[k]? = some d) (hr : okD d H g = some r) : ActOk gh P o a σ H I g.2 w r := by
  obtain ⟨us, hus, hl, hv⟩ := (opd_ok he hx hp).tup_inv
  obtain ⟨hk, rfl⟩ := List.getElem?_eq_some_iff.1 hd
  exact .same h (.inl (by simp [execOp, ho, Instr.extract, hus, Array.getElem?_eq_getElem (hl ▸ hk)])) (hv k hk) hr

theorem conv_ok {s t : TypeId} {x : Operand} {ox : Opd} {k k' q : IntKind} {m : Int} (h : Inv gh σ H I g.2 w) (he : EnvOk σ H I w n e a.tmps) (ho : o.op = .convert s t x) (hx : opdOf x = some ox) (hs : P.underlying s = some (.int k')) (ht : P.underlying t = some (.int k)) (hp : ox.ev e = some (.int q m)) (hr : okD (.int k (k.wrap m)) H g = some r) : ActOk gh P o a σ H I g.2 w r := by
  have hv := (opd_ok he hx hp).int_inv
  exact .same h (.inl (by simp [execOp, ho, convert, run_underlying hs, run_underlying ht, hv, Conv.intToInt])) (.imm (.int _ _)) hr

theorem len_ok {c : Call} {x : Operand} {ox : Opd} {t : TypeId} {d d' : D} (h : Inv gh σ H I g.2 w) (he : EnvOk σ H I w n e a.tmps) (ho : o.op = .call c) (hc : c.callee = .builtin .len) (hargs : c.args.toList = [x]) (hty : c.argTypes.toList = [t]) (hx : opdOf x = some ox)
    (hu : (∃ el, P.underlying t = some (.slice el) ∧ ((d = .nilsl ∧ d' = .int .i64 0) ∨ (∃ ex es, d = .sl ex es ∧ d' = .int .i64 es.length) ∨ (∃ k q m, d = .arr k q m ∧ d' = .int .i64 m))) ∨ (P.underlying t = some .string ∧ ∃ s, d = .str s ∧ d' = .int .i64 s.size))
    (hp : ox.ev e = some d) (hr : okD d' H g = some r) : ActOk gh P o a σ H I g.2 w r := by
  obtain ⟨callee, args, argTypes⟩ := c
  simp only at hc hargs hty
  subst hc
  obtain rfl : args = #[x] := by cases args; simp_all
  obtain rfl : argTypes = #[t] := by cases argTypes; simp_all
  have hv := opd_ok he hx hp
  rcases hu with ⟨el, hu, hd⟩ | ⟨hu, s, rfl, rfl⟩
  · have run : ∀ ad l cap, a.eval x = .slice ad l cap → OpRuns P o a w (.int .i64 l) w := by
      intro ad l cap hval
      refine .inl ?_
      simp [execOp, ho, resolve, invoke, builtin, Builtin.len_, run_underlying hu, hval, goInt]
    rcases hd with ⟨rfl, rfl⟩ | ⟨ex, es, rfl, rfl⟩ | ⟨k, q, m, rfl, rfl⟩
    · exact .same h (run _ _ _ hv.nilsl_inv) (.imm (.int _ _)) hr
    · obtain ⟨_, _, _, _, hval, _⟩ := hv.sl_inv
      exact .same h (run _ _ _ hval) (.imm (.int _ _)) hr
    · obtain ⟨_, _, _, _, _, _, hval, _⟩ := hv.arr_inv
      exact .same h (run _ _ _ hval) (.imm (.int _ _)) hr
  · refine .same h (.inl ?_) (.imm (.int _ _)) hr
    simp [execOp, ho, resolve, invoke, builtin, Builtin.len_, run_underlying hu, hv.str_inv, goInt]

/-! ### Cuts -/
theorem optIdx_inv {x : Option Operand} {ox : Option Opd} {m : Option Int} (he : EnvOk σ H I w n e a.tmps) (hx : optOf x = some ox) (h : act.optIdx e ox = some m) : (x = none ∧ ox = none ∧ m = none) ∨ ∃ y q i, x = some y ∧ m = some i ∧ a.eval y = .int q i := by
  cases x with
  | none =>
    simp only [optOf, Option.some.injEq] at hx
    subst hx
    simp only [act.optIdx, Option.some.injEq] at h
    exact .inl ⟨rfl, rfl, h.symm⟩
  | some y =>
    simp only [optOf] at hx
    obtain ⟨oy, h1, rfl⟩ := Option.map_eq_some_iff.1 hx
    simp only [act.optIdx] at h
    obtain ⟨⟨q, i⟩, h2, h3⟩ := Option.bind_eq_some_iff.1 h
    simp only [Option.some.injEq] at h3
    exact .inr ⟨y, q, i, rfl, h3.symm, idx_inv he h1 h2⟩

/-- The bounds of a cut, none, one or both given. -/
theorem run_bounds {lo hi mx : Option Operand} {l h m : Option Int} {len cap : Nat} (isS : Bool) (hlo : (lo = none ∧ l = none) ∨ ∃ y q i, lo = some y ∧ l = some i ∧ a.eval y = .int q i) (hhi : (hi = none ∧ h = none) ∨ ∃ y q i, hi = some y ∧ h = some i ∧ a.eval y = .int q i)
    (hmx : (mx = none ∧ m = none) ∨ ∃ y q i, mx = some y ∧ m = some i ∧ a.eval y = .int q i) (hm : m ≠ none → h ≠ none)
    (h0 : 0 ≤ l.getD 0) (h1 : l.getD 0 ≤ h.getD len) (h2 : h.getD len ≤ m.getD cap) (h3 : m.getD cap ≤ cap) :
    (Instr.sliceBounds isS len cap (lo.map a.eval) (hi.map a.eval) (mx.map a.eval)).run P w = .ok ((l.getD 0).toNat, (h.getD len).toNat, (m.getD cap).toNat) w := by
  have sb : ∀ (q : IntKind) (i : Int) (y : Nat) (code : BoundsCode), 0 ≤ i → i ≤ y → (Instr.sliceBound (.int q i) y code).run P w = .ok i.toNat w := fun q i y code x z => run_sliceBound (P := P) w q i y code x z
  rcases hmx with ⟨rfl, rfl⟩ | ⟨ym, qm, im, rfl, rfl, em⟩
  · rcases hhi with ⟨rfl, rfl⟩ | ⟨yh, qh, ih, rfl, rfl, eh⟩
    · rcases hlo with ⟨rfl, rfl⟩ | ⟨yl, ql, il, rfl, rfl, el⟩
      · simp [Instr.sliceBounds]
      · simp only [Option.getD_some, Option.getD_none] at *
        simp [Instr.sliceBounds, el, sb ql il len _ h0 h1]
    · rcases hlo with ⟨rfl, rfl⟩ | ⟨yl, ql, il, rfl, rfl, el⟩
      · simp only [Option.getD_some, Option.getD_none] at *
        simp [Instr.sliceBounds, eh, sb qh ih cap _ h1 h2]
      · simp only [Option.getD_some, Option.getD_none] at *
        simp [Instr.sliceBounds, eh, el, sb qh ih cap _ (by omega) h2, sb ql il ih.toNat _ h0 (by omega)]
  · rcases hhi with ⟨rfl, rfl⟩ | ⟨yh, qh, ih, rfl, rfl, eh⟩
    · exact absurd rfl (hm (by simp))
    · rcases hlo with ⟨rfl, rfl⟩ | ⟨yl, ql, il, rfl, rfl, el⟩
      · simp only [Option.getD_some, Option.getD_none] at *
        simp [Instr.sliceBounds, em, eh, sb qm im cap _ (by omega) h3, sb qh ih im.toNat _ h1 (by omega)]
      · simp only [Option.getD_some, Option.getD_none] at *
        simp [Instr.sliceBounds, em, eh, el, sb qm im cap _ (by omega) h3, sb qh ih im.toNat _ (by omega) (by omega), sb ql il ih.toNat _ h0 (by omega)]

/-- A plain slice, cut. -/
theorem VR0.cut {ex' : Bool} {es : List (List D)} {ad : Addr} {c sz zs l h c' : Nat} {f : Nat → Nat → Value} (hm : c ≤ maxLen) (hsz : 0 < sz) (hl : ∀ i (h : i < es.length), (es[i]).length = sz) (hs : 0 < es.length → ad.spot = none)
    (hI : ∀ i j, i < es.length → j < sz → I ad.block (ad.off + (i * sz + j))) (hcell : ∀ i j, i < es.length → j < sz → w.cell? ⟨ad.block, ad.off + (i * sz + j), none⟩ = some (f i j)) (h1 : ∀ i j, i < es.length → j < sz → (f i j).oneCell' = true)
    (hv : ∀ i (h : i < es.length) j (h' : j < (es[i]).length), VR0 I w ((es[i])[j]) (f i j)) (hlh : l ≤ h) (hhe : h ≤ es.length) (hc' : h ≤ c') (hcc : c' ≤ c) (hex : ex' = true → c' = h) (hz : l = 0 ∨ ∀ x ∈ es, x.length = zs) :
    VR0 I w (.sl ex' ((es.take h).drop l)) (.slice (if c' = l then some ad else (some ad).map (·.add (l * zs))) (h - l) (c' - l)) := by
  have hlen : ((es.take h).drop l).length = h - l := by simp; omega
  have hA' : ∃ ad', (if c' = l then some ad else (some ad).map (·.add (l * zs))) = some ad' ∧ (0 < h - l → ad' = ⟨ad.block, ad.off + l * sz, none⟩) := by
    split
    · exact ⟨ad, rfl, fun hp => by omega⟩
    · refine ⟨_, rfl, fun hp => ?_⟩
      have hne : 0 < es.length := by omega
      show ad.add (l * zs) = _
      rw [Addr.add_off (hs hne)]
      rcases hz with rfl | hz
      · simp
      · have := hz _ (List.getElem_mem hne)
        rw [hl 0 hne] at this
        rw [this]
  obtain ⟨ad', e, had⟩ := hA'
  rw [e]
  refine .sl sz (fun i j => f (l + i) j) hlen (by omega) (fun hx => by have := hex hx; omega) (by omega) hsz (fun i hi => ?_) (fun hp => by rw [had hp]) (fun i j hi hj => ?_) (fun i j hi hj => ?_) (fun i j hi hj => h1 _ _ (by omega) hj) (fun i hi j hj => ?_)
  · simp only [List.getElem_drop, List.getElem_take]; exact hl _ (by omega)
  · rw [had (by omega)]
    have := hI (l + i) j (by omega) hj
    rw [Nat.add_mul] at this
    rw [show ad.off + l * sz + (i * sz + j) = ad.off + (l * sz + i * sz + j) by omega]
    exact this
  · rw [had (by omega)]
    have := hcell (l + i) j (by omega) hj
    rw [Nat.add_mul] at this
    dsimp only
    rw [show ad.off + l * sz + (i * sz + j) = ad.off + (l * sz + i * sz + j) by omega]
    exact this
  · simp only [List.getElem_drop, List.getElem_take] at hj ⊢
    exact hv _ (by omega) j hj

theorem slc_ok (pc : Pc gh.G) {t el : TypeId} {sz : Nat} {x : Operand} {ox : Opd} {lo hi mx : Option Operand} {olo ohi omx : Option Opd} {p : D} {l h m : Option Int} (hh : Inv gh σ H I g.2 w) (he : EnvOk σ H I w n e a.tmps) (ho : o.op = .slice t x lo hi mx) (hx : opdOf x = some ox) (hlo : optOf lo = some olo) (hhi : optOf hi = some ohi) (hmx : optOf mx = some omx)
    (hu : P.underlying t = some (.slice el)) (hsz : szOf P el = some sz) (_hsz0 : 0 < sz) (hp : ox.ev e = some p) (hl : act.optIdx e olo = some l) (hhh : act.optIdx e ohi = some h) (hm : act.optIdx e omx = some m) (hmh : m ≠ none → h ≠ none)
    (hr : act pc o.dst (.slc sz ox olo ohi omx) e H g = some r) : ActOk gh P o a σ H I g.2 w r := by
  have hv := opd_ok he hx hp
  have jlo : (lo = none ∧ l = none) ∨ ∃ y q i, lo = some y ∧ l = some i ∧ a.eval y = .int q i := (optIdx_inv he hlo hl).imp (fun x => ⟨x.1, x.2.2⟩) id
  have jhi : (hi = none ∧ h = none) ∨ ∃ y q i, hi = some y ∧ h = some i ∧ a.eval y = .int q i := (optIdx_inv he hhi hhh).imp (fun x => ⟨x.1, x.2.2⟩) id
  have jmx : (mx = none ∧ m = none) ∨ ∃ y q i, mx = some y ∧ m = some i ∧ a.eval y = .int q i := (optIdx_inv he hmx hm).imp (fun x => ⟨x.1, x.2.2⟩) id
  have run : ∀ (ad : Option Addr) (len cap : Nat), a.eval x = .slice ad len cap → 0 ≤ l.getD 0 → l.getD 0 ≤ h.getD len → h.getD len ≤ m.getD cap → m.getD cap ≤ cap →
      OpRuns P o a w (.slice (if (m.getD cap).toNat = (l.getD 0).toNat then ad else ad.map (·.add ((l.getD 0).toNat * sz))) ((h.getD len).toNat - (l.getD 0).toNat) ((m.getD cap).toNat - (l.getD 0).toNat)) w := by
    intro ad len cap hval h0 h1 h2 h3
    refine .inl ?_
    have hb := run_bounds (P := P) (w := w) (a := a) true jlo jhi jmx hmh h0 h1 h2 h3
    simp [execOp, ho, Instr.sliceAt, Instr.slice, run_underlying hu, hval, hb, run_szOf hsz]
  simp only [act, hp, hl, hhh, hm, Option.bind_some] at hr
  cases p with
  | nilsl =>
    simp only at hr
    split at hr
    · rename_i hc
      have hval := hv.nilsl_inv
      have hl0 : (l.getD 0).toNat = 0 := by omega
      have hr0 := run none 0 0 hval (by omega) (by have := hc.2.1; simp only [Int.ofNat_zero] at *; omega) (by have := hc.2.1; have := hc.2.2; simp only [Int.ofNat_zero] at *; omega) (by have := hc.2.2; simp only [Int.ofNat_zero] at *; omega)
      refine .same hh (v := .slice none 0 0) ?_ (.imm .nilsl) hr
      have e1 : (h.getD ((0 : Nat) : Int)).toNat = 0 := by have := hc.2.1; simp only [Int.ofNat_zero] at *; omega
      have e2 : (m.getD ((0 : Nat) : Int)).toNat = 0 := by have := hc.2.2; simp only [Int.ofNat_zero] at *; omega
      rw [hl0, e1, e2] at hr0
      simpa using hr0
    · simp at hr
  | sl ex es =>
    obtain ⟨ad, c, sz', f, hval, hcap, hexc, hml, hs0', hel, hsp, hI, hcell, hone, hvr⟩ := hv.sl_inv
    have hz : ∀ {x : Int}, 0 ≤ x → (x = 0 ∨ (es.all fun c => decide (c.length = sz)) = true) → (x.toNat = 0 ∨ ∀ y ∈ es, y.length = sz) := by
      intro x hx0 hx
      rcases hx with rfl | hx
      · exact .inl rfl
      · exact .inr (fun y hy => by simpa using List.all_eq_true.1 hx y hy)
    cases m with
    | none =>
      simp only at hr
      split at hr
      · rename_i hc
        have hr0 := run (some ad) es.length c hval hc.1 hc.2.1 (by simp only [Option.getD_none]; omega) (by simp)
        simp only [Option.getD_none, Int.toNat_natCast] at hr0
        exact .same hh hr0 (.imm (VR0.cut hml hs0' hel hsp hI hcell hone hvr (by omega) (by omega) (by omega) (Nat.le_refl _) (fun hx => by cases hx) (hz hc.1 hc.2.2.2))) hr
      · simp at hr
    | some m =>
      simp only at hr
      split at hr
      · rename_i hc
        have hr0 := run (some ad) es.length c hval hc.1 hc.2.1 (by simp only [Option.getD_some]; omega) (by simp only [Option.getD_some]; omega)
        simp only [Option.getD_some] at hr0
        exact .same hh hr0 (.imm (VR0.cut hml hs0' hel hsp hI hcell hone hvr (by omega) (by omega) (by omega) (by omega) (fun _ => by rw [hc.2.2.1]) (hz hc.1 hc.2.2.2.2))) hr
      · simp at hr
  | arr k q nn =>
    obtain ⟨ad, cap, hc, z, g0, es, hval, hk, ha, hg, hat⟩ := hv.arr_inv
    cases m with
    | some m => simp at hr
    | none =>
      have key : (q = g0 ∧ nn ≤ es.length ∧ l.getD 0 = 0 ∧ 0 ≤ h.getD nn ∧ h.getD nn ≤ nn) → okD (.arr k q (h.getD nn).toNat) H g = some r → ActOk gh P o a σ H I g.2 w r := by
        rintro ⟨rfl, hn, hl0, hh0, hh1⟩ hr
        obtain ⟨_, hcap⟩ := hat rfl
        have hle : nn ≤ cap := by rw [hcap]; exact Nat.le_trans hn (arr_cells hh hk ha).2.2.1
        have hr0 := run (some ad) nn cap hval (by omega) (by omega) (by simp only [Option.getD_none]; omega) (by simp)
        simp only [Option.getD_none, Int.toNat_natCast, hl0, Int.toNat_zero, Nat.zero_mul, Nat.sub_zero] at hr0
        refine .same (v := .slice (some ad) (h.getD nn).toNat cap) hh ?_ (.arr hk ha hg hat) hr
        have : (if cap = 0 then some ad else Option.map (fun x => x.add 0) (some ad)) = some ad := by split <;> simp [Addr.add]
        rw [this] at hr0
        exact hr0
      simp only [hk] at hr
      cases hc with
      | vars _ => simp [HC.asArr] at ha
      | fvars _ => simp [HC.asArr] at ha
      | mp _ => simp [HC.asArr] at ha
      | arr sz' q' es' =>
        simp only [HC.asArr, Option.some.injEq, Prod.mk.injEq] at ha
        obtain ⟨rfl, rfl, rfl⟩ := ha
        simp only at hr
        split at hr
        · rename_i hc; exact key hc hr
        · simp at hr
      | farr sz' q' es' => simp at hr
  | _ => simp at hr

theorem slcS_ok {t : TypeId} {x : Operand} {ox : Opd} {lo hi : Option Operand} {olo ohi : Option Opd} {s : ByteArray} {l h : Option Int} (hh : Inv gh σ H I g.2 w) (he : EnvOk σ H I w n e a.tmps) (ho : o.op = .slice t x lo hi none) (hx : opdOf x = some ox) (hlo : optOf lo = some olo) (hhi : optOf hi = some ohi)
    (hu : P.underlying t = some .string) (hp : ox.ev e = some (.str s)) (hl : act.optIdx e olo = some l) (hhh : act.optIdx e ohi = some h)
    (h0 : 0 ≤ l.getD 0) (h1 : l.getD 0 ≤ h.getD s.size) (h2 : h.getD s.size ≤ s.size) (hr : okD (.str (s.extract (l.getD 0).toNat (h.getD s.size).toNat)) H g = some r) : ActOk gh P o a σ H I g.2 w r := by
  have hv := (opd_ok he hx hp).str_inv
  have jlo : (lo = none ∧ l = none) ∨ ∃ y q i, lo = some y ∧ l = some i ∧ a.eval y = .int q i := (optIdx_inv he hlo hl).imp (fun x => ⟨x.1, x.2.2⟩) id
  have jhi : (hi = none ∧ h = none) ∨ ∃ y q i, hi = some y ∧ h = some i ∧ a.eval y = .int q i := (optIdx_inv he hhi hhh).imp (fun x => ⟨x.1, x.2.2⟩) id
  have hb := run_bounds (P := P) (w := w) (a := a) (mx := none) (m := none) (len := s.size) (cap := s.size) false jlo jhi (.inl ⟨rfl, rfl⟩) (by simp) h0 h1 (by simpa using h2) (by simp)
  refine .same hh (.inl ?_) (.imm (.str _)) hr
  simp only [Option.map_none] at hb
  simp [execOp, ho, Instr.sliceAt, Instr.slice, run_underlying hu, hv, hb]
end Go.VM
end

section
namespace Go.VM
open Go Go.RowKit

variable {gh : Gh} {σ : Sg} {H H' : Hp} {I : Im} {g : Nat × gh.G} {w : World} {P : Program} {n : Nat} {e : Env} {a : Act} {o : Oper} {r : Res gh.G}

theorem VR.cell {d : D} {v : Value} (h : VR σ H I w d v) (hc : d.cellOk = true) : v.oneCell' = true := by
  cases h with
  | imm h => cases h <;> first | rfl | assumption | simp [D.cellOk] at hc
  | agg => simp [D.cellOk] at hc
  | tup => simp [D.cellOk] at hc
  | _ => rfl

/-- Cells on both sides. -/
structure CellsOk (R : D → Value → Prop) (cs : List D) (vs : Array Value) : Prop where
  len : cs.length = vs.size
  at_ : ∀ i (h : i < cs.length), R (cs[i]) (vs[i]'(len ▸ h))

theorem VR.cells {d : D} {v : Value} (h : VR σ H I w d v) (hc : d.cells.all D.cellOk = true) : CellsOk (fun d v => VR σ H I w d v ∧ v.oneCell' = true) d.cells v.cells := by
  by_cases ha : ∃ cs, d = .agg cs
  · obtain ⟨cs, rfl⟩ := ha
    obtain ⟨vs, rfl, hl, h1, hv⟩ := h.agg_inv
    exact ⟨hl, fun i hi => ⟨hv i hi, h1 i (hl ▸ hi)⟩⟩
  · have e1 : d.cells = [d] := by cases d <;> first | rfl | exact absurd ⟨_, rfl⟩ ha
    rw [e1] at hc ⊢
    have h1 : v.oneCell' = true := h.cell (by simpa using hc)
    have e2 : v.cells = #[v] := by cases v <;> first | rfl | simp [Value.oneCell'] at h1
    rw [e2]
    exact ⟨rfl, fun i hi => by
      have : i = 0 := by simp at hi; omega
      subst this
      exact ⟨h, h1⟩⟩

theorem VR0.cells {d : D} {v : Value} (h : VR0 I w d v) (hc : d.cells.all D.cellOk = true) : CellsOk (fun d v => VR0 I w d v ∧ v.oneCell' = true) d.cells v.cells := by
  by_cases ha : ∃ cs, d = .agg cs
  · obtain ⟨cs, rfl⟩ := ha
    cases h with
    | agg hl h1 hv => exact ⟨hl, fun i hi => ⟨hv i hi, h1 i (hl ▸ hi)⟩⟩
  · have e1 : d.cells = [d] := by cases d <;> first | rfl | exact absurd ⟨_, rfl⟩ ha
    rw [e1] at hc ⊢
    have h1 : v.oneCell' = true := (VR.imm (σ := fun _ => (0, 0)) (H := fun _ => none) h).cell (by simpa using hc)
    have e2 : v.cells = #[v] := by cases v <;> first | rfl | simp [Value.oneCell'] at h1
    rw [e2]
    exact ⟨rfl, fun i hi => by
      have : i = 0 := by simp at hi; omega
      subst this
      exact ⟨h, h1⟩⟩

def putV (vs : Array Value) (off : Nat) : List Value → Array Value
  | [] => vs
  | u :: us => putV (vs.setIfInBounds off u) (off + 1) us

theorem putV_eq (off : Nat) : ∀ (us : List Value) (vs : Array Value) (k : Nat), (us.zipIdx k).foldl (fun cs (p : Value × Nat) => cs.setIfInBounds (off + p.2) p.1) vs = putV vs (off + k) us
  | [], vs, k => rfl
  | u :: us, vs, k => by
    simp only [List.zipIdx_cons, List.foldl_cons, putV]
    rw [putV_eq off us _ (k + 1), Nat.add_assoc]

theorem putCells_ok {R : D → Value → Prop} : ∀ (ds : List D) (us : List Value) (off : Nat) {cs : List D} {vs : Array Value}, CellsOk R cs vs → ds.length = us.length → (∀ i (h : i < ds.length) (h' : i < us.length), R ds[i] us[i]) → CellsOk R (putCells cs off ds) (putV vs off us)
  | [], us, off, cs, vs, h, hl, hr => by
    obtain rfl : us = [] := List.eq_nil_of_length_eq_zero hl.symm
    exact h
  | d :: ds, [], off, cs, vs, h, hl, hr => by simp at hl
  | d :: ds, u :: us, off, cs, vs, h, hl, hr => by
    refine putCells_ok ds us (off + 1) (cs := cs.set off d) (vs := vs.setIfInBounds off u) ⟨by simpa using h.len, fun i hi => ?_⟩ (by simpa using hl) (fun i hi hi' => by
      have := hr (i + 1) (by simp; omega) (by simp; omega)
      simpa using this)
    have hi' : i < cs.length := by simpa using hi
    have hiv : i < vs.size := h.len ▸ hi'
    rw [List.getElem_set, Array.getElem_setIfInBounds hiv]
    split
    · exact hr 0 (by simp) (by simp)
    · exact h.at_ i hi'

theorem length_putCells : ∀ (ds cs : List D) (off : Nat), (putCells cs off ds).length = cs.length
  | [], cs, off => rfl
  | d :: ds, cs, off => by simp [putCells, length_putCells ds]

/-- The parts of a value that is built. -/
theorem setParts_ok {R : D → Value → Prop} {place : Nat → Option (Nat × Nat)} : ∀ (ps : List (Nat × Nat × D)) (qs : List (Nat × Value)) {cs cs' : List D} {vs : Array Value}, CellsOk R cs vs → setParts cs ps = some cs' → ps.length = qs.length →
    (∀ i (h : i < ps.length) (h' : i < qs.length), place (qs[i]).1 = some ((ps[i]).1, (ps[i]).2.1) ∧ ((ps[i]).2.2.cells.all D.cellOk = true → CellsOk R (ps[i]).2.2.cells (qs[i]).2.cells)) →
    ∃ vs', Instr.fill place vs qs = some vs' ∧ CellsOk R cs' vs'
  | [], qs, cs, cs', vs, h, hs, hl, _ => by
    obtain rfl : qs = [] := List.eq_nil_of_length_eq_zero hl.symm
    simp only [setParts, Option.some.injEq] at hs
    subst hs
    exact ⟨vs, rfl, h⟩
  | p :: ps, [], cs, cs', vs, h, hs, hl, _ => by simp at hl
  | (off, sz, d) :: ps, (i, v) :: qs, cs, cs', vs, h, hs, hl, hr => by
    simp only [setParts] at hs
    split at hs
    · rename_i hc
      obtain ⟨h1, h2⟩ := hr 0 (by simp) (by simp)
      have hcell := h2 hc.2.2
      simp only [List.getElem_cons_zero] at h1 hcell
      have e1 : v.cells.size = sz := by rw [← hcell.len]; exact hc.1
      have e2 : ¬ (v.cells.size ≠ sz ∨ off + v.cells.size > vs.size) := by
        rw [e1, ← h.len]; omega
      have e3 : v.cells.zipIdx.foldl (fun cs (p : Value × Nat) => cs.setIfInBounds (off + p.2) p.1) vs = putV vs off v.cells.toList := by
        rw [← Array.foldl_toList, Array.toList_zipIdx, putV_eq off v.cells.toList vs 0, Nat.add_zero]
      obtain ⟨vs', h3, h4⟩ := setParts_ok ps qs (putCells_ok d.cells v.cells.toList off h (by simpa using hcell.len) (fun i hi hi' => by simpa using hcell.at_ i hi)) hs (by simpa using hl) (fun i hi hi' => by
        have := hr (i + 1) (by simp; omega) (by simp; omega)
        simpa using this)
      refine ⟨vs', ?_, h4⟩
      rw [← h3, ← e3]
      conv => lhs; unfold Instr.fill
      simp only [h1]
      rw [if_neg (by simpa using e2)]
    · simp at hs

theorem alloc_inv (h : Inv gh σ H I g.2 w) {k : Nat} (hk : H k = none) {cs : List D} {vs : Array Value} (t : TypeId) (hc : CellsOk (fun d v => VR σ H I w d v ∧ v.oneCell' = true) cs vs) :
    ∃ σ', Inv gh σ' (H.set k (.vars cs)) I g.2 (w.alloc (.cells vs t)) ∧ StepOk gh σ H I g.2 w σ' (H.set k (.vars cs)) I g.2 (w.alloc (.cells vs t)) ∧ VR σ' (H.set k (.vars cs)) I (w.alloc (.cells vs t)) (.box k 0) (.pointer (some ⟨w.heap.size, 0, none⟩)) := by
  have hsz : (w.alloc (.cells vs t)).heap.size = w.heap.size + 1 := by simp
  obtain ⟨p1, p2⟩ := h.put (σ' := fun j => if j = k then (w.heap.size, 0) else σ j) (H' := H.set k (.vars cs)) (I' := I) (w' := w.alloc (.cells vs t)) k (.vars cs) (fun j hj => Hp.set_other H _ hj) (Hp.set_same H k _) (fun j hj => by simp [hj]) (fun _ _ x => x)
    (by omega) rfl rfl rfl (fun b hb _ => Below.heap_alloc w _ b hb) (by simp) (.inr (by simp)) (fun _ c0 h0 => by rw [hk] at h0; cases h0) (fun c0 h0 => by rw [hk] at h0; cases h0) (fun _ _ x => .inl x)
    (fun hw hks => ⟨t, vs, hc.len, by simp only [if_true]; exact Go.heap_alloc_new w _, fun i hi => (hc.at_ i (hc.len ▸ hi)).2, fun i hi => ((hc.at_ i hi).1).step (fun _ _ x => x) hw hks⟩)
  have hb : VR (fun j => if j = k then (w.heap.size, 0) else σ j) (H.set k (.vars cs)) I (w.alloc (.cells vs t)) (.box k 0) (.pointer (some ⟨((fun j => if j = k then (w.heap.size, 0) else σ j) k).1, 0, none⟩)) := .box (Hp.set_same H k _) rfl
  simp only [if_true] at hb
  exact ⟨_, p1, p2, hb⟩

theorem bx_ok {t : TypeId} {x : Operand} {ox : Opd} {d : D} {k : Nat} (h : Inv gh σ H I g.2 w) (he : EnvOk σ H I w n e a.tmps) (ho : o.op = .box t x) (hx : opdOf x = some ox) (hd : ox.ev e = some d) (hk : H k = none) (hc : d.cells.all D.cellOk = true)
    (hr : r = ⟨.box k 0, H.set k (.vars d.cells), g, .new⟩) : ActOk gh P o a σ H I g.2 w r := by
  subst hr
  obtain ⟨σ', p1, p2, p3⟩ := alloc_inv h hk t ((opd_ok he hx hd).cells hc)
  refine ⟨_, _, σ', I, .inl ?_, p1, p2, p3⟩
  simp [execOp, ho, Instr.box, newVar, newRow]

theorem ofVal_cells {v : Value} {d : D} (h : D.ofVal v = some d) : d.cells.all D.cellOk = true := by
  unfold D.ofVal at h
  split at h
  · obtain ⟨ds, h1, rfl⟩ := Option.map_eq_some_iff.1 h
    simp only [D.cells, List.all_eq_true]
    intro x hx
    obtain ⟨i, hi, rfl⟩ := List.getElem_of_mem hx
    obtain ⟨hl, hv⟩ := mapM_ofVal1 _ _ h1
    have := hv i hi (by omega)
    unfold D.ofVal1 at this
    split at this <;> first | (simp at this; done) | (simp only [Option.some.injEq] at this; rw [← this]; rfl)
  · unfold D.ofVal1 at h
    split at h <;> first | (simp at h; done) | (simp only [Option.some.injEq] at h; rw [← h]; rfl)

theorem alloc_ok {t : TypeId} {z : D} {k : Nat} (h : Inv gh σ H I g.2 w) (ho : o.op = .alloc t) (hz : zeroOf P t = some z) (hk : H k = none)
    (hr : r = ⟨.box k 0, H.set k (.vars z.cells), g, .new⟩) : ActOk gh P o a σ H I g.2 w r := by
  subst hr
  obtain ⟨v, h1, h2⟩ := run_zeroOf hz w
  obtain ⟨σ', p1, p2, p3⟩ := alloc_inv h hk t ((VR.imm (σ := σ) (H := H) (ofVal_ok (I := I) (w := w) h2)).cells (ofVal_cells h2))
  refine ⟨_, _, σ', I, .inl ?_, p1, p2, p3⟩
  simp [execOp, ho, Instr.alloc, h1, newVar, newRow]

theorem partsOf_ok {fields : Nat → Option (Nat × Nat)} : ∀ {ps : List (Nat × Operand)} {os : List (Nat × Nat × Opd)}, partsOf fields ps = some os → os.length = ps.length ∧ ∀ i (h : i < os.length) (h' : i < ps.length), fields (ps[i]).1 = some ((os[i]).1, (os[i]).2.1) ∧ opdOf (ps[i]).2 = some (os[i]).2.2
  | [], os, h => by
    simp only [partsOf, Option.some.injEq] at h
    subst h
    exact ⟨rfl, fun i hi => by simp at hi⟩
  | (i, x) :: ps, os, h => by
    simp only [partsOf] at h
    obtain ⟨f, h1, h⟩ := Option.bind_eq_some_iff.1 h
    obtain ⟨b, h2, h⟩ := Option.bind_eq_some_iff.1 h
    obtain ⟨os', h3, h⟩ := Option.bind_eq_some_iff.1 h
    simp only [Option.some.injEq] at h
    subst h
    obtain ⟨l, m⟩ := partsOf_ok h3
    refine ⟨by simp [l], fun i hi hi' => ?_⟩
    cases i with
    | zero => exact ⟨h1, h2⟩
    | succ i => exact m i (by simpa using hi) (by simpa using hi')

theorem evL_ok : ∀ {os : List Opd} {ds : List D}, Opd.evL e os = some ds → ds.length = os.length ∧ ∀ i (h : i < ds.length) (h' : i < os.length), (os[i]).ev e = some ds[i]
  | [], ds, h => by
    simp only [Opd.evL, Option.some.injEq] at h
    subst h
    exact ⟨rfl, fun i hi => by simp at hi⟩
  | x :: xs, ds, h => by
    simp only [Opd.evL] at h
    obtain ⟨d, h1, h⟩ := Option.bind_eq_some_iff.1 h
    obtain ⟨ds', h2, h⟩ := Option.bind_eq_some_iff.1 h
    simp only [Option.some.injEq] at h
    subst h
    obtain ⟨l, m⟩ := evL_ok h2
    refine ⟨by simp [l], fun i hi hi' => ?_⟩
    cases i with
    | zero => exact h1
    | succ i => exact m i (by simpa using hi) (by simpa using hi')

theorem mapM_places {fs : Array Field} (w : World) (hall : fs.toList.all (fun f => (P.info? f.type).isSome) = true) :
    (fs.mapM (m := Sem) fun f => do pure (f.offset, ← sizeOf f.type)).run P w = .ok (fs.map fun f => (f.offset, (szOf P f.type).getD 0)) w := by
  rw [Array.mapM_eq_mapM_toList]
  have : ∀ l : List Field, (l.all (fun f => (P.info? f.type).isSome) = true) → ((l.mapM (m := Sem) fun f => do pure (f.offset, ← sizeOf f.type))).run P w = .ok (l.map fun f => (f.offset, (szOf P f.type).getD 0)) w := by
    intro l
    induction l with
    | nil => intro _; rfl
    | cons f l ih =>
      intro hl
      simp only [List.all_cons, Bool.and_eq_true] at hl
      obtain ⟨i, hi⟩ := Option.isSome_iff_exists.1 hl.1
      have hs : szOf P f.type = some i.size := by simp [szOf, hi]
      simp only [List.mapM_cons, Sem.run_bind, run_szOf hs, Result.andThen_ok, Sem.run_pure, ih hl.2, List.map_cons, hs, Option.getD_some]
  rw [Sem.run_map, this _ hall]
  show Result.ok _ w = _
  congr 1
  apply Array.ext'
  simp

theorem build_parts {place : Nat → Option (Nat × Nat)} {ps : List (Nat × Operand)} {os : List (Nat × Nat × Opd)} {ds zero cs : List D} {vs : Array Value} (he : EnvOk σ H I w n e a.tmps) (hp : partsOf place ps = some os) (hev : Opd.evL e (os.map (·.2.2)) = some ds)
    (hs : setParts zero ((os.zip ds).map fun p => (p.1.1, p.1.2.1, p.2)) = some cs) (hz : CellsOk (fun d v => VR σ H I w d v ∧ v.oneCell' = true) zero vs) :
    ∃ vs', Instr.fill place vs (ps.map fun p => (p.1, a.eval p.2)) = some vs' ∧ CellsOk (fun d v => VR σ H I w d v ∧ v.oneCell' = true) cs vs' := by
  obtain ⟨l1, h1⟩ := partsOf_ok hp
  obtain ⟨l2, h2⟩ := evL_ok hev
  simp only [List.length_map] at l2
  refine setParts_ok _ _ hz hs (by simp; omega) (fun i hi hi' => ?_)
  simp only [List.length_map, List.length_zip] at hi
  simp only [List.length_map] at hi'
  simp only [List.getElem_map, List.getElem_zip]
  obtain ⟨a1, a2⟩ := h1 i (by omega) hi'
  have a3 := h2 i (by omega) (by simp; omega)
  simp only [List.getElem_map] at a3
  exact ⟨a1, fun hc => (opd_ok he a2 a3).cells hc⟩

theorem build_ok {t : TypeId} {parts : Array (Nat × Operand)} {place : Nat → Option (Nat × Nat)} {z : D} {os : List (Nat × Nat × Opd)} {ds cs : List D} (h : Inv gh σ H I g.2 w) (he : EnvOk σ H I w n e a.tmps) (ho : o.op = .build t parts) (hz : zeroOf P t = some z)
    (hp : partsOf place parts.toList = some os) (hev : Opd.evL e (os.map (·.2.2)) = some ds) (hs : setParts z.cells ((os.zip ds).map fun p => (p.1.1, p.1.2.1, p.2)) = some cs)
    (hrun : ∀ (vs : Array Value) (qs : Array (Nat × Value)) (vs' : Array Value) (zv : Value), (zeroValue t).run P w = .ok zv w → zv.cells = vs → Instr.fill place vs qs.toList = some vs' → (Instr.build t qs).run P w = .ok (.agg vs') w)
    (hr : okD (.agg cs) H g = some r) : ActOk gh P o a σ H I g.2 w r := by
  obtain ⟨v, h1, h2⟩ := run_zeroOf hz w
  have hzc := (VR.imm (σ := σ) (H := H) (ofVal_ok (I := I) (w := w) h2)).cells (ofVal_cells h2)
  obtain ⟨vs', h3, h4⟩ := build_parts he hp hev hs hzc
  have h5 := hrun v.cells (parts.map fun p => (p.1, a.eval p.2)) vs' v h1 rfl (by simpa using h3)
  refine .same h (.inl ?_) (.agg h4.len (fun i hi => (h4.at_ i (h4.len ▸ hi)).2) (fun i hi => (h4.at_ i hi).1)) hr
  simp only [execOp, ho]
  rw [Sem.run_bind, h5]
  rfl

theorem run_build_struct {t : TypeId} {fs : Array Field} (hu : P.underlying t = some (.struct fs)) (hall : fs.toList.all (fun f => (P.info? f.type).isSome) = true) (vs : Array Value) (qs : Array (Nat × Value)) (vs' : Array Value) (zv : Value) (hz : (zeroValue t).run P w = .ok zv w) (hvs : zv.cells = vs)
    (hf : Instr.fill (fun i : Nat => (fs[i]?).bind fun f : Field => (szOf P f.type).map fun s => (f.offset, s)) vs qs.toList = some vs') : (Instr.build t qs).run P w = .ok (.agg vs') w := by
  have hpl : ((fs.map fun f => (f.offset, (szOf P f.type).getD 0))[·]?) = (fun i : Nat => (fs[i]?).bind fun f : Field => (szOf P f.type).map fun s => (f.offset, s)) := by
    funext i
    rw [Array.getElem?_map]
    cases hi : fs[i]? with
    | none => rfl
    | some f =>
      have hm : f ∈ fs.toList := by
        obtain ⟨hlt, rfl⟩ := Array.getElem?_eq_some_iff.1 hi
        exact Array.getElem_mem_toList hlt
      obtain ⟨j, hj⟩ := Option.isSome_iff_exists.1 (List.all_eq_true.1 hall f hm)
      simp [szOf, hj]
  subst hvs
  have hm := mapM_places (P := P) w hall
  simp only [Instr.build, Sem.run_bind, hz, Result.andThen_ok, run_underlying hu, hm, hpl, hf, Sem.run_pure]

theorem run_build_array {t el : TypeId} {len s : Nat} (hu : P.underlying t = some (.array len el)) (hs : szOf P el = some s) (vs : Array Value) (qs : Array (Nat × Value)) (vs' : Array Value) (zv : Value) (hz : (zeroValue t).run P w = .ok zv w) (hvs : zv.cells = vs)
    (hf : Instr.fill (fun i => some (i * s, s)) vs qs.toList = some vs') : (Instr.build t qs).run P w = .ok (.agg vs') w := by
  subst hvs
  simp only [Instr.build, Sem.run_bind, hz, Result.andThen_ok, run_underlying hu, run_szOf hs, hf, Sem.run_pure]
end Go.VM
end

section
namespace Go.VM
open Go Go.RowKit

variable {gh : Gh} {σ : Sg} {H H' : Hp} {I : Im} {g : Nat × gh.G} {w : World} {P : Program} {n : Nat} {e : Env} {a : Act} {o : Oper} {r : Res gh.G}

theorem zerosD_ok {R : D → Value → Prop} {zero : List D} {zs : Array Value} (h : CellsOk R zero zs) (h0 : 0 < zero.length) : ∀ n, (zerosD zero n).length = n * zero.length ∧ ∀ k (hk : k < (zerosD zero n).length), R (zerosD zero n)[k] (zs[k % zs.size]!)
  | 0 => ⟨by simp [zerosD], fun k hk => by simp [zerosD] at hk⟩
  | n + 1 => by
    obtain ⟨l, m⟩ := zerosD_ok h h0 n
    refine ⟨by simp only [zerosD, List.length_append, l, Nat.add_mul]; omega, fun k hk => ?_⟩
    simp only [zerosD, List.length_append] at hk
    simp only [zerosD]
    by_cases hlt : k < zero.length
    · rw [List.getElem_append_left hlt, Nat.mod_eq_of_lt (h.len ▸ hlt), getElem!_pos zs k (h.len ▸ hlt)]
      exact h.at_ k hlt
    · rw [List.getElem_append_right (by omega)]
      have := m (k - zero.length) (by omega)
      rw [← h.len] at this ⊢
      rwa [Nat.mod_eq_sub_mod (by omega)]

theorem chunks_ok (sz : Nat) : ∀ (n : Nat) (cs : List D), cs.length = n * sz → (act.chunks sz n cs).length = n ∧ ∀ i (hi : i < (act.chunks sz n cs).length), ((act.chunks sz n cs)[i]).length = sz ∧ ∀ j (hj : j < ((act.chunks sz n cs)[i]).length), ∃ h : i * sz + j < cs.length, ((act.chunks sz n cs)[i])[j] = cs[i * sz + j]
  | 0, cs, h => ⟨rfl, fun i hi => by simp [act.chunks] at hi⟩
  | n + 1, cs, h => by
    have h' : (cs.drop sz).length = n * sz := by rw [List.length_drop, h, Nat.add_mul]; omega
    obtain ⟨l, m⟩ := chunks_ok sz n (cs.drop sz) h'
    have hle : sz ≤ cs.length := by rw [h, Nat.add_mul]; omega
    refine ⟨by simp [act.chunks, l], fun i hi => ?_⟩
    cases i with
    | zero =>
      refine (show (cs.take sz).length = sz ∧ ∀ j (hj : j < (cs.take sz).length), ∃ h : 0 * sz + j < cs.length, (cs.take sz)[j] = cs[0 * sz + j] from ⟨by simp; omega, fun j hj => ?_⟩)
      simp only [List.length_take] at hj
      exact ⟨by omega, by simp⟩
    | succ i =>
      have hi' : i < (act.chunks sz n (cs.drop sz)).length := by
        have : (act.chunks sz (n + 1) cs).length = (act.chunks sz n (cs.drop sz)).length + 1 := rfl
        omega
      obtain ⟨m1, m2⟩ := m i hi'
      refine (show ((act.chunks sz n (cs.drop sz))[i]).length = sz ∧ ∀ j (hj : j < ((act.chunks sz n (cs.drop sz))[i]).length), ∃ h : (i + 1) * sz + j < cs.length, ((act.chunks sz n (cs.drop sz))[i])[j] = cs[(i + 1) * sz + j] from ⟨m1, fun j hj => ?_⟩)
      obtain ⟨hx, hy⟩ := m2 j hj
      simp only [List.length_drop] at hx
      refine ⟨by rw [Nat.add_mul]; omega, ?_⟩
      rw [hy, List.getElem_drop]
      congr 1
      rw [Nat.add_mul]; omega

theorem partsOfS_ok : ∀ {ps : List (Nat × Operand)} {os : List (Nat × Opd)}, partsOfS ps = some os → os.length = ps.length ∧ ∀ i (h : i < os.length) (h' : i < ps.length), (ps[i]).1 = (os[i]).1 ∧ opdOf (ps[i]).2 = some (os[i]).2
  | [], os, h => by
    simp only [partsOfS, Option.some.injEq] at h
    subst h
    exact ⟨rfl, fun i hi => by simp at hi⟩
  | (i, x) :: ps, os, h => by
    simp only [partsOfS] at h
    obtain ⟨b, h2, h⟩ := Option.bind_eq_some_iff.1 h
    obtain ⟨os', h3, h⟩ := Option.bind_eq_some_iff.1 h
    simp only [Option.some.injEq] at h
    subst h
    obtain ⟨l, m⟩ := partsOfS_ok h3
    refine ⟨by simp [l], fun i hi hi' => ?_⟩
    cases i with
    | zero => exact ⟨rfl, h2⟩
    | succ i => exact m i (by simpa using hi) (by simpa using hi')

/-- Operands of a list, frozen. -/
theorem frzOps_ok {xs : List Operand} {ds ds' : List D} (h : Inv gh σ H I g.2 w) (hl : ds.length = xs.length) (hv : ∀ i (h : i < ds.length) (h' : i < xs.length), VR σ H I w ds[i] (a.eval xs[i])) (hf : frzL frz H ds = some (ds', H')) :
    ∃ I', Inv gh σ H' I' g.2 w ∧ StepOk gh σ H I g.2 w σ H' I' g.2 w ∧ VR0L I' w ds' (xs.map a.eval) :=
  frzL_ok (f := frz) (fun hh hv hf => frz_ok hh hv hf) ds (xs.map a.eval) h (by simpa using hl) (fun i hi hi' => by simpa using hv i hi (by simpa using hi')) hf

theorem bslice_ok {t el : TypeId} {m : Nat} {parts : Array (Nat × Operand)} {z : D} {os : List (Nat × Opd)} {ds ds' cs : List D} {eff : Eff} (h : Inv gh σ H I g.2 w) (he : EnvOk σ H I w n e a.tmps) (ho : o.op = .buildSlice t m parts) (hu : P.underlying t = some (.slice el)) (hz : zeroOf P el = some z) (hsz : szOf P el = some z.cells.length) (hs0 : 0 < z.cells.length)
    (hp : partsOfS parts.toList = some os) (hev : Opd.evL e (os.map (·.2)) = some ds) (hf : frzL frz H ds = some (ds', H')) (hs : setParts (zerosD z.cells m) ((os.zip ds').map fun q => (q.1.1 * z.cells.length, z.cells.length, q.2)) = some cs) (hroom : m * z.cells.length ≤ 16777216)
    (hr : r = ⟨.sl true (act.chunks z.cells.length m cs), H', g, eff⟩) : ActOk gh P o a σ H I g.2 w r := by
  subst hr
  obtain ⟨l1, h1⟩ := partsOfS_ok hp
  obtain ⟨l2, h2⟩ := evL_ok hev
  simp only [List.length_map] at l2
  have l0 : os.length = parts.size := by simpa using l1
  obtain ⟨I1, i1, s1, v1⟩ := frzOps_ok (a := a) (xs := parts.toList.map (·.2)) h (by simp; omega) (fun i hi hi' => by
    simp only [List.getElem_map]
    simp only [List.length_map] at hi'
    have a3 := h2 i hi (by simp; omega)
    simp only [List.getElem_map] at a3
    exact opd_ok he (h1 i (by omega) hi').2 a3) hf
  obtain ⟨zv, z1, z2⟩ := run_zeroOf hz w
  have hzc := (ofVal_ok (I := I1) (w := w) z2).cells (ofVal_cells z2)
  obtain ⟨k1, k2⟩ := zerosD_ok hzc hs0 m
  let zs : Array Value := (Array.range (m * z.cells.length)).map (zv.cells[· % zv.cells.size]!)
  have hzs : CellsOk (fun d v => VR0 I1 w d v ∧ v.oneCell' = true) (zerosD z.cells m) zs := ⟨by simp [zs, k1], fun i hi => by
    have := k2 i hi
    simpa [zs] using this⟩
  have hpl : ∃ vs', Instr.fill (fun i => some (i * z.cells.length, z.cells.length)) zs (parts.toList.map fun p => (p.1, a.eval p.2)) = some vs' ∧ CellsOk (fun d v => VR0 I1 w d v ∧ v.oneCell' = true) cs vs' := by
    have l3 : ds'.length = parts.size := by simpa using v1.1
    refine setParts_ok _ _ hzs hs (by simp only [List.length_map, List.length_zip, Array.length_toList]; omega) (fun i hi hi' => ?_)
    simp only [List.length_map, List.length_zip] at hi
    simp only [List.length_map] at hi'
    simp only [List.getElem_map, List.getElem_zip]
    refine ⟨by rw [(h1 i (by omega) hi').1], fun hc => ?_⟩
    have := v1.2 i (by omega) (by simp; omega)
    simp only [List.getElem_map] at this
    exact this.cells hc
  obtain ⟨vs', f1, f2⟩ := hpl
  have hcs : cs.length = m * z.cells.length := by
    have : ∀ (ps : List (Nat × Nat × D)) (x y : List D), setParts x ps = some y → y.length = x.length := by
      intro ps
      induction ps with
      | nil => intro x y hh; simp only [setParts, Option.some.injEq] at hh; rw [hh]
      | cons p ps ih =>
        obtain ⟨p1, p2, p3⟩ := p
        intro x y hh
        simp only [setParts] at hh
        split at hh
        · rw [ih _ _ hh, length_putCells]
        · simp at hh
    rw [this _ _ _ hs, k1]
  have hrun : (Instr.buildSlice t m (parts.map fun p => (p.1, a.eval p.2))).run P w = .ok (.slice (some ⟨w.heap.size, 0, none⟩) m m) (w.alloc (.cells vs' el)) := by
    have hno : ¬ (m * z.cells.length > 2 ^ 24) := by omega
    have hfill : Instr.fill (fun i => some (i * z.cells.length, z.cells.length)) ((Array.range (m * z.cells.length)).map (zv.cells[· % zv.cells.size]!)) ((parts.map fun p => (p.1, a.eval p.2)).toList) = some vs' := by simpa using f1
    by_cases hm0 : m * z.cells.length = 0
    · have hz0 : (Array.range (m * z.cells.length)).map (zv.cells[· % zv.cells.size]!) = (Array.range (m * z.cells.length)).map ((#[] : Array Value)[· % (#[] : Array Value).size]!) := by
        simp [hm0]
      rw [hz0] at hfill
      simp only [Instr.buildSlice, Sem.run_bind, run_underlying hu, run_szOf hsz, Result.andThen_ok, if_neg hno, Sem.run_pure, if_pos hm0, hfill, newRow, run_newObj]
      rfl
    · simp only [Instr.buildSlice, Sem.run_bind, run_underlying hu, run_szOf hsz, Result.andThen_ok, if_neg hno, Sem.run_pure, if_neg hm0, z1, hfill, newRow, run_newObj]
      rfl
  have hnew := Go.heap_alloc_new w (.cells vs' el)
  have hsize : vs'.size = m * z.cells.length := by rw [← f2.len, hcs]
  have hcell : ∀ k (hk : k < vs'.size), (w.alloc (.cells vs' el)).cell? ⟨w.heap.size, k, none⟩ = some vs'[k] := fun k hk => by rw [cellAt hnew, Array.getElem?_eq_getElem hk]
  obtain ⟨p1, p2⟩ := i1.grow (I' := fun b o => I1 b o ∨ (b = w.heap.size ∧ o < vs'.size)) (g' := g.2) (w' := w.alloc (.cells vs' el)) (fun _ _ x => .inl x) (by simp) rfl rfl rfl (fun b hb _ => Below.heap_alloc w _ b hb)
    (fun b k hb => by
      rcases hb with x | ⟨rfl, hk⟩
      · exact .inl x
      · exact .inr ⟨Nat.le_refl _, fun hf => by have := gh.lt g.2 w _ i1.ghost hf; omega, _, hcell k hk⟩)
    (gh.keep g.2 w _ (fun b hb => Below.heap_alloc w _ b (gh.lt g.2 w b i1.ghost hb)) (by simp) i1.ghost) (fun b hb => .inl hb)
  obtain ⟨c1, c2⟩ := chunks_ok z.cells.length m cs hcs
  refine ⟨.slice (some ⟨w.heap.size, 0, none⟩) m m, _, σ, _, .inl ?_, p1, s1.trans p2, .imm ?_⟩
  · simp only [execOp, ho]
    rw [Sem.run_bind, hrun]
    rfl
  · have hmm : m ≤ maxLen := by
      have : m ≤ m * z.cells.length := Nat.le_mul_of_pos_right _ hs0
      simp only [maxLen]; omega
    have hidx : ∀ i j, i < m → j < z.cells.length → i * z.cells.length + j < vs'.size := fun i j hi hj => by
      rw [hsize]
      calc i * z.cells.length + j < i * z.cells.length + z.cells.length := by omega
        _ = (i + 1) * z.cells.length := by rw [Nat.add_mul]; omega
        _ ≤ m * z.cells.length := Nat.mul_le_mul_right _ hi
    refine .sl z.cells.length (fun i j => (vs'[i * z.cells.length + j]?).getD Go.undef) c1 (Nat.le_refl _) (fun _ => rfl) hmm hs0 (fun i hi => (c2 i hi).1) (fun _ => rfl) (fun i j hi hj => ?_) (fun i j hi hj => ?_) (fun i j hi hj => ?_) (fun i hi j hj => ?_)
    · exact .inr ⟨rfl, by simpa using hidx i j hi hj⟩
    · have := hcell _ (hidx i j hi hj)
      simp only [Nat.zero_add]
      rw [this, Array.getElem?_eq_getElem (hidx i j hi hj)]; rfl
    · show ((vs'[i * z.cells.length + j]?).getD Go.undef).oneCell' = true
      rw [Array.getElem?_eq_getElem (hidx i j hi hj)]
      exact (f2.at_ _ (by rw [f2.len]; exact hidx i j hi hj)).2
    · obtain ⟨hx, hy⟩ := (c2 i hi).2 j hj
      have hlt : i * z.cells.length + j < vs'.size := by rw [← f2.len]; exact hx
      show VR0 _ _ _ ((vs'[i * z.cells.length + j]?).getD Go.undef)
      rw [hy, Array.getElem?_eq_getElem hlt]
      exact ((f2.at_ _ hx).1).mono (fun _ _ x => .inl x) (fun b k hb => p2.hw b k hb)

/-! ### Stores -/
theorem putV_get : ∀ (us : List Value) (off : Nat) (vs : Array Value) (m : Nat), (putV vs off us)[m]? = if off ≤ m ∧ m < off + us.length ∧ m < vs.size then us[m - off]? else vs[m]?
  | [], off, vs, m => by
    rw [if_neg (by simp; omega)]; rfl
  | u :: us, off, vs, m => by
    rw [putV, putV_get us (off + 1) _ m]
    simp only [Array.size_setIfInBounds, List.length_cons]
    by_cases h1 : off = m
    · subst h1
      rw [if_neg (by omega)]
      by_cases h2 : off < vs.size
      · rw [if_pos (by omega)]; simp [Array.getElem?_setIfInBounds, h2]
      · rw [if_neg (by omega)]; simp [Array.getElem?_setIfInBounds, h2]
    · by_cases h2 : off + 1 ≤ m ∧ m < off + 1 + us.length ∧ m < vs.size
      · rw [if_pos h2, if_pos (by omega)]
        obtain ⟨k, rfl⟩ : ∃ k, m = off + 1 + k := ⟨m - (off + 1), by omega⟩
        rw [show off + 1 + k - (off + 1) = k by omega, show off + 1 + k - off = k + 1 by omega]
        simp
      · rw [if_neg h2, if_neg (by omega), Array.getElem?_setIfInBounds, if_neg (by omega)]
theorem putCells_get : ∀ (us : List D) (off : Nat) (vs : List D) (m : Nat), (putCells vs off us)[m]? = if off ≤ m ∧ m < off + us.length ∧ m < vs.length then us[m - off]? else vs[m]?
  | [], off, vs, m => by
    rw [if_neg (by simp; omega)]; rfl
  | u :: us, off, vs, m => by
    rw [putCells, putCells_get us (off + 1) _ m]
    simp only [List.length_set, List.length_cons]
    by_cases h1 : off = m
    · subst h1
      rw [if_neg (by omega)]
      by_cases h2 : off < vs.length
      · rw [if_pos (by omega)]; simp [List.getElem?_set, h2]
      · rw [if_neg (by omega)]; simp [List.getElem?_set, h2]
    · by_cases h2 : off + 1 ≤ m ∧ m < off + 1 + us.length ∧ m < vs.length
      · rw [if_pos h2, if_pos (by omega)]
        obtain ⟨k, rfl⟩ : ∃ k, m = off + 1 + k := ⟨m - (off + 1), by omega⟩
        rw [show off + 1 + k - (off + 1) = k by omega, show off + 1 + k - off = k + 1 by omega]
        simp
      · rw [if_neg h2, if_neg (by omega), List.getElem?_set, if_neg (by omega)]
theorem size_putV : ∀ (us : List Value) (vs : Array Value) (off : Nat), (putV vs off us).size = vs.size
  | [], vs, off => rfl
  | u :: us, vs, off => by simp [putV, size_putV us]
theorem run_storeV (g : Nat) (t : TypeId) (off : Nat) : ∀ (us : List Value) (i : Nat) (w : World) (vs : Array Value), w.heap[g]? = some (.cells vs t (0, 0)) → off + i + us.length ≤ vs.size → (∀ u ∈ us, u.oneCell' = true) →
    ∃ w', (storeCells ⟨g, off, none⟩ us i).run P w = .ok () w' ∧ w'.heap[g]? = some (.cells (putV vs (off + i) us) t (0, 0)) ∧ w'.heap.size = w.heap.size ∧ (∀ b, b ≠ g → w'.heap[b]? = w.heap[b]?) ∧ w'.os = w.os ∧ w'.tape = w.tape ∧ w'.output = w.output
  | [], i, w, vs, hg, _, _ => ⟨w, rfl, hg, rfl, fun _ _ => rfl, rfl, rfl, rfl⟩
  | u :: us, i, w, vs, hg, hl, h1 => by
    simp only [List.length_cons] at hl
    have hlt : off + i < vs.size := by omega
    have hst : (store ((⟨g, off, none⟩ : Addr).add i) u).run P w = .ok () (w.setCell ⟨g, off + i, none⟩ u) := by
      rw [Addr.add_lit, run_store P w _ u _ (h1 u (by simp)), cellAt hg, Array.getElem?_eq_getElem hlt]
      simp only
      rw [frozen_of_row w g (off + i) vs t hg]
      rfl
    have hg' : (w.setCell ⟨g, off + i, none⟩ u).heap[g]? = some (.cells (vs.setIfInBounds (off + i) u) t (0, 0)) := by
      simp [World.setCell, Array.getElem?_modify, hg]
    obtain ⟨w', r1, r2, r3, r4, r5, r6, r7⟩ := run_storeV g t off us (i + 1) (w.setCell ⟨g, off + i, none⟩ u) (vs.setIfInBounds (off + i) u) hg' (by simp; omega) (fun u hu => h1 u (by simp [hu]))
    refine ⟨w', ?_, ?_, ?_, fun b hb => ?_, r5, r6, r7⟩
    · simp only [storeCells, Sem.run_bind, hst, Result.andThen_ok, r1]
    · rw [r2]; rfl
    · rw [r3]; simp [World.setCell]
    · rw [r4 b hb, Below.heap_setCell w _ _ _ hb]

theorem VR.cells_run {d : D} {v : Value} (h : VR σ H I w d v) (hc : d.cells.all D.cellOk = true) : v.cells.size = d.cells.length ∧ ∀ u ∈ v.cells.toList, u.oneCell' = true := by
  have := h.cells hc
  refine ⟨this.len.symm, fun u hu => ?_⟩
  obtain ⟨i, hi, rfl⟩ := List.getElem_of_mem hu
  have hi' : i < d.cells.length := by rw [this.len]; simpa using hi
  simpa using (this.at_ i hi').2

theorem storeBox_ok {t : TypeId} {x y : Operand} {ox oy : Opd} {k off sz : Nat} {cs : List D} {d : D} {eff : Eff} (h : Inv gh σ H I g.2 w) (he : EnvOk σ H I w n e a.tmps) (ho : o.op = .store t x y) (hx : opdOf x = some ox) (hy : opdOf y = some oy) (hsz : szOf P t = some sz)
    (h1 : ox.ev e = some (.box k off)) (h2 : oy.ev e = some d) (hl : d.cells.length = sz) (hc : d.cells.all D.cellOk = true) (hk : H k = some (.vars cs)) (hle : off + sz ≤ cs.length)
    (hr : r = ⟨.undef, H.set k (.vars (putCells cs off d.cells)), g, eff⟩) : ActOk gh P o a σ H I g.2 w r := by
  subst hr
  obtain ⟨c, hkc, _, hax⟩ := (opd_ok he hx h1).box_inv
  have hvy := opd_ok he hy h2
  have hcy := hvy.cells hc
  obtain ⟨l1, l2⟩ := hvy.cells_run hc
  have hkey := h.key k _ hk
  obtain ⟨t', vs, hlen, b1, b2, b3⟩ := hkey
  obtain ⟨w', r1, r2, r3, r4, r5, r6, r7⟩ := run_storeV (P := P) (σ k).1 t' off (a.eval y).cells.toList 0 w vs b1 (by simp; omega) l2
  have hrun : (storeVar t ⟨(σ k).1, off, none⟩ (a.eval y)).run P w = .ok () w' := by
    simp only [storeVar, Sem.run_bind, run_szOf hsz, Result.andThen_ok]
    rw [if_neg (by rw [l1, hl]; simp)]
    exact r1
  have hput := putCells_ok (R := fun d v => VR σ H I w d v ∧ v.oneCell' = true) d.cells (a.eval y).cells.toList off (cs := cs) (vs := vs) ⟨hlen, fun i hi => ⟨b3 i hi, b2 i (hlen ▸ hi)⟩⟩ (by simpa using hcy.len) (fun i hi hi' => by simpa using hcy.at_ i hi)
  obtain ⟨p1, p2⟩ := h.put (σ' := σ) (H' := H.set k (.vars (putCells cs off d.cells))) (I' := I) (w' := w') k (.vars (putCells cs off d.cells)) (fun j hj => Hp.set_other H _ hj) (Hp.set_same H k _) (fun _ _ => rfl) (fun _ _ x => x)
    (by omega) r5 r6 r7 (fun b _ hb => r4 b (hb _ hk rfl)) (by rw [r3]; exact h.lt k (by simp [hk])) (.inl ⟨by simp [hk], rfl⟩) (fun _ c0 h0 => by rw [hk] at h0; obtain rfl := Option.some.inj h0; rfl)
    (fun c0 h0 => by rw [hk] at h0; obtain rfl := Option.some.inj h0; exact ⟨⟨_, rfl, fun _ => ⟨rfl, rfl⟩, fun _ _ _ ha => by simp [HC.asArr] at ha⟩⟩) (fun _ _ x => .inl x)
    (fun hw hks => ⟨t', _, hput.len, by rw [Nat.add_zero] at r2; exact r2, fun i hi => (hput.at_ i (hput.len ▸ hi)).2, fun i hi => ((hput.at_ i hi).1).step (fun _ _ x => x) hw hks⟩)
  refine ⟨Go.undef, w', σ, I, .inr ⟨?_, rfl⟩, p1, p2, .imm .undef⟩
  simp only [execOp, ho, Instr.storeAt, hax, Instr.sureAddr]
  rw [Sem.run_bind, Sem.run_bind, Sem.run_pure, Result.andThen_ok, hrun]
  rfl

theorem VR.norm {d : D} {v : Value} (h : VR σ H I w d v) : VR σ H I w d.norm v := by
  cases d with
  | sl ex es => cases h with | imm h => exact .imm h.exact
  | _ => exact h

theorem storeArr_ok {t : TypeId} {x y : Operand} {ox oy : Opd} {k q i j sz z : Nat} {es : List (List D)} {c : List D} {d : D} {eff : Eff} (h : Inv gh σ H I g.2 w) (he : EnvOk σ H I w n e a.tmps) (ho : o.op = .store t x y) (hx : opdOf x = some ox) (hy : opdOf y = some oy) (hsz : szOf P t = some sz)
    (h1 : ox.ev e = some (.aptr k q i j)) (h2 : oy.ev e = some d) (hl : d.cells.length = sz) (hc : d.cells.all D.cellOk = true) (hk : H k = some (.arr z q es)) (hi : es[i]? = some c) (hle : j + sz ≤ c.length)
    (hr : r = ⟨.undef, H.set k (.arr z q (es.set i (putCells c j (d.cells.map D.norm)))), g, eff⟩) : ActOk gh P o a σ H I g.2 w r := by
  subst hr
  have hvy := opd_ok he hy h2
  have hcy := hvy.cells hc
  obtain ⟨l1, l2⟩ := hvy.cells_run hc
  have v1 : ∀ i (hi : i < (d.cells.map D.norm).length) (hi' : i < (a.eval y).cells.toList.length), VR σ H I w (d.cells.map D.norm)[i] (a.eval y).cells.toList[i] := fun i hi hi' => by
    simp only [List.length_map] at hi
    simp only [List.getElem_map, Array.getElem_toList]
    exact ((hcy.at_ i hi).1).norm
  generalize hfs : d.cells.map D.norm = fs at v1 ⊢
  obtain ⟨ad, hc', z', g0, es', hax, hk', ha', hg, hat⟩ := (opd_ok he hx h1).aptr_inv
  rw [hk] at hk'
  obtain rfl := Option.some.inj hk'
  simp only [HC.asArr, Option.some.injEq, Prod.mk.injEq] at ha'
  obtain ⟨rfl, rfl, rfl⟩ := ha'
  obtain rfl := hat rfl
  obtain ⟨b0, b1, t', vs, b2, b3, b4, b5, b6⟩ := h.key k _ hk
  obtain ⟨hlt, rfl⟩ := List.getElem?_eq_some_iff.1 hi
  have hcl : (es[i]).length = z := b1 _ (List.getElem_mem hlt)
  have hfl : fs.length = d.cells.length := by rw [← hfs]; simp
  have hroom : i * z + j + sz ≤ vs.size := by
    rw [b3]
    calc i * z + j + sz ≤ i * z + z := by omega
      _ = (i + 1) * z := by rw [Nat.add_mul]; omega
      _ ≤ (σ k).2 * z := Nat.mul_le_mul_right _ (by omega)
  obtain ⟨w', r1, r2, r3, r4, r5, r6, r7⟩ := run_storeV (P := P) (σ k).1 t' (i * z + j) (a.eval y).cells.toList 0 w vs b2 (by simp; omega) l2
  have hrun : (storeVar t ⟨(σ k).1, i * z + j, none⟩ (a.eval y)).run P w = .ok () w' := by
    simp only [storeVar, Sem.run_bind, run_szOf hsz, Result.andThen_ok]
    rw [if_neg (by rw [l1, hl]; simp)]
    exact r1
  have hul : (a.eval y).cells.toList.length = sz := by simp; omega
  obtain ⟨p1, p2⟩ := h.put (σ' := σ) (H' := H.set k (.arr z q (es.set i (putCells es[i] j fs)))) (I' := I) (w' := w') k (.arr z q (es.set i (putCells es[i] j fs))) (fun j hj => Hp.set_other H _ hj) (Hp.set_same H k _) (fun _ _ => rfl) (fun _ _ x => x)
    (by omega) r5 r6 r7 (fun b _ hb => r4 b (hb _ hk rfl)) (by rw [r3]; exact h.lt k (by simp [hk])) (.inl ⟨by simp [hk], rfl⟩) (fun _ c0 h0 => by rw [hk] at h0; obtain rfl := Option.some.inj h0; rfl)
    (fun c0 h0 => by rw [hk] at h0; obtain rfl := Option.some.inj h0; exact ⟨⟨_, rfl, fun hv => by simp [HC.isV] at hv, fun sz g es ha => by
      simp only [HC.asArr, Option.some.injEq, Prod.mk.injEq] at ha
      obtain ⟨rfl, rfl, rfl⟩ := ha
      exact ⟨_, _, rfl, Nat.le_refl _, fun _ => rfl⟩⟩⟩) (fun _ _ x => .inl x)
    (fun hw hks => by
      refine ⟨b0, fun c hc => ?_, t', _, by rw [Nat.add_zero] at r2; exact r2, by rw [size_putV]; exact b3, by simpa using b4, b5, fun i' hi' j' hj' => ?_⟩
      · rcases List.mem_or_eq_of_mem_set hc with x | x
        · exact b1 c x
        · rw [x, length_putCells]; exact hcl
      · simp only [List.length_set] at hi'
        have hcl' : ((es.set i (putCells es[i] j fs))[i']).length = z := by
          rw [List.getElem_set]
          split
          · rw [length_putCells]; exact hcl
          · exact b1 _ (List.getElem_mem hi')
        have hj2 : j' < z := by omega
        have hget := putV_get (a.eval y).cells.toList (i * z + j) vs (i' * z + j')
        have hsz' : i' * z + j' < vs.size := by
          rw [b3]
          calc i' * z + j' < i' * z + z := by omega
            _ = (i' + 1) * z := by rw [Nat.add_mul]; omega
            _ ≤ (σ k).2 * z := Nat.mul_le_mul_right _ (by omega)
        by_cases hii : i = i'
        · subst hii
          have hgd := putCells_get fs j es[i] j'
          have hset : (es.set i (putCells es[i] j fs))[i] = putCells es[i] j fs := by simp
          by_cases hin : j ≤ j' ∧ j' < j + sz
          · rw [if_pos (by omega)] at hget
            rw [if_pos (by omega)] at hgd
            have e1 : i * z + j' - (i * z + j) = j' - j := by omega
            rw [e1] at hget
            have hlt1 : j' - j < fs.length := by omega
            have hlt2 : j' - j < (a.eval y).cells.toList.length := by omega
            rw [List.getElem?_eq_getElem hlt2] at hget
            rw [List.getElem?_eq_getElem hlt1] at hgd
            refine ⟨_, hget, l2 _ (List.getElem_mem hlt2), ?_⟩
            have e2 : ((es.set i (putCells es[i] j fs))[i])[j'] = fs[j' - j] := by
              have := List.getElem?_eq_some_iff.1 hgd
              obtain ⟨hx, hy⟩ := this
              simp only [hset]
              exact hy
            rw [e2]
            exact (v1 _ hlt1 hlt2).step (fun _ _ x => x) hw hks
          · rw [if_neg (by omega)] at hget
            rw [if_neg (by omega)] at hgd
            have hj3 : j' < (es[i]).length := by omega
            obtain ⟨v, q1, q2, q3⟩ := b6 i hlt j' hj3
            refine ⟨v, by rw [hget]; exact q1, q2, ?_⟩
            rw [List.getElem?_eq_getElem hj3] at hgd
            have e2 : ((es.set i (putCells es[i] j fs))[i])[j'] = (es[i])[j'] := by
              have := List.getElem?_eq_some_iff.1 hgd
              obtain ⟨hx, hy⟩ := this
              simp only [hset]
              exact hy
            rw [e2]
            exact q3.step (fun _ _ x => x) hw hks
        · have hout : ¬ (i * z + j ≤ i' * z + j' ∧ i' * z + j' < i * z + j + (a.eval y).cells.toList.length ∧ i' * z + j' < vs.size) := by
            rintro ⟨x1, x2, _⟩
            rcases Nat.lt_or_gt_of_ne hii with hlt' | hgt
            · have : (i + 1) * z ≤ i' * z := Nat.mul_le_mul_right _ hlt'
              rw [Nat.add_mul] at this
              omega
            · have : (i' + 1) * z ≤ i * z := Nat.mul_le_mul_right _ hgt
              rw [Nat.add_mul] at this
              omega
          rw [if_neg hout] at hget
          have hset : (es.set i (putCells es[i] j fs))[i'] = es[i'] := by rw [List.getElem_set, if_neg hii]
          have hj3 : j' < (es[i']).length := by rw [b1 _ (List.getElem_mem hi')]; exact hj2
          obtain ⟨v, q1, q2, q3⟩ := b6 i' hi' j' hj3
          refine ⟨v, by rw [hget]; exact q1, q2, ?_⟩
          simp only [hset]
          exact q3.step (fun _ _ x => x) hw hks)
  refine ⟨Go.undef, w', σ, I, .inr ⟨?_, rfl⟩, p1, p2, .imm .undef⟩
  simp only [execOp, ho, Instr.storeAt, hax, Instr.sureAddr]
  rw [Sem.run_bind, Sem.run_bind, Sem.run_pure, Result.andThen_ok, hrun]
  rfl

theorem mkfn_ok {f : FuncId} {first caps : Array Operand} {os : List Opd} {ds ds' : List D} {eff : Eff} (h : Inv gh σ H I g.2 w) (he : EnvOk σ H I w n e a.tmps) (ho : o.op = .makeFunc (.func f) first caps) (hfirst : first.isEmpty = true) (hx : opdsOf caps.toList = some os)
    (hev : Opd.evL e os = some ds) (hf : frzL frz H ds = some (ds', H')) (hr : r = ⟨.fn f ds', H', g, eff⟩) : ActOk gh P o a σ H I g.2 w r := by
  subst hr
  obtain ⟨l1, h1⟩ := opds_ok he hx hev
  obtain ⟨I1, i1, s1, v1⟩ := frzOps_ok (a := a) h l1 h1 hf
  obtain rfl : first = #[] := by simpa using hfirst
  refine ⟨.func (.func f) #[] (caps.map a.eval), w, σ, I1, .inl ?_, i1, s1, .imm (.fn (by simpa using v1.1) (fun i hi => ?_))⟩
  · simp [execOp, ho, Instr.makeFunc]
  · have := v1.2 i hi (by rw [← v1.1]; exact hi)
    simpa using this

theorem mkfnS_ok {f : FuncId} {first caps : Array Operand} {os : List Opd} {ds : List D} (h : Inv gh σ H I g.2 w) (he : EnvOk σ H I w n e a.tmps) (ho : o.op = .makeFunc (.func f) first caps) (hfirst : first.isEmpty = true) (hx : opdsOf caps.toList = some os)
    (hev : Opd.evL e os = some ds) (hr : okD (.fnS f ds) H g = some r) : ActOk gh P o a σ H I g.2 w r := by
  obtain ⟨l1, h1⟩ := opds_ok he hx hev
  obtain rfl : first = #[] := by simpa using hfirst
  refine .same h (v := .func (.func f) #[] (caps.map a.eval)) (.inl ?_) (.fnS (by simpa using l1) (fun i hi => ?_)) hr
  · simp [execOp, ho, Instr.makeFunc]
  · have := h1 i hi (by rw [← l1]; exact hi)
    simpa using this
end Go.VM
end

section
namespace Go.VM
open Go Go.RowKit

variable {gh : Gh} {σ : Sg} {H H' : Hp} {I : Im} {g : Nat × gh.G} {w : World} {P : Program} {n : Nat} {e : Env} {a : Act} {o : Oper} {r : Res gh.G}

/-- A row of elements: their cells, one behind the other. -/
structure RowL (R : D → Value → Prop) (sz : Nat) (es : List (List D)) (L : List Value) : Prop where
  len : L.length = es.length * sz
  uni : ∀ c ∈ es, c.length = sz
  at_ : ∀ i (h : i < es.length) j (_ : j < (es[i]).length), ∃ v, L[i * sz + j]? = some v ∧ v.oneCell' = true ∧ R ((es[i])[j]) v

theorem RowL.nil (R : D → Value → Prop) (sz : Nat) : RowL R sz [] [] := ⟨by simp, by simp, fun i h => by simp at h⟩
theorem idx_lt {n sz i j : Nat} (hi : i < n) (hj : j < sz) : i * sz + j < n * sz := by
  calc i * sz + j < i * sz + sz := by omega
    _ = (i + 1) * sz := by rw [Nat.add_mul]; omega
    _ ≤ n * sz := Nat.mul_le_mul_right _ hi
theorem RowL.append {R : D → Value → Prop} {sz : Nat} {es ys : List (List D)} {L M : List Value} (h : RowL R sz es L) (k : RowL R sz ys M) : RowL R sz (es ++ ys) (L ++ M) := by
  refine ⟨by simp [h.len, k.len, Nat.add_mul], fun c hc => ?_, fun i hi j hj => ?_⟩
  · rcases List.mem_append.1 hc with x | x
    · exact h.uni c x
    · exact k.uni c x
  · by_cases hlt : i < es.length
    · have e1 : (es ++ ys)[i] = es[i] := List.getElem_append_left hlt
      have hj' : j < (es[i]).length := by rw [← e1]; exact hj
      obtain ⟨v, a, b, c⟩ := h.at_ i hlt j hj'
      refine ⟨v, ?_, b, ?_⟩
      · rw [List.getElem?_append_left (by rw [h.len]; exact idx_lt hlt (by rw [← h.uni _ (List.getElem_mem hlt)]; exact hj'))]; exact a
      · simp only [e1]; exact c
    · have hi' : i - es.length < ys.length := by simp at hi; omega
      have e1 : (es ++ ys)[i] = ys[i - es.length] := List.getElem_append_right (by omega)
      have hj' : j < (ys[i - es.length]).length := by rw [← e1]; exact hj
      obtain ⟨v, a, b, c⟩ := k.at_ _ hi' j hj'
      refine ⟨v, ?_, b, ?_⟩
      · have e2 : i * sz = es.length * sz + (i - es.length) * sz := by rw [← Nat.add_mul]; congr 1; omega
        rw [List.getElem?_append_right (by rw [h.len]; omega), h.len]
        rw [show i * sz + j - es.length * sz = (i - es.length) * sz + j by omega]
        exact a
      · simp only [e1]; exact c

theorem RowL.mono {R R' : D → Value → Prop} {sz : Nat} {es : List (List D)} {L : List Value} (h : RowL R sz es L) (hR : ∀ d v, R d v → R' d v) : RowL R' sz es L :=
  ⟨h.len, h.uni, fun i hi j hj => by
    obtain ⟨v, a, b, c⟩ := h.at_ i hi j hj
    exact ⟨v, a, b, hR _ _ c⟩⟩

/-- Elements in memory, as a row. -/
theorem row_of {R : D → Value → Prop} {sz : Nat} {es : List (List D)} {f : Nat → Nat → Value} {ad : Addr} (hsz : 0 < sz) (huni : ∀ i (h : i < es.length), (es[i]).length = sz) (hs : 0 < es.length → ad.spot = none)
    (h : ∀ i (hi : i < es.length) j (hj : j < (es[i]).length), w.cell? ⟨ad.block, ad.off + (i * sz + j), none⟩ = some (f i j) ∧ (f i j).oneCell' = true ∧ R ((es[i])[j]) (f i j)) :
    ∃ L, RowL R sz es L ∧ (∀ j v, L[j]? = some v → w.cell? (ad.add j) = some v) ∧ ∀ u ∈ L, u.oneCell' = true := by
  have hdm : ∀ k, k < es.length * sz → k / sz < es.length ∧ k % sz < sz ∧ k / sz * sz + k % sz = k := fun k hk =>
    ⟨(Nat.div_lt_iff_lt_mul hsz).2 hk, Nat.mod_lt _ hsz, by rw [Nat.mul_comm]; exact Nat.div_add_mod k sz⟩
  have hall : ∀ k (hk : k < es.length * sz), w.cell? ⟨ad.block, ad.off + k, none⟩ = some (f (k / sz) (k % sz)) ∧ (f (k / sz) (k % sz)).oneCell' = true := fun k hk => by
    obtain ⟨h1, h2, h3⟩ := hdm k hk
    obtain ⟨a, b, _⟩ := h (k / sz) h1 (k % sz) (by rw [huni _ h1]; exact h2)
    rw [h3] at a
    exact ⟨a, b⟩
  refine ⟨(List.range (es.length * sz)).map fun k => f (k / sz) (k % sz), ⟨by simp, fun c hc => ?_, fun i hi j hj => ?_⟩, fun j v hv => ?_, fun u hu => ?_⟩
  · obtain ⟨i, hi, rfl⟩ := List.getElem_of_mem hc
    exact huni i hi
  · have hj' : j < sz := by rw [← huni i hi]; exact hj
    obtain ⟨a, b, c⟩ := h i hi j hj
    have e1 : (i * sz + j) / sz = i := by rw [Nat.mul_comm, Nat.mul_add_div hsz, Nat.div_eq_of_lt hj', Nat.add_zero]
    have e2 : (i * sz + j) % sz = j := by rw [Nat.mul_comm, Nat.mul_add_mod, Nat.mod_eq_of_lt hj']
    refine ⟨f i j, ?_, b, c⟩
    rw [List.getElem?_map, List.getElem?_range (idx_lt hi hj')]
    simp [e1, e2]
  · rw [List.getElem?_map] at hv
    obtain ⟨k, hk, rfl⟩ := Option.map_eq_some_iff.1 hv
    obtain ⟨hlt, hk'⟩ := List.getElem?_eq_some_iff.1 hk
    simp only [List.length_range] at hlt
    simp only [List.getElem_range] at hk'
    subst hk'
    have hpos : 0 < es.length := by
      rcases Nat.eq_zero_or_pos es.length with x | x
      · rw [x] at hlt; simp at hlt
      · exact x
    rw [Addr.add_off (hs hpos)]
    exact (hall j hlt).1
  · obtain ⟨k, hk, rfl⟩ := List.mem_map.1 hu
    exact (hall k (by simpa using hk)).2

/-- A slice's elements, in memory. -/
theorem elems_ok (h : Inv gh σ H I g.2 w) {d : D} {v : Value} {ys : List (List D)} (hv : VR σ H I w d v) (he : elems H d = some ys) :
    ∃ (ao : Option Addr) (c : Nat), v = .slice ao ys.length c ∧ ys.length ≤ c ∧ (ao = none → d = .nilsl ∧ c = 0) ∧ (∀ ad, ao = some ad → ∃ sz L, 0 < sz ∧ RowL (VR σ H I w) sz ys L ∧ (∀ j v, L[j]? = some v → w.cell? (ad.add j) = some v) ∧ ∀ u ∈ L, u.oneCell' = true) := by
  cases d with
  | nilsl =>
    simp only [elems, Option.some.injEq] at he
    subst he
    exact ⟨none, 0, hv.nilsl_inv, Nat.le_refl _, fun _ => ⟨rfl, rfl⟩, fun ad h => by cases h⟩
  | sl ex es =>
    simp only [elems, Option.some.injEq] at he
    subst he
    obtain ⟨ad, c, sz, f, hval, hc, hex, hm, hsz, hl, hs, hI, hcell, h1, hv'⟩ := hv.sl_inv
    obtain ⟨L, r1, r2, r3⟩ := row_of (R := VR σ H I w) hsz hl hs (fun i hi j hj => ⟨hcell i j hi (by rw [← hl i hi]; exact hj), h1 i j hi (by rw [← hl i hi]; exact hj), .imm (hv' i hi j hj)⟩)
    exact ⟨some ad, c, hval, hc, fun h => (by cases h), fun ad' h => by cases h; exact ⟨sz, L, hsz, r1, r2, r3⟩⟩
  | arr k q m =>
    obtain ⟨ad, cap, hc, sz, g0, es, hval, hk, ha, hg, hat⟩ := hv.arr_inv
    have key : (q = g0 ∧ m ≤ es.length) → ys = es.take m → _ := fun (hq : q = g0 ∧ m ≤ es.length) (hy : ys = es.take m) => (by
      obtain ⟨h0, h1, h2, h3, f, h4⟩ := arr_cells h hk ha
      obtain ⟨rfl, rfl⟩ := hat hq.1
      have hlen : ys.length = m := by rw [hy]; simp; omega
      obtain ⟨L, r1, r2, r3⟩ := row_of (R := VR σ H I w) (w := w) (es := ys) (f := f) (ad := ⟨(σ k).1, 0, none⟩) h0 (fun i hi => by subst hy; simp only [List.getElem_take]; exact h1 _ (List.getElem_mem _)) (fun _ => rfl) (fun i hi j hj => by
        subst hy
        simp only [List.getElem_take] at hj ⊢
        have := h4 i (by simp at hi; omega) j hj
        simpa using this)
      exact ⟨some ⟨(σ k).1, 0, none⟩, (σ k).2, by rw [hval, hlen], by omega, fun h => (by cases h), fun ad' h => by cases h; exact ⟨sz, L, h0, r1, r2, r3⟩⟩ :
      ∃ (ao : Option Addr) (c : Nat), v = .slice ao ys.length c ∧ ys.length ≤ c ∧ (ao = none → D.arr k q m = .nilsl ∧ c = 0) ∧ (∀ ad, ao = some ad → ∃ sz L, 0 < sz ∧ RowL (VR σ H I w) sz ys L ∧ (∀ j v, L[j]? = some v → w.cell? (ad.add j) = some v) ∧ ∀ u ∈ L, u.oneCell' = true))
    simp only [elems, hk] at he
    cases hc with
    | vars _ => simp [HC.asArr] at ha
    | fvars _ => simp [HC.asArr] at ha
    | mp _ => simp [HC.asArr] at ha
    | arr sz' q' es' =>
      simp only [HC.asArr, Option.some.injEq, Prod.mk.injEq] at ha
      obtain ⟨rfl, rfl, rfl⟩ := ha
      simp only at he
      split at he
      · rename_i hq
        simp only [Option.some.injEq] at he
        exact key hq he.symm
      · simp at he
    | farr sz' q' es' =>
      simp only [HC.asArr, Option.some.injEq, Prod.mk.injEq] at ha
      obtain ⟨rfl, rfl, rfl⟩ := ha
      simp only at he
      split at he
      · rename_i hq
        simp only [Option.some.injEq] at he
        exact key hq he.symm
      · simp at he
  | _ => simp [elems] at he

theorem RowL.size {R : D → Value → Prop} {sz sz' : Nat} {ys : List (List D)} {L : List Value} (h : RowL R sz ys L) (hne : ys ≠ []) (hall : ∀ c ∈ ys, c.length = sz') : sz = sz' := by
  obtain ⟨c, cs, rfl⟩ := List.exists_cons_of_ne_nil hne
  rw [← h.uni c (by simp), hall c (by simp)]

theorem RowL.norm {sz : Nat} {ys : List (List D)} {L : List Value} (h : RowL (VR σ H I w) sz ys L) : RowL (VR σ H I w) sz (ys.map (·.map D.norm)) L := by
  refine ⟨by simpa using h.len, fun c hc => ?_, fun i hi j hj => ?_⟩
  · obtain ⟨c', hc', rfl⟩ := List.mem_map.1 hc
    simpa using h.uni c' hc'
  · simp only [List.length_map] at hi
    simp only [List.getElem_map, List.length_map] at hj ⊢
    obtain ⟨v, a, b, c⟩ := h.at_ i hi j hj
    exact ⟨v, a, b, c.norm⟩

/-- The array that has grown lies in a new block. -/
theorem arr_new (h : Inv gh σ H I g.2 w) {k sz q cap : Nat} {es : List (List D)} {L rest : List Value} (t : TypeId) (hsz : 0 < sz) (hr : RowL (VR σ H I w) sz es L) (hcap : es.length ≤ cap) (hm : cap ≤ maxLen) (hlen : (L ++ rest).length = cap * sz)
    (hk : H k = none ∨ ∃ q0 es0, H k = some (.arr sz q0 es0) ∧ q0 < q) :
    ∃ σ', Inv gh σ' (H.set k (.arr sz q es)) I g.2 (w.drew.alloc (.cells (L ++ rest).toArray t)) ∧ StepOk gh σ H I g.2 w σ' (H.set k (.arr sz q es)) I g.2 (w.drew.alloc (.cells (L ++ rest).toArray t)) ∧
      VR σ' (H.set k (.arr sz q es)) I (w.drew.alloc (.cells (L ++ rest).toArray t)) (.arr k q es.length) (.slice (some ⟨w.heap.size, 0, none⟩) es.length cap) := by
  have hnew : (w.drew.alloc (.cells (L ++ rest).toArray t)).heap[w.heap.size]? = some (.cells (L ++ rest).toArray t (0, 0)) := Go.heap_alloc_new w.drew _
  have hold : ∀ b, b < w.heap.size → (w.drew.alloc (.cells (L ++ rest).toArray t)).heap[b]? = w.heap[b]? := fun b hb => Below.heap_alloc w.drew _ b hb
  have hsize : (w.drew.alloc (.cells (L ++ rest).toArray t)).heap.size = w.heap.size + 1 := by simp
  obtain ⟨p1, p2⟩ := h.put (σ' := fun j => if j = k then (w.heap.size, cap) else σ j) (H' := H.set k (.arr sz q es)) (I' := I) (w' := w.drew.alloc (.cells (L ++ rest).toArray t)) k (.arr sz q es) (fun j hj => Hp.set_other H _ hj) (Hp.set_same H k _) (fun j hj => by simp [hj]) (fun _ _ x => x)
    (by omega) rfl rfl rfl (fun b hb _ => hold b hb) (by simp only [if_true]; omega) (.inr (by simp)) (fun _ c0 h0 => by
      rcases hk with x | ⟨q0, es0, x, _⟩
      · rw [x] at h0; cases h0
      · rw [x] at h0; obtain rfl := Option.some.inj h0; rfl)
    (fun c0 h0 => by
      rcases hk with x | ⟨q0, es0, x, hlt⟩
      · rw [x] at h0; cases h0
      · rw [x] at h0
        obtain rfl := Option.some.inj h0
        exact ⟨⟨_, rfl, fun hv => by simp [HC.isV] at hv, fun sz' g' es' ha => by
          simp only [HC.asArr, Option.some.injEq, Prod.mk.injEq] at ha
          obtain ⟨rfl, rfl, rfl⟩ := ha
          exact ⟨_, _, rfl, by omega, fun he => by omega⟩⟩⟩)
    (fun _ _ x => .inl x)
    (fun hw hks => ⟨hsz, hr.uni, t, (L ++ rest).toArray, by simp only [if_true]; exact hnew, by simp only [if_true]; simpa using hlen, by simpa using hcap, by simpa using hm, fun i hi j hj => by
      obtain ⟨v, a, b, c⟩ := hr.at_ i hi j hj
      refine ⟨v, ?_, b, c.step (fun _ _ x => x) hw hks⟩
      have hlt : i * sz + j < L.length := (List.getElem?_eq_some_iff.1 a).1
      rw [List.getElem?_toArray, List.getElem?_append_left hlt]; exact a⟩)
  refine ⟨_, p1, p2, .arr (Hp.set_same H k _) rfl (Nat.le_refl _) (fun _ => by simp)⟩

theorem run_append_room' {t ty el : TypeId} {i : TypeInfo} (ht : P.underlying t = some (.slice el)) (hi : P.info? el = some i)
    (b sLen sCap : Nat) (cur : Array Value) (tb : TypeId) (hg : w.heap[b]? = some (.cells cur tb (0, 0)))
    (ad : Addr) (m c : Nat) (news : List Value) (hl : news.length = m * i.size) (hnews : ∀ j u, news[j]? = some u → w.cell? (ad.add j) = some u) (h1 : ∀ u ∈ news, u.oneCell' = true)
    (hroom : sLen + m ≤ sCap) (hfit : sLen * i.size + news.length ≤ cur.size) :
    ∃ w', (Builtin.append_ #[t, t] ty #[.slice (some ⟨b, 0, none⟩) sLen sCap, .slice (some ad) m c]).run P w = .ok (.slice (some ⟨b, 0, none⟩) (sLen + m) sCap) w' ∧
      w'.heap[b]? = some (.cells (putV cur (sLen * i.size) news) tb (0, 0)) ∧ w'.heap.size = w.heap.size ∧ (∀ x, x ≠ b → w'.heap[x]? = w.heap[x]?) ∧ w'.os = w.os ∧ w'.tape = w.tape ∧ w'.output = w.output := by
  have hf := run_firstCells_some (P := P) w i.size m ad m c news hl hnews
  obtain ⟨w', r1, r2⟩ := run_storeV (P := P) b tb (sLen * i.size) news 0 w cur hg (by simpa using hfit) h1
  rw [Nat.add_zero] at r2
  exact ⟨w', by simp [Builtin.append_, run_underlying ht, sizeOf, typeInfo, hi, Builtin.lenOf, hroom, hf, Addr.add_lit, r1], r2⟩

theorem run_append_none {t ty el : TypeId} {i : TypeInfo} (ht : P.underlying t = some (.slice el)) (hi : P.info? el = some i) (ao : Option Addr) (sLen sCap : Nat) (hle : sLen ≤ sCap) (bo : Option Addr) (c : Nat) :
    (Builtin.append_ #[t, t] ty #[.slice ao sLen sCap, .slice bo 0 c]).run P w = .ok (.slice ao sLen sCap) w := by
  cases ao <;> cases bo <;> simp [Builtin.append_, run_underlying ht, sizeOf, typeInfo, hi, Builtin.lenOf, hle, Builtin.firstCells, loadCells, loadCellsFrom, storeCells]
end Go.VM
end

section
namespace Go.VM
open Go Go.RowKit

variable {gh : Gh} {σ : Sg} {H H' : Hp} {I : Im} {g : Nat × gh.G} {w : World} {P : Program} {n : Nat} {e : Env} {a : Act} {o : Oper} {r : Res gh.G}

theorem nat_room {b m : Nat} (hb : 0 < b) (h : ¬ b * m > roomBytes) : m ≤ maxLen ∧ m * b ≤ 140737488355328 := by
  have h1 : m ≤ b * m := Nat.le_mul_of_pos_left _ hb
  simp only [roomBytes] at h
  simp only [maxLen]
  rw [Nat.mul_comm m b]
  omega

theorem lenZ (z : Array Value) (n : Nat) : ((Builtin.zeroCells z n).toList).length = n * z.size := by
  rw [Array.length_toList, size_zeroCells]

theorem append_ok (pc : Pc gh.G) {c : Call} {x y : Operand} {ox oy : Opd} {t el : TypeId} {i : TypeInfo} {z : Value} (h : Inv gh σ H I g.2 w) (he : EnvOk σ H I w n e a.tmps) (ho : o.op = .call c) (hc : c.callee = .builtin .append) (hargs : c.args.toList = [x, y]) (hty : c.argTypes.toList = [t, t]) (hx : opdOf x = some ox) (hy : opdOf y = some oy)
    (hu : P.underlying t = some (.slice el)) (hi : P.info? el = some i) (hz : i.zero = some z) (hzs : z.cells.size = i.size) (hs0 : 0 < i.size) (hb0 : 0 < i.bytes) {key : Option Nat} (hr : act pc key (.append i.size i.bytes ox oy) e H g = some r) : ActOk gh P o a σ H I g.2 w r := by
  obtain ⟨callee, args, argTypes⟩ := c
  simp only at hc hargs hty
  subst hc
  obtain rfl : args = #[x, y] := by cases args; simp_all
  obtain rfl : argTypes = #[t, t] := by cases argTypes; simp_all
  have exec : ∀ (v : Value) (w' : World), (Builtin.append_ #[t, t] o.type #[a.eval x, a.eval y]).run P w = .ok v w' → OpRuns P o a w v w' := by
    intro v w' hrun
    refine .inl ?_
    simp only [execOp, ho, resolve, invoke, builtin, Sem.run_bind, Sem.run_pure, Result.andThen_ok, List.map_toArray, List.map_cons, List.map_nil, hrun]
  simp only [act] at hr
  obtain ⟨d, h1, hr⟩ := Option.bind_eq_some_iff.1 hr
  obtain ⟨dy, h2, hr⟩ := Option.bind_eq_some_iff.1 hr
  obtain ⟨os, h3, hr⟩ := Option.bind_eq_some_iff.1 hr
  obtain ⟨ys0, h4, hr⟩ := Option.bind_eq_some_iff.1 hr
  generalize hys0 : ys0.map (fun c => c.map D.norm) = ys at hr
  have hylen : ys0.length = ys.length := by rw [← hys0]; simp
  have hvx := opd_ok he hx h1
  have hvy := opd_ok he hy h2
  obtain ⟨ao, cx, hax, hcx, hnx, hrx⟩ := elems_ok h hvx h3
  obtain ⟨bo, cy, hay, hcy, hny, hry⟩ := elems_ok h hvy h4
  split at hr
  · -- nothing is appended
    rename_i hemp
    have hys : ys0 = [] := by simpa using hemp
    subst hys
    refine .same (v := a.eval x) h (exec _ _ ?_) hvx hr
    rw [hax, hay]
    exact run_append_none hu hi ao os.length cx hcx bo cy
  · rename_i hemp
    have hne0 : ys0 ≠ [] := by simpa using hemp
    have hne : ys ≠ [] := by rw [← hys0]; simpa using hne0
    rw [hylen] at hay hcy
    have hpos : 0 < ys.length := List.length_pos_iff.2 hne
    split at hr
    · rename_i hall
      have hall' : ∀ c ∈ ys, c.length = i.size := fun c hc => by simpa using List.all_eq_true.1 hall c hc
      cases bo with
      | none =>
        obtain ⟨rfl, rfl⟩ := hny rfl
        simp only [elems, Option.some.injEq] at h4
        exact absurd h4.symm hne0
      | some bd =>
        obtain ⟨sy, M, hsy, r0, r2, r3⟩ := hry bd rfl
        have r1 := r0.norm
        rw [hys0] at r1
        obtain rfl : sy = i.size := r1.size hne hall'
        cases d with
        | nilsl =>
          simp only [elems, Option.some.injEq] at h3
          subst h3
          obtain rfl : ao = none := by
            have := hvx.nilsl_inv
            rw [hax] at this
            injection this
          have hcx0 := (hnx rfl).2
          subst hcx0
          simp only at hr
          obtain ⟨k, hk, hr⟩ := Option.bind_eq_some_iff.1 hr
          split at hr
          · simp at hr
          · rename_i hcond
            simp only [Bool.or_eq_true, decide_eq_true_eq, not_or] at hcond
            simp only [Option.some.injEq] at hr
            subst hr
            have hkn : H k = none := by simpa [hdef] using hcond.1
            obtain ⟨b1, b2⟩ := nat_room hb0 hcond.2
            have hrun := run_append_nil (P := P) w t o.type el i z hu hi hz bd ys.length cy M r1.len r2 hpos (by simp only [maxLen] at b1; omega) (by omega)
            have hge := grownCap_ge w ys.length 0 el
            have hcm := grownCap_le_maxLen w ys.length 0 el b1
            have hlist : (M.toArray ++ Builtin.zeroCells z.cells (grownCap w ys.length 0 el - ys.length)) = (M ++ (Builtin.zeroCells z.cells (grownCap w ys.length 0 el - ys.length)).toList).toArray := by
              apply Array.ext'; simp
            have hlen : (M ++ (Builtin.zeroCells z.cells (grownCap w ys.length 0 el - ys.length)).toList).length = grownCap w ys.length 0 el * i.size := by
              rw [List.length_append, r1.len, lenZ, hzs, ← Nat.add_mul]
              congr 1; omega
            obtain ⟨σ', p1, p2, p3⟩ := arr_new h (k := k) (q := 0) el hs0 r1 hge hcm hlen (.inl hkn)
            refine ⟨_, _, σ', I, exec _ _ ?_, p1, p2, p3⟩
            rw [hax, hay, List.length_nil, hrun, hlist]
        | sl ex es =>
          cases ex with
          | false => simp at hr
          | true =>
            simp only [elems, Option.some.injEq] at h3
            subst h3
            simp only at hr
            obtain ⟨k, hk, hr⟩ := Option.bind_eq_some_iff.1 hr
            split at hr
            · simp at hr
            · rename_i hcond
              simp only [Bool.or_eq_true, decide_eq_true_eq, not_or] at hcond
              split at hr
              · rename_i halle
                simp only [Option.some.injEq] at hr
                subst hr
                have hkn : H k = none := by simpa [hdef] using hcond.1
                obtain ⟨b1, b2⟩ := nat_room hb0 hcond.2
                cases ao with
                | none => exact absurd (hnx rfl).1 (by simp)
                | some ad =>
                  have hcap : cx = es.length := by
                    obtain ⟨a', c', _, _, hval, _, hexc, _⟩ := hvx.sl_inv
                    rw [hax] at hval
                    injection hval with _ _ e3
                    rw [e3]; exact hexc rfl
                  subst hcap
                  obtain ⟨sx, L, hsx, q1, q2, q3⟩ := hrx ad rfl
                  have hL : RowL (VR σ H I w) i.size es L ∧ (∀ j v, L[j]? = some v → w.cell? (ad.add j) = some v) := by
                    by_cases hes : es = []
                    · subst hes
                      have : L = [] := List.eq_nil_of_length_eq_zero (by simpa using q1.len)
                      subst this
                      exact ⟨RowL.nil _ _, fun j v h => by simp at h⟩
                    · obtain rfl : sx = i.size := q1.size hes (fun c hc => by simpa using List.all_eq_true.1 halle c hc)
                      exact ⟨q1, q2⟩
                  have hfit := growslice_fits (need := es.length + ys.length) (old := es.length) (bytes := i.bytes) (by omega) b2
                  have hrun := run_append_grow (P := P) w t o.type el i z hu hi hz ad es.length es.length L hL.1.len hL.2 bd ys.length cy M r1.len r2 (by omega) (by simp only [maxLen] at b1; omega) hfit
                  have hge := grownCap_ge w (es.length + ys.length) es.length el
                  have hcm := grownCap_le_maxLen w (es.length + ys.length) es.length el b1
                  have hlist : (L.toArray ++ M.toArray ++ Builtin.zeroCells z.cells (grownCap w (es.length + ys.length) es.length el - (es.length + ys.length))) = ((L ++ M) ++ (Builtin.zeroCells z.cells (grownCap w (es.length + ys.length) es.length el - (es.length + ys.length))).toList).toArray := by
                    apply Array.ext'; simp
                  have hlen : ((L ++ M) ++ (Builtin.zeroCells z.cells (grownCap w (es.length + ys.length) es.length el - (es.length + ys.length))).toList).length = grownCap w (es.length + ys.length) es.length el * i.size := by
                    rw [List.length_append, List.length_append, hL.1.len, r1.len, lenZ, hzs, ← Nat.add_mul, ← Nat.add_mul]
                    congr 1; omega
                  obtain ⟨σ', p1, p2, p3⟩ := arr_new h (k := k) (q := 0) (es := es.map (fun c => c.map D.norm) ++ ys) el hs0 (hL.1.norm.append r1) (by simpa using hge) hcm hlen (.inl hkn)
                  refine ⟨_, _, σ', I, exec _ _ ?_, p1, p2, by simpa using p3⟩
                  rw [hax, hay, hrun, hlist]
              · simp at hr
        | arr k q m =>
          simp only at hr
          obtain ⟨ad, cap, hc, sz, g0, es, hval, hk, ha, hg, hat⟩ := hvx.arr_inv
          rw [hk] at hr
          cases hc with
          | vars _ => simp at hr
          | fvars _ => simp at hr
          | mp _ => simp at hr
          | farr _ _ _ => simp at hr
          | arr sz' q' es' =>
            simp only [HC.asArr, Option.some.injEq, Prod.mk.injEq] at ha
            obtain ⟨rfl, rfl, rfl⟩ := ha
            simp only at hr
            split at hr
            · rename_i hcond
              obtain ⟨rfl, hszeq, hroom⟩ := hcond
              simp only [Option.some.injEq] at hr
              subst hr
              obtain ⟨b1, b2⟩ := nat_room hb0 hroom
              obtain ⟨rfl, rfl⟩ := hat rfl
              -- the elements so far
              simp only [elems, hk] at h3
              split at h3
              · rename_i hq
                simp only [Option.some.injEq] at h3
                have hosl : os.length = m := by rw [← h3]; simp; omega
                rw [hval] at hax
                injection hax with e1 e2 e3
                subst e1
                obtain ⟨sx, L, hsx, q1, q2, q3⟩ := hrx _ rfl
                obtain ⟨b0, bu, t', vs, hb2, hb3, hb4, hb5, hb6⟩ := h.key k _ hk
                have hL : RowL (VR σ H I w) i.size os L ∧ (∀ j v, L[j]? = some v → w.cell? ((⟨(σ k).1, 0, none⟩ : Addr).add j) = some v) := by
                  by_cases hes : os = []
                  · rw [hes] at q1 ⊢
                    have : L = [] := List.eq_nil_of_length_eq_zero (by simpa using q1.len)
                    subst this
                    exact ⟨RowL.nil _ _, fun j v h => by simp at h⟩
                  · obtain rfl : sx = i.size := q1.size hes (fun c hc => by
                      rw [← h3] at hc
                      rw [← hszeq]; exact bu c (List.mem_of_mem_take hc))
                    exact ⟨q1, q2⟩
                have hnk : ∃ q0 es0, H k = some (.arr i.size q0 es0) ∧ q0 < q + 1 := ⟨q, es', by rw [hk, hszeq], by omega⟩
                by_cases hroom' : m + ys.length ≤ (σ k).2
                · -- there is room
                  have hfit : m * i.size + M.length ≤ vs.size := by
                    rw [r1.len, hb3, ← Nat.add_mul, hszeq]
                    exact Nat.mul_le_mul_right _ hroom'
                  obtain ⟨w', u1, u2, u3, u4, u5, u6, u7⟩ := run_append_room' (P := P) (ty := o.type) hu hi (σ k).1 m (σ k).2 vs t' hb2 bd ys.length cy M r1.len r2 r3 hroom' hfit
                  have hrow := hL.1.append r1
                  obtain ⟨p1, p2⟩ := h.put (σ' := σ) (H' := H.set k (.arr i.size (q + 1) (os ++ ys))) (I' := I) (w' := w') k (.arr i.size (q + 1) (os ++ ys)) (fun j hj => Hp.set_other H _ hj) (Hp.set_same H k _) (fun _ _ => rfl) (fun _ _ x => x)
                    (by omega) u5 u6 u7 (fun b _ hb => u4 b (hb _ hk rfl)) (by rw [u3]; exact h.lt k (by simp [hk])) (.inl ⟨by simp [hk], rfl⟩) (fun _ c0 h0 => by rw [hk] at h0; obtain rfl := Option.some.inj h0; rfl)
                    (fun c0 h0 => by rw [hk] at h0; obtain rfl := Option.some.inj h0; exact ⟨⟨_, rfl, fun hv => by simp [HC.isV] at hv, fun sz g es ha => by
                      simp only [HC.asArr, Option.some.injEq, Prod.mk.injEq] at ha
                      obtain ⟨rfl, rfl, rfl⟩ := ha
                      exact ⟨_, _, by rw [hszeq]; rfl, by omega, fun hh => by omega⟩⟩⟩) (fun _ _ x => .inl x)
                    (fun hw hks => by
                      refine ⟨hs0, hrow.uni, t', _, u2, by rw [size_putV, hb3, hszeq], by simp; omega, hb5, fun i' hi' j' hj' => ?_⟩
                      obtain ⟨v, x1, x2, x3⟩ := hrow.at_ i' hi' j' hj'
                      refine ⟨v, ?_, x2, x3.step (fun _ _ x => x) hw hks⟩
                      rw [putV_get]
                      have hLl : L.length = m * i.size := by rw [hL.1.len, hosl]
                      have hlt := (List.getElem?_eq_some_iff.1 x1).1
                      rw [List.length_append] at hlt
                      by_cases hin : m * i.size ≤ i' * i.size + j'
                      · rw [if_pos (by omega)]
                        rw [List.getElem?_append_right (by omega), hLl] at x1
                        exact x1
                      · rw [if_neg (by omega)]
                        rw [List.getElem?_append_left (by omega)] at x1
                        have x4 := hL.2 _ _ x1
                        rw [Addr.add_lit, Nat.zero_add, cellAt hb2] at x4
                        exact x4)
                  refine ⟨.slice (some ⟨(σ k).1, 0, none⟩) (m + ys.length) (σ k).2, w', σ, I, exec _ _ (by rw [hval, hay]; exact u1), p1, p2, .arr (Hp.set_same _ k _) rfl (Nat.le_refl _) (fun _ => ⟨rfl, rfl⟩)⟩
                · -- it moves
                  have hfit := growslice_fits (need := m + ys.length) (old := (σ k).2) (bytes := i.bytes) (by omega) (by rw [← hosl]; exact b2)
                  have hrun := run_append_grow (P := P) w t o.type el i z hu hi hz ⟨(σ k).1, 0, none⟩ m (σ k).2 L (by rw [hL.1.len, hosl]) hL.2 bd ys.length cy M r1.len r2 (by omega) (by rw [hosl] at b1; simp only [maxLen] at b1; omega) hfit
                  have hge := grownCap_ge w (m + ys.length) (σ k).2 el
                  have hcm := grownCap_le_maxLen w (m + ys.length) (σ k).2 el (by rw [← hosl]; exact b1)
                  have hlist : (L.toArray ++ M.toArray ++ Builtin.zeroCells z.cells (grownCap w (m + ys.length) (σ k).2 el - (m + ys.length))) = ((L ++ M) ++ (Builtin.zeroCells z.cells (grownCap w (m + ys.length) (σ k).2 el - (m + ys.length))).toList).toArray := by
                    apply Array.ext'; simp
                  have hlen : ((L ++ M) ++ (Builtin.zeroCells z.cells (grownCap w (m + ys.length) (σ k).2 el - (m + ys.length))).toList).length = grownCap w (m + ys.length) (σ k).2 el * i.size := by
                    rw [List.length_append, List.length_append, hL.1.len, r1.len, lenZ, hzs, ← Nat.add_mul, ← Nat.add_mul]
                    congr 1; omega
                  obtain ⟨σ', p1, p2, p3⟩ := arr_new h (k := k) (q := q + 1) (es := os ++ ys) el hs0 (hL.1.append r1) (by simp; omega) hcm hlen (.inr hnk)
                  refine ⟨_, _, σ', I, exec _ _ ?_, p1, p2, by simpa [hosl] using p3⟩
                  rw [hval, hay, hrun, hlist]
              · simp at h3
            · simp at hr
        | _ => simp at hr
    · simp at hr

/-! ### Calls -/
/-- What a call leaves. -/
structure CallPost (gh : Gh) (I : Im) (g : gh.G) (w : World) (r : D) (g' : gh.G) (v : Value) (w' : World) : Prop where
  ex : ∃ I' : Im, (∀ b o, I b o → I' b o) ∧ (∀ b o, I' b o → ∃ u, w'.cell? ⟨b, o, none⟩ = some u) ∧ (∀ b o, I' b o → I b o ∨ w.heap.size ≤ b) ∧ (∀ b o, I' b o → ¬ gh.F g' b) ∧ VR0 I' w' r v
  ghost : gh.J g' w'
  newF : ∀ b, gh.F g' b → gh.F g b ∨ w.heap.size ≤ b
  size : w.heap.size ≤ w'.heap.size
  os : w'.os = w.os
  tape : w'.tape = w.tape
  output : w'.output = w.output
  blk : ∀ b, b < w.heap.size → ¬ gh.F g b → w'.heap[b]? = w.heap[b]?

/-- A call of a function, with a body or of the model's own. -/
def Does (P : Program) (f : FuncId) (vs : List Value) (w : World) (R : Value → World → Prop) : Prop :=
  (∃ fn, P.funcs[f]? = some fn ∧ (fn.name == "runtime.NumGoroutine") = false ∧ fn.body.isSome = true ∧ Calls P f vs.toArray w fun e w' => ∃ v, e = .returned v ∧ R v w') ∨
  ∃ v w', (callFunc f vs.toArray).run P w = .ok (.value v) w' ∧ R v w'

theorem Does.mono {f : FuncId} {vs : List Value} {R R' : Value → World → Prop} (h : Does P f vs w R) (hR : ∀ v w', R v w' → R' v w') : Does P f vs w R' := by
  rcases h with ⟨fn, a, b, c, d⟩ | ⟨v, w', a, b⟩
  · exact .inl ⟨fn, a, b, c, d.mono fun e w' ⟨v, x, y⟩ => ⟨v, x, hR _ _ y⟩⟩
  · exact .inr ⟨v, w', a, hR _ _ b⟩

def VRL (σ : Sg) (H : Hp) (I : Im) (w : World) (ds : List D) (vs : List Value) : Prop := ds.length = vs.length ∧ ∀ i (h : i < ds.length) (h' : i < vs.length), VR σ H I w (ds[i]) (vs[i])

/-- A table of functions that tells the truth. -/
structure PcOk (gh : Gh) (P : Program) (pc : Pc gh.G) : Prop where
  pure : ∀ f ds g r g', pc.pure f ds g = some (r, g') → ∀ (I : Im) (w : World) (vs : List Value), (∀ b o, I b o → ∃ u, w.cell? ⟨b, o, none⟩ = some u) → gh.J g w → (∀ b o, I b o → ¬ gh.F g b) → VR0L I w ds vs → Does P f vs w fun v w' => CallPost gh I g w r g' v w'
  shared : ∀ f ds H g r H' g', pc.shared f ds H g = some (r, H', g') → ∀ (σ : Sg) (I : Im) (w : World) (vs : List Value), Inv gh σ H I g.2 w → VRL σ H I w ds vs →
    Does P f vs w fun v w' => ∃ σ' I', Inv gh σ' H' I' g'.2 w' ∧ StepOk gh σ H I g.2 w σ' H' I' g'.2 w' ∧ VR σ' H' I' w' r v

theorem VR0.scalar1 {I' : Im} {w' : World} {d : D} {v : Value} (h : VR0 I w d v) (hs : d.scalar1 = true) : VR0 I' w' d v := by
  cases h <;> first | (constructor; done) | simp [D.scalar1] at hs
theorem VR0.scalarA {I' : Im} {w' : World} {d : D} {v : Value} (h : VR0 I w d v) (hs : d.scalarA = true) : VR0 I' w' d v := by
  cases d with
  | agg cs =>
    cases h with
    | agg hl h1 hv => exact .agg hl h1 fun i hi => (hv i hi).scalar1 (by
        simp only [D.scalarA, List.all_eq_true] at hs
        exact hs _ (List.getElem_mem hi))
  | _ => exact h.scalar1 (by simpa [D.scalarA] using hs)
theorem VR0.scalar {I' : Im} {w' : World} {d : D} {v : Value} (h : VR0 I w d v) (hs : d.scalar = true) : VR0 I' w' d v := by
  cases d with
  | tup vs =>
    cases h with
    | tup hl hv => exact .tup hl fun i hi => (hv i hi).scalarA (by
        simp only [D.scalar, List.all_eq_true] at hs
        exact hs _ (List.getElem_mem hi))
  | _ => exact h.scalarA (by simpa [D.scalar] using hs)

theorem does_wp {c : Call} {x : Operand} {f : FuncId} {us : Array Value} {R : Value → World → Prop} (ho : o.op = .call c) (hc : c.callee = .value x) (hus : a.eval x = .func (.func f) #[] us) (hdoes : Does P f (c.args.toList.map a.eval ++ us.toList) w R)
    {K : Act → World → Prop} {Q : Exit → Act → World → Prop} (hgo : ∀ v w', R v w' → K (a.put o.dst v) w') : o.wp P a w K Q := by
  obtain ⟨callee, args, argTypes⟩ := c
  simp only at hc hdoes
  subst hc
  have hres : ∀ nx w', (callFunc f (args.map a.eval ++ us)).run P w = .ok nx w' → (execOp a.eval o).run P w = .ok nx w' := by
    intro nx w' hn
    simp only [execOp, ho, resolve, hus, Deferred.ofValue, Sem.run_bind, Sem.run_pure, Result.andThen_ok, invoke, Array.empty_append, hn]
  have harr : (args.toList.map a.eval ++ us.toList).toArray = args.map a.eval ++ us := by
    apply Array.ext'; simp
  unfold Oper.wp
  rcases hdoes with ⟨fn, q1, q2, q3, q4⟩ | ⟨v, w', q1, q2⟩
  · have hcf : (callFunc f (args.map a.eval ++ us)).run P w = .ok (.enter f (args.map a.eval ++ us)) w := by
      have q5 : fn.body.isNone = false := by cases hb : fn.body <;> simp [hb] at q3 ⊢
      have q6 : ¬ fn.name = "runtime.NumGoroutine" := by simpa using q2
      simp only [callFunc, Sem.run_bind, run_program, Result.andThen_ok, q1, q2, q5, Bool.false_eq_true, if_false]
      rfl
    rw [hres _ _ hcf]
    rw [harr] at q4
    refine Calls.mono q4 fun e w' hh => ?_
    obtain ⟨v, rfl, hp⟩ := hh
    exact hgo v w' hp
  · rw [harr] at q1
    rw [hres _ _ q1]
    exact hgo v w' q2

theorem call_ok {pc : Pc gh.G} (hpc : PcOk gh P pc) {key : Option Nat} {c : Call} {x : Operand} {ox : Opd} {oas : List Opd} (h : Inv gh σ H I g.2 w) (he : EnvOk σ H I w n e a.tmps) (ho : o.op = .call c) (hc : c.callee = .value x) (hx : opdOf x = some ox) (has : opdsOf c.args.toList = some oas)
    (hr : act pc key (.call ox oas) e H g = some r) {K : Act → World → Prop} {Q : Exit → Act → World → Prop}
    (hK : ∀ v w' σ' I', Inv gh σ' r.H I' r.g.2 w' → StepOk gh σ H I g.2 w σ' r.H I' r.g.2 w' → VR σ' r.H I' w' r.d v → K (a.put o.dst v) w') : o.wp P a w K Q := by
  simp only [act] at hr
  obtain ⟨d, h1, hr⟩ := Option.bind_eq_some_iff.1 hr
  obtain ⟨ds, h2, hr⟩ := Option.bind_eq_some_iff.1 hr
  obtain ⟨l1, l2⟩ := opds_ok he has h2
  have sharedGo : ∀ {f : FuncId} {caps : List D} {us : Array Value}, a.eval x = .func (.func f) #[] us → (hl : caps.length = us.size) → (∀ i (h : i < caps.length), VR σ H I w (caps[i]) (us[i]'(hl ▸ h))) → ((pc.shared f (ds ++ caps) H g).bind fun r => some ⟨r.1, r.2.1, r.2.2, .write⟩) = some r → o.wp P a w K Q := by
    intro f caps us hus hul huv hr
    obtain ⟨⟨rd, H1, g1⟩, h4, hr⟩ := Option.bind_eq_some_iff.1 hr
    simp only [Option.some.injEq] at hr
    subst hr
    have hargs : VRL σ H I w (ds ++ caps) (c.args.toList.map a.eval ++ us.toList) := by
      refine ⟨by simp [l1, hul], fun i hi hi' => ?_⟩
      by_cases hlt : i < ds.length
      · rw [List.getElem_append_left hlt, List.getElem_append_left (by simp; simp at l1; omega)]
        have := l2 i hlt (by rw [← l1]; exact hlt)
        simpa using this
      · rw [List.getElem_append_right (by omega), List.getElem_append_right (by simp; simp at l1; omega)]
        simp only [List.length_append] at hi
        have := huv (i - ds.length) (by omega)
        simp at l1
        simpa [l1] using this
    have hdoes := hpc.shared f _ H g rd H1 g1 h4 σ I w _ h hargs
    refine does_wp ho hc hus hdoes fun v w' hp => ?_
    obtain ⟨σ', I', e1, e2, e3⟩ := hp
    exact hK v w' σ' I' e1 e2 e3
  cases d with
  | fnS f caps =>
    obtain ⟨us, hus, hul, huv⟩ := (opd_ok he hx h1).fnS_inv
    exact sharedGo hus hul huv hr
  | fn f caps =>
    obtain ⟨us, hus, hul, huv⟩ := (opd_ok he hx h1).fn_inv
    simp only at hr
    split at hr
    · exact sharedGo hus hul (fun i hi => .imm (huv i hi)) hr
    · obtain ⟨⟨ds', H1⟩, h3, hr⟩ := Option.bind_eq_some_iff.1 hr
      obtain ⟨⟨rd, g1⟩, h4, hr⟩ := Option.bind_eq_some_iff.1 hr
      obtain ⟨I1, i1, s1, v1⟩ := frzOps_ok (a := a) h l1 l2 h3
      have hargs : VR0L I1 w (ds' ++ caps) (c.args.toList.map a.eval ++ us.toList) := by
        have hl := v1.1
        refine ⟨by simp [hl, hul], fun i hi hi' => ?_⟩
        by_cases hlt : i < ds'.length
        · rw [List.getElem_append_left hlt, List.getElem_append_left (by rw [← hl]; exact hlt)]
          exact v1.2 i hlt (by rw [← hl]; exact hlt)
        · rw [List.getElem_append_right (by omega), List.getElem_append_right (by rw [← hl]; omega)]
          simp only [List.length_append] at hi
          have := (huv (i - ds'.length) (by omega)).mono s1.hI s1.hw
          simpa [hl] using this
      have hdoes := hpc.pure f _ g.2 rd g1 h4 I1 w _ i1.imm i1.ghost i1.ghostI hargs
      refine does_wp ho hc hus hdoes fun v w' hp => ?_
      obtain ⟨I', e1, e2, e3, e4, e5⟩ := hp.ex
      split at hr
      · split at hr
        · rename_i hsc
          simp only [Option.some.injEq] at hr
          subst hr
          obtain ⟨p1, p2⟩ := h.grow (I' := I) (g' := g1) (w' := w') (fun _ _ x => x) hp.size hp.os hp.tape hp.output hp.blk (fun _ _ x => .inl x) hp.ghost hp.newF
          exact hK v w' σ I p1 p2 (.imm (e5.scalar hsc))
        · simp only [Option.some.injEq] at hr
          subst hr
          obtain ⟨p1, p2⟩ := i1.grow (I' := I') (g' := g1) (w' := w') e1 hp.size hp.os hp.tape hp.output hp.blk (fun b o hb => by
            rcases e3 b o hb with x | x
            · exact .inl x
            · exact .inr ⟨x, e4 b o hb, e2 b o hb⟩) hp.ghost hp.newF
          exact hK v w' σ I' p1 (s1.trans p2) (.imm e5)
      · simp at hr
  | _ => simp at hr
end Go.VM
end

section
namespace Go.VM
open Go Go.RowKit Go.MapKept

variable {gh : Gh} {σ : Sg} {H H' : Hp} {I : Im} {g : Nat × gh.G} {w : World} {P : Program} {n : Nat} {e : Env} {a : Act} {o : Oper} {r : Res gh.G}

/-! ### Keys -/
/-- A scalar's value. -/
def D.sv : D → Value
  | .int q n => .int q n
  | .bool b => .bool b
  | .str s => .string s
  | _ => Go.undef
def D.sc : D → Bool
  | .int .. | .bool _ | .str _ => true
  | _ => false
theorem VR.sc {d : D} {v : Value} (h : VR σ H I w d v) (hs : d.sc = true) : v = d.sv := by
  cases d <;> first | (simp [D.sc] at hs; done) | exact h.int_inv | exact h.bool_inv | exact h.str_inv
theorem VR0.of_sc {d : D} (hs : d.sc = true) : VR0 I w d d.sv := by
  cases d <;> first | (simp [D.sc] at hs; done) | constructor

theorem eq1_sc {k : FK} {x y : D} {b : Bool} (h : binD.eq1 k x y = some b) : x.sc = true ∧ y.sc = true := by
  unfold binD.eq1 at h
  split at h <;> first | (simp at h; done) | exact ⟨rfl, rfl⟩
theorem eq1_true {k : FK} {x y : D} (h : binD.eq1 k x y = some true) : x = y := by
  unfold binD.eq1 at h
  split at h
  · split at h
    · rename_i hq
      subst hq
      simp at h
      rw [h]
    · simp at h
  · simp only [Option.some.injEq] at h
    rw [(bytes_beq _ _).1 h]
  · simp at h
    rw [h]
  · simp at h

theorem eqL_len : ∀ {ks : List FK} {xs ys : List D} {b : Bool}, binD.eqL ks xs ys = some b → xs.length = ks.length ∧ ys.length = ks.length
  | [], [], [], _, _ => ⟨rfl, rfl⟩
  | [], _ :: _, _, _, h => by simp [binD.eqL] at h
  | [], [], _ :: _, _, h => by simp [binD.eqL] at h
  | _ :: _, [], _, _, h => by simp [binD.eqL] at h
  | _ :: _, _ :: _, [], _, h => by simp [binD.eqL] at h
  | k :: ks, x :: xs, y :: ys, b, h => by
    simp only [binD.eqL] at h
    obtain ⟨b1, _, h⟩ := Option.bind_eq_some_iff.1 h
    obtain ⟨b2, h2, _⟩ := Option.map_eq_some_iff.1 h
    have := eqL_len h2
    simp [this.1, this.2]
theorem eqL_sc : ∀ {ks : List FK} {xs ys : List D} {b : Bool}, binD.eqL ks xs ys = some b → (∀ x ∈ xs, x.sc = true) ∧ ∀ y ∈ ys, y.sc = true
  | [], [], [], _, _ => ⟨by simp, by simp⟩
  | [], _ :: _, _, _, h => by simp [binD.eqL] at h
  | [], [], _ :: _, _, h => by simp [binD.eqL] at h
  | _ :: _, [], _, _, h => by simp [binD.eqL] at h
  | _ :: _, _ :: _, [], _, h => by simp [binD.eqL] at h
  | k :: ks, x :: xs, y :: ys, b, h => by
    simp only [binD.eqL] at h
    obtain ⟨b1, h1, h⟩ := Option.bind_eq_some_iff.1 h
    obtain ⟨b2, h2, _⟩ := Option.map_eq_some_iff.1 h
    have a1 := eqL_sc h2
    have a2 := eq1_sc h1
    exact ⟨by simpa using ⟨a2.1, a1.1⟩, by simpa using ⟨a2.2, a1.2⟩⟩
theorem eqL_true : ∀ {ks : List FK} {xs ys : List D}, binD.eqL ks xs ys = some true → xs = ys
  | [], [], [], _ => rfl
  | [], _ :: _, _, h => by simp [binD.eqL] at h
  | [], [], _ :: _, h => by simp [binD.eqL] at h
  | _ :: _, [], _, h => by simp [binD.eqL] at h
  | _ :: _, _ :: _, [], h => by simp [binD.eqL] at h
  | k :: ks, x :: xs, y :: ys, h => by
    simp only [binD.eqL] at h
    obtain ⟨b1, h1, h⟩ := Option.bind_eq_some_iff.1 h
    obtain ⟨b2, h2, h⟩ := Option.map_eq_some_iff.1 h
    simp only [Bool.and_eq_true] at h
    rw [h.1] at h1
    rw [h.2] at h2
    rw [eq1_true h1, eqL_true h2]
theorem eqL_append : ∀ {k1 k2 : List FK} {xs ys : List D} {b : Bool}, binD.eqL (k1 ++ k2) xs ys = some b →
    ∃ b1 b2, binD.eqL k1 (xs.take k1.length) (ys.take k1.length) = some b1 ∧ binD.eqL k2 (xs.drop k1.length) (ys.drop k1.length) = some b2 ∧ b = (b1 && b2)
  | [], k2, xs, ys, b, h => ⟨true, b, by simp [binD.eqL], by simpa using h, by simp⟩
  | k :: k1, k2, [], ys, b, h => by simp [binD.eqL] at h
  | k :: k1, k2, x :: xs, [], b, h => by simp [binD.eqL] at h
  | k :: k1, k2, x :: xs, y :: ys, b, h => by
    simp only [List.cons_append, binD.eqL] at h
    obtain ⟨b1, h1, h⟩ := Option.bind_eq_some_iff.1 h
    obtain ⟨b2, h2, rfl⟩ := Option.map_eq_some_iff.1 h
    obtain ⟨c1, c2, e1, e2, rfl⟩ := eqL_append h2
    exact ⟨b1 && c1, c2, by simp [binD.eqL, h1, e1], by simpa using e2, by rw [Bool.and_assoc]⟩

/-- A type's value, by its cells. -/
def IsVal (P : Program) (I : Im) (w : World) (t : TypeId) (cs : List D) (v : Value) : Prop :=
  (aggOf P t = some true ∧ ∃ vs, v = .agg vs ∧ CellsOk (VR0 I w) cs vs) ∨ (aggOf P t = some false ∧ ∃ c, cs = [c] ∧ VR0 I w c v)

theorem flatT_agg {d : Nat} {t : TypeId} {ks : List FK} (h : flatT P d t = some ks) : (aggOf P t = some true) ∨ (aggOf P t = some false ∧ ks.length = 1) := by
  cases d with
  | zero => simp [flatT] at h
  | succ d =>
    simp only [flatT] at h
    unfold aggOf
    split at h <;> first | (simp at h; done) | skip
    all_goals rename_i hu; rw [hu]
    · simp only [Option.some.injEq] at h; subst h; exact .inr ⟨rfl, rfl⟩
    · simp only [Option.some.injEq] at h; subst h; exact .inr ⟨rfl, rfl⟩
    · simp only [Option.some.injEq] at h; subst h; exact .inr ⟨rfl, rfl⟩
    · exact .inl rfl

theorem part_val {t : TypeId} {i sz : Nat} {cs : List D} {vs : Array Value} (hc : CellsOk (VR0 I w) cs vs) (hsz : szOf P t = some sz) (ha : (aggOf P t = some true) ∨ (aggOf P t = some false ∧ sz = 1)) (hle : i + sz ≤ cs.length) :
    ∃ v, (part t vs i).run P w = .ok v w ∧ IsVal P I w t ((cs.drop i).take sz) v := by
  have hl := hc.len
  rcases ha with ha | ⟨ha, rfl⟩
  · refine ⟨.agg (vs.extract i (i + sz)), by simp [part, run_aggOf ha, run_szOf hsz], .inl ⟨ha, _, rfl, by simp; omega, fun j hj => ?_⟩⟩
    simp only [Array.getElem_extract, List.getElem_take, List.getElem_drop]
    exact hc.at_ _ (by simp at hj; omega)
  · have hi : i < cs.length := by omega
    refine ⟨vs[i]'(hl ▸ hi), by simp [part, run_aggOf ha, Array.getElem?_eq_getElem (hl ▸ hi)], .inr ⟨ha, cs[i], ?_, hc.at_ i hi⟩⟩
    rw [List.drop_eq_getElem_cons hi]
    rfl

theorem flatFs_eq {F : TypeId → Option (List FK)} {d : Nat} (hF : ∀ t ks, F t = some ks → ((aggOf P t = some true) ∨ (aggOf P t = some false ∧ ks.length = 1)) ∧ ∀ {cs ds : List D} {vx vy : Value} {b : Bool}, IsVal P I w t cs vx → IsVal P I w t ds vy → binD.eqL ks cs ds = some b → (Op.equalIn d t vx vy).run P w = .ok b w)
    {cs ds : List D} {xs ys : Array Value} (hc : CellsOk (VR0 I w) cs xs) (hd : CellsOk (VR0 I w) ds ys) :
    ∀ (fs : List Field) (i : Nat) (ks : List FK) (b : Bool), flatFs P F fs i = some ks → binD.eqL ks (cs.drop i) (ds.drop i) = some b → (Op.eqFields d xs ys fs).run P w = .ok b w
  | [], i, ks, b, hf, he => by
    simp only [flatFs, Option.some.injEq] at hf
    subst hf
    cases h1 : cs.drop i <;> cases h2 : ds.drop i <;> rw [h1, h2] at he <;> simp [binD.eqL] at he
    subst he
    simp [Op.eqFields]
  | f :: fs, i, ks, b, hf, he => by
    simp only [flatFs] at hf
    split at hf
    · rename_i hn
      simp only [Bool.and_eq_true, bne_iff_ne, ne_eq, beq_iff_eq] at hn
      obtain ⟨k1, h1, hf⟩ := Option.bind_eq_some_iff.1 hf
      split at hf
      · rename_i hsz
        simp only [beq_iff_eq] at hsz
        obtain ⟨k2, h2, rfl⟩ := Option.map_eq_some_iff.1 hf
        obtain ⟨b1, b2, e1, e2, rfl⟩ := eqL_append he
        obtain ⟨l1, l2⟩ := eqL_len e1
        simp only [List.length_take, List.length_drop] at l1 l2
        obtain ⟨hag, heq⟩ := hF _ _ h1
        rw [List.drop_drop, List.drop_drop] at e2
        have ih := flatFs_eq hF hc hd fs (i + k1.length) k2 b2 h2 e2
        by_cases h0 : k1.length = 0
        · have hag' : aggOf P f.type = some true := hag.resolve_right (fun x => by omega)
          have p1 : ∀ (zs : Array Value), (part f.type zs i).run P w = .ok (.agg (zs.extract i (i + 0))) w := fun zs => by simp [part, run_aggOf hag', run_szOf hsz, h0]
          have hk1 : k1 = [] := List.eq_nil_of_length_eq_zero h0
          subst hk1
          simp only [List.length_nil, List.take_zero, binD.eqL, Option.some.injEq] at e1
          subst e1
          have q : ∀ (zs : Array Value), IsVal P I w f.type [] (.agg (zs.extract i (i + 0))) := fun zs => .inl ⟨hag', _, rfl, by simp; omega, fun j hj => by simp at hj⟩
          have r1 := heq (q xs) (q ys) (b := true) (by simp [binD.eqL])
          simp only [Op.eqFields, if_pos hn.1, hn.2, Sem.run_bind, p1, Result.andThen_ok, r1]
          simpa using ih
        · obtain ⟨v1, p1, q1⟩ := part_val hc hsz hag (i := i) (by omega)
          obtain ⟨v2, p2, q2⟩ := part_val hd hsz hag (i := i) (by omega)
          have r1 := heq q1 q2 e1
          simp only [Op.eqFields, if_pos hn.1, hn.2, Sem.run_bind, p1, p2, Result.andThen_ok, r1]
          cases b1
          · simp
          · simpa using ih
      · simp at hf
    · simp at hf

theorem IsVal.one {t : TypeId} {cs : List D} {v : Value} (h : IsVal P I w t cs v) (ha : aggOf P t = some false) : ∃ c, cs = [c] ∧ VR0 I w c v := by
  rcases h with ⟨a, _⟩ | ⟨_, h⟩
  · rw [ha] at a; simp at a
  · exact h
theorem IsVal.many {t : TypeId} {cs : List D} {v : Value} (h : IsVal P I w t cs v) (ha : aggOf P t = some true) : ∃ vs, v = .agg vs ∧ CellsOk (VR0 I w) cs vs := by
  rcases h with ⟨_, h⟩ | ⟨a, _⟩
  · exact h
  · rw [ha] at a; simp at a

theorem eq_one {k : FK} {t : TypeId} {cs ds : List D} {vx vy : Value} {b : Bool} {d : Nat} (ha : aggOf P t = some false) (hf : k.fits (P.underlying t)) (hx : IsVal P I w t cs vx) (hy : IsVal P I w t ds vy) (he : binD.eqL [k] cs ds = some b) : (Op.equalIn (d + 1) t vx vy).run P w = .ok b w := by
  obtain ⟨x, rfl, h1⟩ := hx.one ha
  obtain ⟨y, rfl, h2⟩ := hy.one ha
  simp only [binD.eqL, Option.map_some] at he
  obtain ⟨b1, e1, he⟩ := Option.bind_eq_some_iff.1 he
  simp only [Bool.and_true, Option.some.injEq] at he
  subst he
  exact eq1_ok (σ := fun _ => (0, 0)) (H := fun _ => none) e1 (.imm h1) (.imm h2) hf

theorem flatT_eq : ∀ (d : Nat) (t : TypeId) (ks : List FK), flatT P d t = some ks → ∀ {cs ds : List D} {vx vy : Value} {b : Bool}, IsVal P I w t cs vx → IsVal P I w t ds vy → binD.eqL ks cs ds = some b → ∀ m, d ≤ m → (Op.equalIn m t vx vy).run P w = .ok b w
  | 0, t, ks, h => by simp [flatT] at h
  | d + 1, t, ks, h => fun hx hy he m hm => by
    obtain ⟨m, rfl⟩ : ∃ m', m = m' + 1 := ⟨m - 1, by omega⟩
    simp only [flatT] at h
    split at h <;> first | (simp at h; done) | skip
    · rename_i k hu
      simp only [Option.some.injEq] at h; subst h
      exact eq_one (k := .i) (by simp [aggOf, hu]) ⟨fun _ => ⟨_, hu⟩, (fun h => by cases h), (fun h => by cases h)⟩ hx hy he
    · rename_i hu
      simp only [Option.some.injEq] at h; subst h
      exact eq_one (k := .b) (by simp [aggOf, hu]) ⟨(fun h => by cases h), fun _ => hu, (fun h => by cases h)⟩ hx hy he
    · rename_i hu
      simp only [Option.some.injEq] at h; subst h
      exact eq_one (k := .s) (by simp [aggOf, hu]) ⟨(fun h => by cases h), (fun h => by cases h), fun _ => hu⟩ hx hy he
    · rename_i fs hu
      split at h
      · simp at h
      · rename_i hst
        have hag : aggOf P t = some true := by simp [aggOf, hu]
        obtain ⟨xs, rfl, hc⟩ := hx.many hag
        obtain ⟨ys, rfl, hd⟩ := hy.many hag
        have hf : P.fieldsOf t = fs := by simp [Program.fieldsOf, hu]
        rw [run_equalIn_struct (P := P) w m t xs ys (by rw [hf]; exact hu) (by simpa using hst), hf]
        exact flatFs_eq (fun t' ks' h' => ⟨flatT_agg h', fun a b c => flatT_eq d t' ks' h' a b c m (by omega)⟩) hc hd fs.toList 0 ks _ h (by simpa using he)

/-! ### May it be a key? -/
theorem forIn_check {G : Field → Sem (ForInStep PUnit)} : ∀ (fs : List Field), (∀ f ∈ fs, (G f).run P w = .ok (.yield PUnit.unit) w) → (forIn (m := Sem) fs PUnit.unit fun f _ => G f).run P w = .ok PUnit.unit w
  | [], _ => by simp
  | f :: fs, h => by
    have h1 := h f (by simp)
    have h2 := forIn_check fs fun x hx => h x (by simp [hx])
    simp only [List.forIn_cons, Sem.run_bind, h1, Result.andThen_ok]
    exact h2

theorem flatFs_check {F : TypeId → Option (List FK)} {empty : Bool} {d : Nat} (hF : ∀ t ks, F t = some ks → ((aggOf P t = some true) ∨ (aggOf P t = some false ∧ ks.length = 1)) ∧ ∀ {cs : List D} {v : Value}, IsVal P I w t cs v → cs.length = ks.length → (Instr.checkKey empty d t v).run P w = .ok () w)
    {cs : List D} {xs : Array Value} (hc : CellsOk (VR0 I w) cs xs) :
    ∀ (fs : List Field) (i : Nat) (ks : List FK), flatFs P F fs i = some ks → i + ks.length ≤ cs.length → ∀ f ∈ fs, f.name ≠ "_" ∧ ∃ v, (part f.type xs f.offset).run P w = .ok v w ∧ (Instr.checkKey empty d f.type v).run P w = .ok () w
  | [], i, ks, hf, he => by simp
  | f :: fs, i, ks, hf, he => by
    simp only [flatFs] at hf
    split at hf
    · rename_i hn
      simp only [Bool.and_eq_true, bne_iff_ne, ne_eq, beq_iff_eq] at hn
      obtain ⟨k1, h1, hf⟩ := Option.bind_eq_some_iff.1 hf
      split at hf
      · rename_i hsz
        simp only [beq_iff_eq] at hsz
        obtain ⟨k2, h2, rfl⟩ := Option.map_eq_some_iff.1 hf
        simp only [List.length_append] at he
        have ih := flatFs_check hF hc fs (i + k1.length) k2 h2 (by omega)
        obtain ⟨hag, hck⟩ := hF _ _ h1
        obtain ⟨v1, p1, q1⟩ := part_val hc hsz hag (i := i) (by omega)
        intro x hx
        rcases List.mem_cons.1 hx with rfl | hx
        · exact ⟨hn.1, v1, by rw [hn.2]; exact p1, hck q1 (by simp; omega)⟩
        · exact ih x hx
      · simp at hf
    · simp at hf

theorem flatT_check (empty : Bool) : ∀ (d : Nat) (t : TypeId) (ks : List FK), flatT P d t = some ks → ∀ {cs : List D} {v : Value}, IsVal P I w t cs v → cs.length = ks.length → ∀ m, d ≤ m → (Instr.checkKey empty m t v).run P w = .ok () w
  | 0, t, ks, h => by simp [flatT] at h
  | d + 1, t, ks, h => fun hx hl m hm => by
    obtain ⟨m, rfl⟩ : ∃ m', m = m' + 1 := ⟨m - 1, by omega⟩
    simp only [flatT] at h
    split at h <;> first | (simp at h; done) | skip
    · rename_i k hu
      simp [Instr.checkKey, run_underlying hu]
    · rename_i hu
      simp [Instr.checkKey, run_underlying hu]
    · rename_i hu
      simp [Instr.checkKey, run_underlying hu]
    · rename_i fs hu
      split at h
      · simp at h
      · have hag : aggOf P t = some true := by simp [aggOf, hu]
        obtain ⟨xs, rfl, hc⟩ := hx.many hag
        have hall := flatFs_check (empty := empty) (d := m) (fun t' ks' h' => ⟨flatT_agg h', fun a b => flatT_check empty d t' ks' h' a b m (by omega)⟩) hc fs.toList 0 ks h (by omega)
        simp only [Instr.checkKey, Sem.run_bind, run_underlying hu, Result.andThen_ok]
        rw [← Array.forIn_toList]
        have := forIn_check (P := P) (w := w) (G := fun f => if f.name ≠ "_" then do
              let v ← part f.type xs f.offset
              Instr.checkKey empty m f.type v
              pure (ForInStep.yield PUnit.unit)
            else pure (ForInStep.yield PUnit.unit)) fs.toList (fun f hf => by
          obtain ⟨h1, v, h2, h3⟩ := hall f hf
          rw [if_pos h1, Sem.run_bind, h2, Result.andThen_ok, Sem.run_bind, h3, Result.andThen_ok, Sem.run_pure])
        rw [this]
        rfl
end Go.VM
end

section
namespace Go.VM
open Go Go.RowKit Go.MapKept

variable {gh : Gh} {σ : Sg} {H H' : Hp} {I : Im} {g : Nat × gh.G} {w : World} {P : Program} {n : Nat} {e : Env} {a : Act} {o : Oper} {r : Res gh.G}

theorem keyK_cases {kt : TypeId} {mk : MK} (h : keyK P kt = some mk) : (∃ k d, mk = .one k ∧ P.underlying kt = some d ∧ k.fits (some d) ∧ flatT P 8 kt = some [k] ∧ aggOf P kt = some false) ∨
    (∃ ks fs, mk = .flat ks ∧ P.underlying kt = some (.struct fs) ∧ flatT P 8 kt = some ks ∧ aggOf P kt = some true) := by
  unfold keyK at h
  split at h <;> first | (simp at h; done) | skip
  · rename_i k hu
    simp only [Option.some.injEq] at h; subst h
    exact .inl ⟨.i, _, rfl, hu, ⟨fun _ => ⟨_, rfl⟩, (fun h => by cases h), (fun h => by cases h)⟩, by simp [flatT, hu], by simp [aggOf, hu]⟩
  · rename_i hu
    simp only [Option.some.injEq] at h; subst h
    exact .inl ⟨.b, _, rfl, hu, ⟨(fun h => by cases h), fun _ => rfl, (fun h => by cases h)⟩, by simp [flatT, hu], by simp [aggOf, hu]⟩
  · rename_i hu
    simp only [Option.some.injEq] at h; subst h
    exact .inl ⟨.s, _, rfl, hu, ⟨(fun h => by cases h), (fun h => by cases h), fun _ => rfl⟩, by simp [flatT, hu], by simp [aggOf, hu]⟩
  · rename_i fs hu
    obtain ⟨ks, h1, rfl⟩ := Option.map_eq_some_iff.1 h
    exact .inr ⟨ks, fs, rfl, hu, h1, by simp [aggOf, hu]⟩

theorem VR0.agg_inv {cs : List D} {v : Value} (h : VR0 I w (.agg cs) v) : ∃ vs, v = .agg vs ∧ CellsOk (VR0 I w) cs vs := by
  cases h with
  | agg hl h1 hv => exact ⟨_, rfl, hl, hv⟩

theorem keyCmp_flat {ks : List FK} {x y : D} {b : Bool} (h : keyCmp (.flat ks) x y = some b) : ∃ xs ys, x = .agg xs ∧ y = .agg ys ∧ binD.eqL ks xs ys = some b := by
  cases x <;> cases y <;> simp only [keyCmp] at h <;> first | (simp at h; done) | exact ⟨_, _, rfl, rfl, h⟩

theorem key_eq {kt : TypeId} {mk : MK} (hk : keyK P kt = some mk) {x y : D} {vx vy : Value} (hx : VR0 I w x vx) (hy : VR0 I w y vy) {b : Bool} (h : keyCmp mk x y = some b) : (Op.equal kt vx vy).run P w = .ok b w := by
  rcases keyK_cases hk with ⟨k, d, rfl, hu, hf, hfl, hag⟩ | ⟨ks, fs, rfl, hu, hfl, hag⟩
  · exact flatT_eq 8 kt [k] hfl (.inr ⟨hag, x, rfl, hx⟩) (.inr ⟨hag, y, rfl, hy⟩) (by simpa [binD.eqL, keyCmp] using h) 10000 (by omega)
  · obtain ⟨xs, ys, rfl, rfl, h⟩ := keyCmp_flat h
    exact flatT_eq 8 kt ks hfl (.inl ⟨hag, hx.agg_inv⟩) (.inl ⟨hag, hy.agg_inv⟩) h 10000 (by omega)

theorem key_check {kt : TypeId} {mk : MK} (empty : Bool) (hk : keyK P kt = some mk) {x : D} {vx : Value} (hx : VR0 I w x vx) (h : keyOk mk x = true) : (Instr.checkKey empty 10000 kt vx).run P w = .ok () w := by
  have h : keyCmp mk x x = some true := by simpa [keyOk] using h
  rcases keyK_cases hk with ⟨k, d, rfl, hu, hf, hfl, hag⟩ | ⟨ks, fs, rfl, hu, hfl, hag⟩
  · exact flatT_check empty 8 kt [k] hfl (cs := [x]) (.inr ⟨hag, x, rfl, hx⟩) rfl 10000 (by omega)
  · obtain ⟨xs, ys, rfl, _, h⟩ := keyCmp_flat h
    exact flatT_check empty 8 kt ks hfl (.inl ⟨hag, hx.agg_inv⟩) (eqL_len h).1 10000 (by omega)

theorem key_VR0 {mk : MK} {x : D} {v : Value} (hx : VR σ H I w x v) (h : keyOk mk x = true) : VR0 I w x v := by
  have h : keyCmp mk x x = some true := by simpa [keyOk] using h
  cases mk with
  | one k =>
    have hs := (eq1_sc h).1
    rw [hx.sc hs]
    exact .of_sc hs
  | flat ks =>
    obtain ⟨xs, ys, rfl, _, h⟩ := keyCmp_flat h
    have hs := (eqL_sc h).1
    obtain ⟨vs, rfl, hl, h1, hv⟩ := hx.agg_inv
    refine .agg hl h1 (fun i hi => ?_)
    have := hs _ (List.getElem_mem hi)
    rw [(hv i hi).sc this]
    exact .of_sc this

theorem sameBits_sv {d : D} (hs : d.sc = true) (m : Nat) : Instr.sameBits m d.sv d.sv = true := by
  cases d <;> first | (simp [D.sc] at hs; done) | simp [D.sv, Instr.sameBits]
  exact (bytes_beq _ _).2 rfl

theorem key_same {mk : MK} {x y : D} {vx vy : Value} (hx : VR0 I w x vx) (hy : VR0 I w y vy) (h : keyCmp mk x y = some true) : vy = vx ∧ Instr.sameBits 10000 vx vx = true := by
  have sv : ∀ {d : D} {v : Value}, VR0 I w d v → d.sc = true → v = d.sv := fun hv hs => (VR.imm (σ := fun _ => (0, 0)) (H := fun _ => none) hv).sc hs
  cases mk with
  | one k =>
    have hs := eq1_sc h
    obtain rfl := eq1_true h
    rw [sv hx hs.1, sv hy hs.1]
    exact ⟨rfl, sameBits_sv hs.1 _⟩
  | flat ks =>
    obtain ⟨xs, ys, rfl, rfl, h⟩ := keyCmp_flat h
    have hs := (eqL_sc h).1
    obtain rfl := eqL_true h
    obtain ⟨us, rfl, cu⟩ := hx.agg_inv
    obtain ⟨vs, rfl, cv⟩ := hy.agg_inv
    have e1 : vs = us := by
      apply Array.ext
      · rw [← cu.len, ← cv.len]
      · intro i h1 h2
        have hi : i < xs.length := by rw [cv.len]; exact h1
        have := hs _ (List.getElem_mem hi)
        rw [sv (cu.at_ i hi) this, sv (cv.at_ i hi) this]
    subst e1
    refine ⟨rfl, ?_⟩
    have : ∀ l : List Value, (∀ v ∈ l, ∃ d : D, d.sc = true ∧ v = d.sv) → (l.zip l).all (fun (p : Value × Value) => Instr.sameBits 9999 p.1 p.2) = true := by
      intro l
      induction l with
      | nil => intro _; rfl
      | cons v l ih =>
        intro hl
        obtain ⟨d, h1, rfl⟩ := hl v (by simp)
        simp only [List.zip_cons_cons, List.all_cons, sameBits_sv h1, Bool.true_and]
        exact ih fun u hu => hl u (by simp [hu])
    simp only [Instr.sameBits, beq_self_eq_true, Bool.true_and]
    refine this _ fun v hv => ?_
    obtain ⟨i, hi, rfl⟩ := List.getElem_of_mem hv
    have hi' : i < xs.length := by rw [cu.len]; simpa using hi
    have h1 := hs _ (List.getElem_mem hi')
    exact ⟨_, h1, by simpa using sv (cu.at_ i hi') h1⟩

/-- Where a key is. -/
def mapIdx (mk : MK) (k : D) : List (D × D) → Option (Option Nat)
  | [] => some none
  | p :: ps => (keyCmp mk k p.1).bind fun b => if b then some (some 0) else (mapIdx mk k ps).map fun r => r.map (· + 1)

theorem mapIdx_lt {mk : MK} {k : D} : ∀ {es : List (D × D)} {i : Nat}, mapIdx mk k es = some (some i) → ∃ h : i < es.length, keyCmp mk k (es[i]).1 = some true
  | [], i, h => by simp [mapIdx] at h
  | p :: ps, i, h => by
    simp only [mapIdx] at h
    obtain ⟨b, h1, h⟩ := Option.bind_eq_some_iff.1 h
    cases b
    · simp only [Bool.false_eq_true, if_false] at h
      obtain ⟨r, h2, h⟩ := Option.map_eq_some_iff.1 h
      obtain ⟨j, rfl, rfl⟩ := Option.map_eq_some_iff.1 h
      obtain ⟨h3, h4⟩ := mapIdx_lt h2
      exact ⟨by simpa using h3, by simpa using h4⟩
    · simp only [if_true, Option.some.injEq] at h
      subst h
      exact ⟨by simp, h1⟩
theorem mapPut_idx {mk : MK} {k v : D} : ∀ {es q : List (D × D)}, mapPut mk k v es = some q → ∃ r, mapIdx mk k es = some r ∧ q = match r with | none => es ++ [(k, v)] | some i => es.set i (k, v)
  | [], q, h => by
    simp only [mapPut, Option.some.injEq] at h
    exact ⟨none, rfl, h.symm⟩
  | p :: ps, q, h => by
    simp only [mapPut] at h
    obtain ⟨b, h1, h⟩ := Option.bind_eq_some_iff.1 h
    cases b
    · simp only [Bool.false_eq_true, if_false] at h
      obtain ⟨q', h2, rfl⟩ := Option.map_eq_some_iff.1 h
      obtain ⟨r, h3, rfl⟩ := mapPut_idx h2
      refine ⟨r.map (· + 1), by simp [mapIdx, h1, h3], ?_⟩
      cases r <;> simp
    · simp only [if_true, Option.some.injEq] at h
      exact ⟨some 0, by simp [mapIdx, h1], by simp [h]⟩
theorem mapDel_idx {mk : MK} {k : D} : ∀ {es q : List (D × D)}, mapDel mk k es = some q → ∃ r, mapIdx mk k es = some r ∧ q = match r with | none => es | some i => es.eraseIdx i
  | [], q, h => by
    simp only [mapDel, Option.some.injEq] at h
    exact ⟨none, rfl, h.symm⟩
  | p :: ps, q, h => by
    simp only [mapDel] at h
    obtain ⟨b, h1, h⟩ := Option.bind_eq_some_iff.1 h
    cases b
    · simp only [Bool.false_eq_true, if_false] at h
      obtain ⟨q', h2, rfl⟩ := Option.map_eq_some_iff.1 h
      obtain ⟨r, h3, rfl⟩ := mapDel_idx h2
      refine ⟨r.map (· + 1), by simp [mapIdx, h1, h3], ?_⟩
      cases r <;> simp
    · simp only [if_true, Option.some.injEq] at h
      exact ⟨some 0, by simp [mapIdx, h1], by simp [h]⟩
theorem mapGet_idx {mk : MK} {k : D} : ∀ {es : List (D × D)} {q : Option D}, mapGet mk k es = some q → ∃ r, mapIdx mk k es = some r ∧ q = r.bind fun i => (es[i]?).map (·.2)
  | [], q, h => by
    simp only [mapGet, Option.some.injEq] at h
    exact ⟨none, rfl, h.symm⟩
  | p :: ps, q, h => by
    simp only [mapGet] at h
    obtain ⟨b, h1, h⟩ := Option.bind_eq_some_iff.1 h
    cases b
    · simp only [Bool.false_eq_true, if_false] at h
      obtain ⟨r, h3, rfl⟩ := mapGet_idx h
      refine ⟨r.map (· + 1), by simp [mapIdx, h1, h3], ?_⟩
      cases r <;> simp
    · simp only [if_true, Option.some.injEq] at h
      exact ⟨some 0, by simp [mapIdx, h1], by simp [← h]⟩

theorem findAsking_ok {kt : TypeId} {mk : MK} (hk : keyK P kt = some mk) {kd : D} {kv : Value} (hkv : VR0 I w kd kv) : ∀ {es : List (D × D)} {en : List MapEntry} (j : Nat) {r : Option Nat}, es.length = en.length → (∀ i (h : i < es.length) (h' : i < en.length), VR0 I w (es[i]).1 (en[i]).key) → mapIdx mk kd es = some r →
    (Instr.findAsking kt kv en j).run P w = .ok (r.bind fun i => (en[i]?).map fun e => (i + j, e.val)) w
  | [], [], j, r, _, _, h => by
    simp only [mapIdx, Option.some.injEq] at h
    subst h
    simp [Instr.findAsking]
  | [], _ :: _, _, _, hl, _, _ => by simp at hl
  | _ :: _, [], _, _, hl, _, _ => by simp at hl
  | p :: ps, x :: xs, j, r, hl, hv, h => by
    simp only [mapIdx] at h
    obtain ⟨b, h1, h⟩ := Option.bind_eq_some_iff.1 h
    have he := key_eq hk hkv (hv 0 (by simp) (by simp)) h1
    simp only [List.getElem_cons_zero] at he
    simp only [Instr.findAsking, Sem.run_bind, he, Result.andThen_ok]
    cases b
    · simp only [Bool.false_eq_true, if_false] at h ⊢
      obtain ⟨r', h2, rfl⟩ := Option.map_eq_some_iff.1 h
      have ih := findAsking_ok hk hkv (es := ps) (en := xs) (j + 1) (by simpa using hl) (fun i hi hi' => by
        have := hv (i + 1) (by simp; omega) (by simp; omega)
        simpa using this) h2
      rw [ih]
      cases r' with
      | none => rfl
      | some i => simp [Nat.add_assoc, Nat.add_comm 1 j]
    · simp only [if_true, Option.some.injEq] at h ⊢
      subst h
      simp

theorem sameNow_ok {k : FK} {d : TypeDesc} (hf : k.fits (some d)) {x y : D} {vx vy : Value} {b : Bool} (hx : VR0 I w x vx) (hy : VR0 I w y vy) (h : binD.eq1 k x y = some b) : Instr.sameNow d vx vy = some b := by
  have sv : ∀ {d : D} {v : Value}, VR0 I w d v → d.sc = true → v = d.sv := fun hv hs => (VR.imm (σ := fun _ => (0, 0)) (H := fun _ => none) hv).sc hs
  have hs := eq1_sc h
  rw [sv hx hs.1, sv hy hs.2]
  unfold binD.eq1 at h
  split at h
  · obtain ⟨q, hq⟩ := hf.1 rfl
    simp only [Option.some.injEq] at hq
    subst hq
    split at h
    · rename_i hq
      subst hq
      simpa [D.sv, Instr.sameNow] using h
    · simp at h
  · have := hf.2.2 rfl
    simp only [Option.some.injEq] at this
    subst this
    simpa [D.sv, Instr.sameNow] using h
  · have := hf.2.1 rfl
    simp only [Option.some.injEq] at this
    subst this
    simpa [D.sv, Instr.sameNow] using h
  · simp at h

theorem findNow_ok {k : FK} {d : TypeDesc} (hf : k.fits (some d)) {kd : D} {kv : Value} (hkv : VR0 I w kd kv) : ∀ {es : List (D × D)} {en : List MapEntry} (j : Nat) {r : Option Nat}, es.length = en.length → (∀ i (h : i < es.length) (h' : i < en.length), VR0 I w (es[i]).1 (en[i]).key) → mapIdx (.one k) kd es = some r →
    Instr.findNow d kv en j = some (r.bind fun i => (en[i]?).map fun e => (i + j, e.val))
  | [], [], j, r, _, _, h => by
    simp only [mapIdx, Option.some.injEq] at h
    subst h
    simp [Instr.findNow]
  | [], _ :: _, _, _, hl, _, _ => by simp at hl
  | _ :: _, [], _, _, hl, _, _ => by simp at hl
  | p :: ps, x :: xs, j, r, hl, hv, h => by
    simp only [mapIdx] at h
    obtain ⟨b, h1, h⟩ := Option.bind_eq_some_iff.1 h
    have he := sameNow_ok hf hkv (hv 0 (by simp) (by simp)) h1
    simp only [List.getElem_cons_zero] at he
    simp only [Instr.findNow, he]
    cases b
    · simp only [Bool.false_eq_true, if_false] at h ⊢
      obtain ⟨r', h2, rfl⟩ := Option.map_eq_some_iff.1 h
      have ih := findNow_ok hf hkv (es := ps) (en := xs) (j + 1) (by simpa using hl) (fun i hi hi' => by
        have := hv (i + 1) (by simp; omega) (by simp; omega)
        simpa using this) h2
      rw [ih]
      cases r' with
      | none => rfl
      | some i => simp [Nat.add_assoc, Nat.add_comm 1 j]
    · simp only [if_true, Option.some.injEq] at h ⊢
      subst h
      simp

theorem findKey_ok {kt : TypeId} {mk : MK} (hk : keyK P kt = some mk) {kd : D} {kv : Value} (hkv : VR0 I w kd kv) {es : List (D × D)} {en : List MapEntry} {r : Option Nat} (hl : es.length = en.length) (hv : ∀ i (h : i < es.length) (h' : i < en.length), VR0 I w (es[i]).1 (en[i]).key) (h : mapIdx mk kd es = some r) :
    (Instr.findKey kt kv en).run P w = .ok (r.bind fun i => (en[i]?).map fun e => (i, e.val)) w := by
  rcases keyK_cases hk with ⟨k, d, rfl, hu, hf, _, _⟩ | ⟨ks, fs, rfl, hu, _, _⟩
  · have := findNow_ok hf hkv 0 hl hv h
    simp only [Instr.findKey, Sem.run_bind, run_underlying hu, Result.andThen_ok, this, Nat.add_zero]
    rfl
  · have := findAsking_ok (P := P) hk hkv 0 hl hv h
    simp only [Nat.add_zero] at this
    cases en with
    | nil =>
      simp only [Instr.findKey, Sem.run_bind, run_underlying hu, Result.andThen_ok, Instr.findNow]
      cases r <;> rfl
    | cons x xs =>
      have hn : Instr.findNow (.struct fs) kv (x :: xs) 0 = none := by simp [Instr.findNow, Instr.sameNow]
      simp only [Instr.findKey, Sem.run_bind, run_underlying hu, Result.andThen_ok, hn, this]

/-! ### The operations -/
theorem VR.mp_inv {k : Nat} {v : Value} (h : VR σ H I w (.mp k) v) : ∃ c, H k = some c ∧ c.isV = true ∧ v = .map (some (σ k).1) := by
  cases h with
  | imm h => cases h
  | mp h hv => exact ⟨_, h, hv, rfl⟩

theorem map_put (h : Inv gh σ H I g.2 w) {k : Nat} {es q : List (D × D)} {en en' : Array MapEntry} {clock clock' : Nat} (hk : H k = some (.mp es)) (hb : w.heap[(σ k).1]? = some (.map en clock)) (hl : q.length = en'.size)
    (hv : ∀ i (h : i < q.length), VR0 I w (q[i]).1 (en'[i]'(hl ▸ h)).key ∧ VR σ H I w (q[i]).2 (en'[i]'(hl ▸ h)).val) :
    Inv gh σ (H.set k (.mp q)) I g.2 { w with heap := w.heap.setIfInBounds (σ k).1 (.map en' clock') } ∧ StepOk gh σ H I g.2 w σ (H.set k (.mp q)) I g.2 { w with heap := w.heap.setIfInBounds (σ k).1 (.map en' clock') } := by
  have hs := MapKept.heap_set (o' := .map en' clock') hb
  exact h.put (σ' := σ) (H' := H.set k (.mp q)) (I' := I) (w' := { w with heap := w.heap.setIfInBounds (σ k).1 (.map en' clock') }) k (.mp q) (fun j hj => Hp.set_other H _ hj) (Hp.set_same H k _) (fun _ _ => rfl) (fun _ _ x => x)
    (by simp) rfl rfl rfl (fun b _ hb => hs.2 b (hb _ hk rfl)) (by simpa using h.lt k (by simp [hk])) (.inl ⟨by simp [hk], rfl⟩) (fun _ c0 h0 => by rw [hk] at h0; obtain rfl := Option.some.inj h0; rfl)
    (fun c0 h0 => by rw [hk] at h0; obtain rfl := Option.some.inj h0; exact ⟨⟨_, rfl, fun _ => ⟨rfl, rfl⟩, fun _ _ _ ha => by simp [HC.asArr] at ha⟩⟩) (fun _ _ x => .inl x)
    (fun hw hks => ⟨en', clock', hl, hs.1, fun i hi => ⟨(hv i hi).1.mono (fun _ _ x => x) hw, (hv i hi).2.step (fun _ _ x => x) hw hks⟩⟩)

theorem mkmap_ok {t : TypeId} {k : Nat} (h : Inv gh σ H I g.2 w) (ho : o.op = .makeMap t none) (hk : H k = none) (hr : r = ⟨.mp k, H.set k (.mp []), g, .new⟩) : ActOk gh P o a σ H I g.2 w r := by
  subst hr
  have hsz : (w.alloc (.map #[] 0)).heap.size = w.heap.size + 1 := by simp
  obtain ⟨p1, p2⟩ := h.put (σ' := fun j => if j = k then (w.heap.size, 0) else σ j) (H' := H.set k (.mp [])) (I' := I) (w' := w.alloc (.map #[] 0)) k (.mp []) (fun j hj => Hp.set_other H _ hj) (Hp.set_same H k _) (fun j hj => by simp [hj]) (fun _ _ x => x)
    (by omega) rfl rfl rfl (fun b hb _ => Below.heap_alloc w _ b hb) (by simp) (.inr (by simp)) (fun _ c0 h0 => by rw [hk] at h0; cases h0) (fun c0 h0 => by rw [hk] at h0; cases h0) (fun _ _ x => .inl x)
    (fun hw hks => ⟨#[], 0, rfl, by simp only [if_true]; exact Go.heap_alloc_new w _, fun i hi => by simp at hi⟩)
  have hb : VR (fun j => if j = k then (w.heap.size, 0) else σ j) (H.set k (.mp [])) I (w.alloc (.map #[] 0)) (.mp k) (.map (some ((fun j => if j = k then (w.heap.size, 0) else σ j) k).1)) := .mp (Hp.set_same H k _) rfl
  simp only [if_true] at hb
  refine ⟨_, _, _, I, .inl ?_, p1, p2, hb⟩
  simp [execOp, ho, Instr.makeMap]

theorem mapOf_ok {t et : TypeId} {mk : MK} (h : mapOf P t = some (mk, et)) : ∃ kt, P.underlying t = some (.map kt et) ∧ keyK P kt = some mk := by
  unfold mapOf at h
  split at h
  · rename_i kt et' hu
    obtain ⟨mk', h1, h2⟩ := Option.map_eq_some_iff.1 h
    simp only [Prod.mk.injEq] at h2
    obtain ⟨rfl, rfl⟩ := h2
    exact ⟨kt, hu, h1⟩
  · simp at h

theorem mapset_ok {t et : TypeId} {mk : MK} {x y z : Operand} {ox oy oz : Opd} {k : Nat} {kd vd : D} {es q : List (D × D)} (h : Inv gh σ H I g.2 w) (he : EnvOk σ H I w n e a.tmps) (ho : o.op = .mapUpdate t x y z ∨ o.op = .insert t x y z) (hx : opdOf x = some ox) (hy : opdOf y = some oy) (hz : opdOf z = some oz) (ht : mapOf P t = some (mk, et))
    (h1 : ox.ev e = some (.mp k)) (h2 : oy.ev e = some kd) (h3 : oz.ev e = some vd) (hk : H k = some (.mp es)) (hok : keyOk mk kd = true) (hq : mapPut mk kd vd es = some q)
    (hr : r = ⟨.undef, H.set k (.mp q), g, .write⟩) : ActOk gh P o a σ H I g.2 w r := by
  subst hr
  obtain ⟨kt, hu, hkk⟩ := mapOf_ok ht
  obtain ⟨c, _, _, hxv⟩ := (opd_ok he hx h1).mp_inv
  have hkv := key_VR0 (opd_ok he hy h2) hok
  have hvv := opd_ok he hz h3
  obtain ⟨en, clock, hl, hb, hent⟩ := h.key k _ hk
  obtain ⟨ri, hidx, rfl⟩ := mapPut_idx hq
  have hfind := findKey_ok (P := P) hkk hkv (es := es) (en := en.toList) (by simpa using hl) (fun i hi hi' => by simpa using (hent i hi).1) hidx
  have hck := key_check (P := P) false hkk hkv hok
  have run : ∀ w', (Instr.mapUpdate t (a.eval x) (a.eval y) (a.eval z)).run P w = .ok () w' → OpRuns P o a w Go.undef w' := by
    intro w' hrun
    refine .inr ⟨?_, rfl⟩
    rcases ho with ho | ho <;> simp only [execOp, ho] <;> rw [Sem.run_bind, hrun] <;> rfl
  cases ri with
  | none =>
    simp only at hq ⊢
    obtain ⟨p1, p2⟩ := map_put (gh := gh) h (q := es ++ [(kd, vd)]) (en' := en.push { key := a.eval y, val := a.eval z, born := clock }) (clock' := clock + 1) hk hb (by simp [hl]) (fun i hi => by
      by_cases hlt : i < es.length
      · have hlt' : i < en.size := hl ▸ hlt
        simp only [List.getElem_append_left hlt, Array.getElem_push_lt hlt']
        exact hent i hlt
      · have hie : i = es.length := by simp at hi; omega
        subst hie
        simp only [List.getElem_append_right (Nat.le_refl _), Nat.sub_self, List.getElem_cons_zero]
        have : (en.push { key := a.eval y, val := a.eval z, born := clock })[es.length]'(by simp [hl]) = { key := a.eval y, val := a.eval z, born := clock } := by simp [hl]
        rw [this]
        exact ⟨hkv, hvv⟩)
    refine ⟨Go.undef, _, σ, I, run _ ?_, p1, p2, .imm .undef⟩
    rw [hxv]
    simp [Instr.mapUpdate, run_underlying hu, MapKept.run_getObj_map hb, hck, hfind, MapKept.run_setObj_map _ hb, Result.andThen]
  | some i =>
    simp only at hq ⊢
    obtain ⟨hlt, hcmp⟩ := mapIdx_lt hidx
    have hlt' : i < en.size := hl ▸ hlt
    obtain ⟨s1, s2⟩ := key_same hkv (hent i hlt).1 hcmp
    have hst : (Instr.keyThatStays (a.eval y) (a.eval y)).run P w = .ok (a.eval y) w := by simp [Instr.keyThatStays, s2]
    obtain ⟨p1, p2⟩ := map_put (gh := gh) h (q := es.set i (kd, vd)) (en' := en.modify i fun e => { e with key := a.eval y, val := a.eval z }) (clock' := clock) hk hb (by simp [hl]) (fun j hj => by
      have hj' : j < es.length := by simpa using hj
      have hjn : j < en.size := hl ▸ hj'
      simp only [List.getElem_set, Array.getElem_modify]
      by_cases hij : i = j
      · simp only [hij, if_true]
        exact ⟨hkv, hvv⟩
      · simp only [hij, if_false]
        exact hent j hj')
    refine ⟨Go.undef, _, σ, I, run _ ?_, p1, p2, .imm .undef⟩
    rw [hxv]
    have hen : en.toList[i]? = some en[i] := by simp [hlt']
    simp [Instr.mapUpdate, run_underlying hu, MapKept.run_getObj_map hb, hck, hfind, hen, hlt', s1, hst, MapKept.run_setObj_map _ hb, Result.andThen]

theorem lookup_ok {t et : TypeId} {mk : MK} {ok : Bool} {x y : Operand} {ox oy : Opd} {k : Nat} {kd z : D} {es : List (D × D)} {v : Option D} (h : Inv gh σ H I g.2 w) (he : EnvOk σ H I w n e a.tmps) (ho : o.op = .lookup t x y ok) (hx : opdOf x = some ox) (hy : opdOf y = some oy) (ht : mapOf P t = some (mk, et)) (hz : zeroOf P et = some z)
    (h1 : ox.ev e = some (.mp k)) (h2 : oy.ev e = some kd) (hk : H k = some (.mp es)) (hok : keyOk mk kd = true) (hq : mapGet mk kd es = some v)
    (hr : okD (if ok then .tup [v.getD z, .bool v.isSome] else v.getD z) H g = some r) : ActOk gh P o a σ H I g.2 w r := by
  obtain ⟨kt, hu, hkk⟩ := mapOf_ok ht
  obtain ⟨c, _, _, hxv⟩ := (opd_ok he hx h1).mp_inv
  have hkv := key_VR0 (opd_ok he hy h2) hok
  obtain ⟨en, clock, hl, hb, hent⟩ := h.key k _ hk
  obtain ⟨ri, hidx, rfl⟩ := mapGet_idx hq
  have hfind := findKey_ok (P := P) hkk hkv (es := es) (en := en.toList) (by simpa using hl) (fun i hi hi' => by simpa using (hent i hi).1) hidx
  have hck := key_check (P := P) en.isEmpty hkk hkv hok
  obtain ⟨zv, z1, z2⟩ := run_zeroOf hz w
  have key : ∃ u b, VR σ H I w ((ri.bind fun i => (es[i]?).map (·.2)).getD z) u ∧ b = (ri.bind fun i => (es[i]?).map (·.2)).isSome ∧ (Instr.lookup t (a.eval x) (a.eval y) ok).run P w = .ok (if ok then .tuple #[u, .bool b] else u) w := by
    cases ri with
    | none =>
      refine ⟨zv, false, .imm (ofVal_ok z2), rfl, ?_⟩
      rw [hxv]
      simp [Instr.lookup, run_underlying hu, MapKept.run_getObj_map hb, hck, hfind, z1, Result.andThen]
    | some i =>
      obtain ⟨hlt, _⟩ := mapIdx_lt hidx
      have hlt' : i < en.size := hl ▸ hlt
      have hen : en.toList[i]? = some en[i] := by simp [hlt']
      refine ⟨(en[i]).val, true, by simpa [List.getElem?_eq_getElem hlt] using (hent i hlt).2, by simp [List.getElem?_eq_getElem hlt], ?_⟩
      rw [hxv]
      simp [Instr.lookup, run_underlying hu, MapKept.run_getObj_map hb, hck, hfind, hen, hlt', Result.andThen]
  obtain ⟨u, b, k1, k2, k3⟩ := key
  have hrun : OpRuns P o a w (if ok then .tuple #[u, .bool b] else u) w := .inl (by simp only [execOp, ho]; rw [Sem.run_bind, k3]; rfl)
  refine .same h hrun ?_ hr
  cases ok
  · exact k1
  · simp only [if_true]
    refine .tup (by simp) (fun i hi => ?_)
    match i, hi with
    | 0, _ => exact k1
    | 1, _ => rw [k2]; exact .imm (.bool _)

theorem mapdel_ok {c : Call} {t u et : TypeId} {mk : MK} {x y : Operand} {ox oy : Opd} {k : Nat} {kd : D} {es q : List (D × D)} (h : Inv gh σ H I g.2 w) (he : EnvOk σ H I w n e a.tmps) (ho : o.op = .call c) (hc : c.callee = .builtin .delete) (hargs : c.args.toList = [x, y]) (hty : c.argTypes.toList = [t, u]) (hx : opdOf x = some ox) (hy : opdOf y = some oy) (ht : mapOf P t = some (mk, et))
    (h1 : ox.ev e = some (.mp k)) (h2 : oy.ev e = some kd) (hk : H k = some (.mp es)) (hok : keyOk mk kd = true) (hq : mapDel mk kd es = some q)
    (hr : r = ⟨.tup [], H.set k (.mp q), g, .write⟩) : ActOk gh P o a σ H I g.2 w r := by
  subst hr
  obtain ⟨callee, args, argTypes⟩ := c
  simp only at hc hargs hty
  subst hc
  obtain rfl : args = #[x, y] := by cases args; simp_all
  obtain rfl : argTypes = #[t, u] := by cases argTypes; simp_all
  obtain ⟨kt, hu, hkk⟩ := mapOf_ok ht
  obtain ⟨c, _, _, hxv⟩ := (opd_ok he hx h1).mp_inv
  have hkv := key_VR0 (opd_ok he hy h2) hok
  obtain ⟨en, clock, hl, hb, hent⟩ := h.key k _ hk
  obtain ⟨ri, hidx, rfl⟩ := mapDel_idx hq
  have hfind := findKey_ok (P := P) hkk hkv (es := es) (en := en.toList) (by simpa using hl) (fun i hi hi' => by simpa using (hent i hi).1) hidx
  have hck := key_check (P := P) en.isEmpty hkk hkv hok
  have run : ∀ w', (Builtin.delete_ #[t, u] o.type #[a.eval x, a.eval y]).run P w = .ok (.tuple #[]) w' → OpRuns P o a w (.tuple #[]) w' := by
    intro w' hrun
    refine .inl ?_
    simp only [execOp, ho, resolve, invoke, builtin, Sem.run_bind, Sem.run_pure, Result.andThen_ok, List.map_toArray, List.map_cons, List.map_nil, hrun]
  have hnil : ∀ (H' : Hp) (w' : World), VR σ H' I w' (.tup []) (.tuple #[]) := fun H' w' => .tup rfl (fun i hi => by simp at hi)
  cases ri with
  | none =>
    obtain ⟨p1, p2⟩ := map_put (gh := gh) h (q := es) (en' := en) (clock' := clock) hk hb hl hent
    refine ⟨_, _, σ, I, run _ ?_, p1, p2, hnil _ _⟩
    rw [hxv]
    simp [Builtin.delete_, run_underlying hu, MapKept.run_getObj_map hb, hck, hfind, MapKept.run_setObj_map _ hb, Result.andThen]
  | some i =>
    obtain ⟨hlt, hcmp⟩ := mapIdx_lt hidx
    have hlt' : i < en.size := hl ▸ hlt
    have her : en.eraseIdxIfInBounds i = en.eraseIdx i hlt' := by unfold Array.eraseIdxIfInBounds; rw [dif_pos hlt']
    obtain ⟨p1, p2⟩ := map_put (gh := gh) h (q := es.eraseIdx i) (en' := en.eraseIdx i hlt') (clock' := clock) hk hb (by rw [List.length_eraseIdx, if_pos hlt, Array.size_eraseIdx, hl]) (fun j hj => by
      have hj' : j < es.length - 1 := by simpa [List.length_eraseIdx, hlt] using hj
      simp only [List.getElem_eraseIdx, Array.getElem_eraseIdx]
      by_cases hij : j < i
      · simp only [hij, dif_pos]
        exact hent j (by omega)
      · simp only [hij]
        exact hent (j + 1) (by omega))
    refine ⟨_, _, σ, I, run _ ?_, p1, p2, hnil _ _⟩
    rw [hxv]
    have hen : en.toList[i]? = some en[i] := by simp [hlt']
    simp [Builtin.delete_, run_underlying hu, MapKept.run_getObj_map hb, hck, hfind, hen, hlt', her, MapKept.run_setObj_map _ hb, Result.andThen]
end Go.VM
end

section
namespace Go.VM
open Go Go.RowKit

variable {gh : Gh} {σ : Sg} {H H' : Hp} {I : Im} {g : Nat × gh.G} {w : World} {P : Program} {n : Nat} {e : Env} {a : Act} {o : Oper} {r : Res gh.G}

theorem bsliceA_ok {t el : TypeId} {m : Nat} {parts : Array (Nat × Operand)} {z : D} {os : List (Nat × Opd)} {ds cs : List D} {k : Nat} (h : Inv gh σ H I g.2 w) (he : EnvOk σ H I w n e a.tmps) (ho : o.op = .buildSlice t m parts) (hu : P.underlying t = some (.slice el)) (hz : zeroOf P el = some z) (hsz : szOf P el = some z.cells.length) (hs0 : 0 < z.cells.length)
    (hp : partsOfS parts.toList = some os) (hev : Opd.evL e (os.map (·.2)) = some ds) (hs : setParts (zerosD z.cells m) ((os.zip ds).map fun q => (q.1.1 * z.cells.length, z.cells.length, q.2)) = some cs) (hroom : m * z.cells.length ≤ 16777216) (hk : H k = none)
    (hr : r = ⟨.arr k 0 m, H.set k (.arr z.cells.length 0 (act.chunks z.cells.length m (cs.map D.norm))), g, .new⟩) : ActOk gh P o a σ H I g.2 w r := by
  subst hr
  obtain ⟨l1, h1⟩ := partsOfS_ok hp
  obtain ⟨l2, h2⟩ := evL_ok hev
  simp only [List.length_map] at l2
  have l0 : os.length = parts.size := by simpa using l1
  obtain ⟨zv, z1, z2⟩ := run_zeroOf hz w
  have hzc := (VR.imm (σ := σ) (H := H) (ofVal_ok (I := I) (w := w) z2)).cells (ofVal_cells z2)
  obtain ⟨k1, k2⟩ := zerosD_ok hzc hs0 m
  let zs : Array Value := (Array.range (m * z.cells.length)).map (zv.cells[· % zv.cells.size]!)
  have hzs : CellsOk (fun d v => VR σ H I w d v ∧ v.oneCell' = true) (zerosD z.cells m) zs := ⟨by simp [zs, k1], fun i hi => by
    have := k2 i hi
    simpa [zs] using this⟩
  have hpl : ∃ vs', Instr.fill (fun i => some (i * z.cells.length, z.cells.length)) zs (parts.toList.map fun p => (p.1, a.eval p.2)) = some vs' ∧ CellsOk (fun d v => VR σ H I w d v ∧ v.oneCell' = true) cs vs' := by
    refine setParts_ok _ _ hzs hs (by simp only [List.length_map, List.length_zip, Array.length_toList]; omega) (fun i hi hi' => ?_)
    simp only [List.length_map, List.length_zip] at hi
    simp only [List.length_map] at hi'
    simp only [List.getElem_map, List.getElem_zip]
    refine ⟨by rw [(h1 i (by omega) hi').1], fun hc => ?_⟩
    have a3 := h2 i (by omega) (by simp; omega)
    simp only [List.getElem_map] at a3
    exact (opd_ok he (h1 i (by omega) hi').2 a3).cells hc
  obtain ⟨vs', f1, f2⟩ := hpl
  have hcs : cs.length = m * z.cells.length := by
    have : ∀ (ps : List (Nat × Nat × D)) (x y : List D), setParts x ps = some y → y.length = x.length := by
      intro ps
      induction ps with
      | nil => intro x y hh; simp only [setParts, Option.some.injEq] at hh; rw [hh]
      | cons p ps ih =>
        obtain ⟨p1, p2, p3⟩ := p
        intro x y hh
        simp only [setParts] at hh
        split at hh
        · rw [ih _ _ hh, length_putCells]
        · simp at hh
    rw [this _ _ _ hs, k1]
  have hrun : (Instr.buildSlice t m (parts.map fun p => (p.1, a.eval p.2))).run P w = .ok (.slice (some ⟨w.heap.size, 0, none⟩) m m) (w.alloc (.cells vs' el)) := by
    have hno : ¬ (m * z.cells.length > 2 ^ 24) := by omega
    have hfill : Instr.fill (fun i => some (i * z.cells.length, z.cells.length)) ((Array.range (m * z.cells.length)).map (zv.cells[· % zv.cells.size]!)) ((parts.map fun p => (p.1, a.eval p.2)).toList) = some vs' := by simpa using f1
    by_cases hm0 : m * z.cells.length = 0
    · have hz0 : (Array.range (m * z.cells.length)).map (zv.cells[· % zv.cells.size]!) = (Array.range (m * z.cells.length)).map ((#[] : Array Value)[· % (#[] : Array Value).size]!) := by
        simp [hm0]
      rw [hz0] at hfill
      simp only [Instr.buildSlice, Sem.run_bind, run_underlying hu, run_szOf hsz, Result.andThen_ok, if_neg hno, Sem.run_pure, if_pos hm0, hfill, newRow, run_newObj]
      rfl
    · simp only [Instr.buildSlice, Sem.run_bind, run_underlying hu, run_szOf hsz, Result.andThen_ok, if_neg hno, Sem.run_pure, if_neg hm0, z1, hfill, newRow, run_newObj]
      rfl
  have hsize : vs'.size = m * z.cells.length := by rw [← f2.len, hcs]
  have hmm : m ≤ maxLen := by
    have : m ≤ m * z.cells.length := Nat.le_mul_of_pos_right _ hs0
    simp only [maxLen]; omega
  obtain ⟨c1, c2⟩ := chunks_ok z.cells.length m (cs.map D.norm) (by simpa using hcs)
  obtain ⟨p1, p2⟩ := h.put (σ' := fun j => if j = k then (w.heap.size, m) else σ j) (H' := H.set k (.arr z.cells.length 0 (act.chunks z.cells.length m (cs.map D.norm)))) (I' := I) (w' := w.alloc (.cells vs' el)) k _ (fun j hj => Hp.set_other H _ hj) (Hp.set_same H k _) (fun j hj => by simp [hj]) (fun _ _ x => x)
    (by simp) rfl rfl rfl (fun b hb _ => Below.heap_alloc w _ b hb) (by simp) (.inr (by simp)) (fun _ c0 h0 => by rw [hk] at h0; cases h0) (fun c0 h0 => by rw [hk] at h0; cases h0) (fun _ _ x => .inl x)
    (fun hw hks => ⟨hs0, fun c hc => by
      obtain ⟨i, hi, rfl⟩ := List.getElem_of_mem hc
      exact (c2 i hi).1, el, vs', by simp only [if_true]; exact Go.heap_alloc_new w _, by simp only [if_true]; exact hsize, by simp only [if_true]; omega, by simp only [if_true]; exact hmm, fun i hi j hj => by
      obtain ⟨hx, hy⟩ := (c2 i hi).2 j hj
      simp only [List.length_map] at hx
      have hlt : i * z.cells.length + j < vs'.size := by rw [← f2.len]; exact hx
      obtain ⟨q1, q2⟩ := f2.at_ _ hx
      refine ⟨_, Array.getElem?_eq_getElem hlt, q2, ?_⟩
      rw [hy, List.getElem_map]
      exact (q1.norm).step (fun _ _ x => x) hw hks⟩)
  have hb : VR (fun j => if j = k then (w.heap.size, m) else σ j) (H.set k (.arr z.cells.length 0 (act.chunks z.cells.length m (cs.map D.norm)))) I (w.alloc (.cells vs' el)) (.arr k 0 m) (.slice (some ⟨w.heap.size, 0, none⟩) m m) := .arr (Hp.set_same H k _) rfl (Nat.le_refl _) (fun _ => by simp)
  refine ⟨_, _, _, I, .inl ?_, p1, p2, hb⟩
  simp only [execOp, ho]
  rw [Sem.run_bind, hrun]
  rfl
end Go.VM
end
