/- An abstract reading of the program, and what it answers. By an AI agent. -/
import Derived.Test.YtkbgehhnimpleaaGreatDoorAbsCode
set_option linter.all false
namespace Go.Abs

/-! ### Operations that only look -/

def aopQ (E : Env) (o : Oper) (st : St) : Option TV := match o.op with
  | .move x => opd st x
  | .assign x => opd st x
  | .pick c x y => match opd st c with
    | some (.v (.sc (.bool b))) => opd st (if b then x else y)
    | _ => none
  | .build T parts => match (parts.toList.map (·.2)).mapM (avOpd st) with
    | some as => (abuild E.P T ((parts.toList.map (·.1)).zip as)).map fun cs => .v (.agg cs)
    | none => none
  | .load T x => match opd st x with
    | some t => (ld E.P { st with σ := [], loc := [] } T t).map .v
    | none => none
  | .nilCheck x => match opd st x with
    | some t => if sure t then some t else none
    | none => none
  | .binOp op T x y _ => match avOpd st x, avOpd st y with
    | some a, some b => (abin E.P op T a b).map .v
    | _, _ => none
  | .unOp op _ x => match avOpd st x with
    | some a => (aun op a).map .v
    | none => none
  | .convert src dst x => match avOpd st x with
    | some a => (acvt E.P src dst a).map .v
    | none => none
  | .makeFunc (.func f) first caps => match first.toList.mapM (avOpd st), caps.toList.mapM (avOpd st) with
    | some fs, some cs => some (.v (.fn f fs cs))
    | _, _ => none
  | .slice T x lo hi mx => match opd st x, optIdx st lo, optIdx st hi, optIdx st mx with
    | some t, some l, some h, some m => aslice E.P T t l h m
    | _, _, _, _ => none
  | .fieldAddr T x f => match opd st x with
    | some t => afield E.P T t f
    | none => none
  | .field T x f => match avOpd st x with
    | some a => (afieldV E.P T a f).map .v
    | none => none
  | .indexAddr T x i => match opd st x, intOpd st i with
    | some t, some (_, n) => aindex E.P T t n
    | _, _ => none
  | .index T x i => match avOpd st x, intOpd st i with
    | some a, some (_, n) => (aindexV E.P T a n).map .v
    | _, _ => none
  | .extract x i => match avOpd st x with
    | some a => (aextract a i).map .v
    | none => none
  | .call c => match c.callee with
    | .builtin .len => match c.args.toList, c.argTypes.toList with
      | [x], [T] => match opd st x with
        | some t => (alen E.P T t).map fun n => .v (.sc (.int .i64 n))
        | none => none
      | _, _ => none
    | .builtin .max => match c.args.toList.mapM (avOpd st) with
      | some as => (amm true as).map .v
      | none => none
    | .builtin .min => match c.args.toList.mapM (avOpd st) with
      | some as => (amm false as).map .v
      | none => none
    | _ => none
  | _ => none

section
variable {σ0 : Store} {g0 : Gh} {w0 : World} {st : St} {g : Gh} {lam : List (Nat × Nat)} {w : World}

theorem rd_dead {t : TV} {n : Nat} {cs : List AV} (h : rd { st with σ := [], loc := [] } t n = some cs) : rd st t n = some cs := by
  cases t with
  | v x => cases x <;> simp_all [rd]
  | lp i off => simp [rd] at h
  | ls i off len sz cap => simp [rd] at h
  | top => simp [rd] at h

theorem ld_dead {P : Program} {T : TypeId} {t : TV} {y : AV} (h : ld P { st with σ := [], loc := [] } T t = some y) : ld P st T t = some y := by
  unfold ld at *
  split at h
  · rename_i h1
    split at h
    · rename_i n h2
      simp only [Option.map_eq_some_iff] at h ⊢
      obtain ⟨cs, h3, h4⟩ := h
      exact ⟨cs, rd_dead h3, h4⟩
    · cases h
  · rename_i h1
    simp only [Option.bind_eq_some_iff] at h ⊢
    obtain ⟨cs, h3, h4⟩ := h
    exact ⟨cs, rd_dead h3, h4⟩
  · cases h

theorem opd_congr {st' : St} {x : Operand} (h : ∀ t, x = .tmp t → st.tmps[t]? = st'.tmps[t]?) : opd st x = opd st' x := by
  cases x with
  | tmp t => exact h t rfl
  | _ => rfl

theorem avOpd_congr {st' : St} {x : Operand} (h : opd st x = opd st' x) : avOpd st x = avOpd st' x := by
  unfold avOpd; rw [h]
theorem intOpd_congr {st' : St} {x : Operand} (h : opd st x = opd st' x) : intOpd st x = intOpd st' x := by
  unfold intOpd; rw [h]
theorem optIdx_congr {st' : St} {x : Option Operand} (h : ∀ y ∈ x.toList, opd st y = opd st' y) : optIdx st x = optIdx st' x := by
  cases x with
  | none => rfl
  | some y => simp only [optIdx]; rw [intOpd_congr (h y (by simp))]
theorem mapM_congr {st' : St} : ∀ {xs : List Operand}, (∀ y ∈ xs, opd st y = opd st' y) → xs.mapM (avOpd st) = xs.mapM (avOpd st')
  | [], _ => rfl
  | x :: xs, h => by
    rw [List.mapM_cons, List.mapM_cons, avOpd_congr (h x (by simp)), mapM_congr (fun y hy => h y (by simp [hy]))]

theorem aopQ_congr {E : Env} {o : Oper} {st' : St} (h : ∀ x ∈ o.op.operands, opd st x = opd st' x) : aopQ E o st = aopQ E o st' := by
  obtain ⟨dst, op, type, pos, after, guard⟩ := o
  simp only at h
  have hld : ∀ T t, ld E.P { st with σ := [], loc := [] } T t = ld E.P { st' with σ := [], loc := [] } T t := by
    intro T t
    have : ∀ n, rd { st with σ := [], loc := [] } t n = rd { st' with σ := [], loc := [] } t n := by
      intro n
      cases t with
      | v x => cases x <;> simp [rd]
      | lp i off => simp [rd]
      | ls i off len sz cap => simp [rd]
      | top => simp [rd]
    simp only [ld, this]
  cases op <;> simp only [Op.operands] at h <;> simp only [aopQ]
  case move x => exact h x (by simp)
  case assign x => exact h x (by simp)
  case pick c x y =>
    rw [h c (by simp)]
    split
    · rename_i b _
      cases b
      · exact h y (by simp)
      · exact h x (by simp)
    · rfl
  case build T parts => rw [mapM_congr (st' := st') (fun y hy => h y (by simpa using hy))]
  case load T x => rw [h x (by simp)]; simp only [hld]
  case nilCheck x => rw [h x (by simp)]
  case binOp op T x y yt => rw [avOpd_congr (h x (by simp)), avOpd_congr (h y (by simp))]
  case unOp op T x => rw [avOpd_congr (h x (by simp))]
  case convert s d x => rw [avOpd_congr (h x (by simp))]
  case makeFunc fn first caps =>
    cases fn <;> simp only
    rw [mapM_congr (st' := st') (xs := first.toList) (fun y hy => h y (by simp at hy ⊢; exact .inl hy)), mapM_congr (st' := st') (xs := caps.toList) (fun y hy => h y (by simp at hy ⊢; exact .inr hy))]
  case slice T x lo hi mx =>
    rw [h x (by simp), optIdx_congr (st' := st') (x := lo) (fun y hy => h y (by simp at hy ⊢; simp [hy])), optIdx_congr (st' := st') (x := hi) (fun y hy => h y (by simp at hy ⊢; simp [hy])), optIdx_congr (st' := st') (x := mx) (fun y hy => h y (by simp at hy ⊢; simp [hy]))]
  case fieldAddr T x f => rw [h x (by simp)]
  case field T x f => rw [avOpd_congr (h x (by simp))]
  case indexAddr T x i => rw [h x (by simp), intOpd_congr (h i (by simp))]
  case index T x i => rw [avOpd_congr (h x (by simp)), intOpd_congr (h i (by simp))]
  case extract x i => rw [avOpd_congr (h x (by simp))]
  case call c =>
    cases hc : c.callee with
    | builtin b =>
      simp only [Call.operands, hc] at h
      have hm : c.args.toList.mapM (avOpd st) = c.args.toList.mapM (avOpd st') := mapM_congr (fun y hy => h y (by simpa using hy))
      cases b <;> simp only
      case len =>
        split
        · rename_i x T e1 e2
          rw [h x (by have : x ∈ c.args.toList := by rw [e1]; simp
                      simpa using this)]
        · rfl
      case max => rw [hm]
      case min => rw [hm]
    | _ => rfl

theorem mapM_frzL {xs : List Operand} {ys : List AV} {a : Act} (h : Inv σ0 g0 w0 st g lam w a.tmps.toList) (he : xs.mapM (avOpd st) = some ys) : VRL g ys (xs.map a.eval) := avOpds_ok h he

theorem aopQ_ok {E : Env} {a : Act} {o : Oper} (h : Inv σ0 g0 w0 st g lam w a.tmps.toList) {t : TV} (he : aopQ E o st = some t) :
    ∃ v, (execOp a.eval o).run E.P w = .ok (.value v) w ∧ TVR g lam t v := by
  unfold aopQ at he
  split at he
  · rename_i x ho
    exact ⟨_, by simp only [execOp, ho]; rfl, opd_ok h he⟩
  · rename_i x ho
    exact ⟨_, by simp only [execOp, ho]; rfl, opd_ok h he⟩
  · rename_i c x y ho
    split at he
    · rename_i b hc
      have hcv := opd_ok h hc
      simp only [TVR, VR] at hcv
      refine ⟨a.eval (if b then x else y), ?_, opd_ok h he⟩
      simp only [execOp, ho, hcv, asBool, Sem.run_bind, Sem.run_pure, Result.andThen_ok]
      cases b <;> rfl
    · cases he
  · rename_i T parts ho
    split at he
    · rename_i as h1
      simp only [Option.map_eq_some_iff] at he
      obtain ⟨cs, h2, rfl⟩ := he
      have r1 := avOpds_ok h h1
      have hlen : (parts.toList.map (·.1)).length = as.length := by rw [VRL_length r1]; simp
      have hz : VRL g (((parts.toList.map (·.1)).zip as).map (·.2)) ((parts.toList.map (·.2)).map a.eval) := by rw [zip_snd hlen]; exact r1
      obtain ⟨ov, hr, h3⟩ := abuild_ok hz h2 w
      rw [zip_fst hlen] at hr
      refine ⟨.agg ov, ?_, by simp only [TVR, VR]; exact ⟨_, rfl, h3⟩⟩
      have hp : (parts.map fun (i, x) => (i, a.eval x)) = ((parts.toList.map (·.1)).zip ((parts.toList.map (·.2)).map a.eval)).toArray := by
        rw [← parts_zip a.eval parts.toList]
        apply Array.ext'
        simp
      simp only [execOp, ho, hp, Sem.run_bind, hr, Result.andThen_ok, Sem.run_pure]
    · cases he
  · rename_i T x ho
    split at he
    · rename_i t1 h1
      simp only [Option.map_eq_some_iff] at he
      obtain ⟨y, h2, rfl⟩ := he
      obtain ⟨addr, u, e1, hr, h3⟩ := ld_ok (P := E.P) h (opd_ok h h1) (ld_dead h2)
      refine ⟨u, ?_, h3⟩
      simp [execOp, ho, Instr.loadAt, e1, Instr.sureAddr, hr]
    · cases he
  · rename_i x ho
    split at he
    · rename_i t1 h1
      split at he
      · rename_i hs
        cases he
        have ht := opd_ok h h1
        refine ⟨a.eval x, ?_, ht⟩
        unfold sure at hs
        split at hs
        · obtain ⟨p, _, hv⟩ := ht; simp [execOp, ho, hv]
        · simp only [TVR, VR] at ht; obtain ⟨b', off, c, T', fz, _, hv, _⟩ := ht; simp [execOp, ho, hv]
        · simp only [TVR, VR] at ht; obtain ⟨b', _, hv⟩ := ht; simp [execOp, ho, hv]
        · simp only [TVR, VR] at ht; obtain ⟨xs, ys, hv, _⟩ := ht; simp [execOp, ho, hv]
        · cases hs
      · cases he
    · cases he
  · rename_i op T x y yt ho
    split at he
    · rename_i b c h1 h2
      simp only [Option.map_eq_some_iff] at he
      obtain ⟨r, h3, rfl⟩ := he
      obtain ⟨z, hr, h4⟩ := abin_ok (P := E.P) (ox := x) (oy := y) h3 (avOpd_ok h h1) (avOpd_ok h h2) w
      refine ⟨z, ?_, h4⟩
      simp only [execOp, ho]
      rw [Sem.run_bind, hr]; rfl
    · cases he
  · rename_i op T x ho
    split at he
    · rename_i b h1
      simp only [Option.map_eq_some_iff] at he
      obtain ⟨r, h3, rfl⟩ := he
      obtain ⟨z, hr, h4⟩ := aun_ok (P := E.P) h3 (avOpd_ok h h1) w
      refine ⟨z, ?_, h4⟩
      simp only [execOp, ho]
      rw [Sem.run_bind, hr]; rfl
    · cases he
  · rename_i src dst x ho
    split at he
    · rename_i b h1
      simp only [Option.map_eq_some_iff] at he
      obtain ⟨r, h3, rfl⟩ := he
      obtain ⟨z, hr, h4⟩ := acvt_ok (P := E.P) h3 (avOpd_ok h h1) w
      refine ⟨z, ?_, h4⟩
      simp only [execOp, ho]
      rw [Sem.run_bind, hr]; rfl
    · cases he
  · rename_i f first caps ho
    split at he
    · rename_i fs cs h1 h2
      cases he
      have r1 := avOpds_ok h h1
      have r2 := avOpds_ok h h2
      refine ⟨.func (.func f) (first.map a.eval) (caps.map a.eval), ?_, ?_⟩
      · simp only [execOp, ho, Instr.makeFunc]; rfl
      · simp only [TVR, VR]
        exact ⟨_, _, rfl, by simpa using r1, by simpa using r2⟩
    · cases he
  · rename_i T x lo hi mx ho
    split at he
    · rename_i t1 l hh m h1 h2 h3 h4
      obtain ⟨z, hr, h6⟩ := aslice_ok (P := E.P) he (optIdx_ok h h2) (optIdx_ok h h3) (optIdx_ok h h4) (opd_ok h h1) w
      refine ⟨z, ?_, h6⟩
      simp only [execOp, ho]
      rw [Sem.run_bind, hr]; rfl
    · cases he
  · rename_i T x f ho
    split at he
    · rename_i t1 h1
      obtain ⟨z, hr, h6⟩ := afield_ok (P := E.P) he (opd_ok h h1) w
      refine ⟨z, ?_, h6⟩
      simp only [execOp, ho]
      rw [Sem.run_bind, hr]; rfl
    · cases he
  · rename_i T x f ho
    split at he
    · rename_i b h1
      simp only [Option.map_eq_some_iff] at he
      obtain ⟨r, h5, rfl⟩ := he
      obtain ⟨z, hr, h6⟩ := afieldV_ok (P := E.P) h5 (avOpd_ok h h1) w
      refine ⟨z, ?_, h6⟩
      simp only [execOp, ho]
      rw [Sem.run_bind, hr]; rfl
    · cases he
  · rename_i T x i ho
    split at he
    · rename_i t1 k n h1 h2
      obtain ⟨z, hr, h6⟩ := aindex_ok (P := E.P) (k := k) he (opd_ok h h1) w
      refine ⟨z, ?_, h6⟩
      simp only [execOp, ho, intOpd_ok h h2]
      rw [Sem.run_bind, hr]; rfl
    · cases he
  · rename_i T x i ho
    split at he
    · rename_i b k n h1 h2
      simp only [Option.map_eq_some_iff] at he
      obtain ⟨r, h5, rfl⟩ := he
      obtain ⟨z, hr, h6⟩ := aindexV_ok (P := E.P) (k := k) h5 (avOpd_ok h h1) w
      refine ⟨z, ?_, h6⟩
      simp only [execOp, ho, intOpd_ok h h2]
      rw [Sem.run_bind, hr]; rfl
    · cases he
  · rename_i x i ho
    split at he
    · rename_i b h1
      simp only [Option.map_eq_some_iff] at he
      obtain ⟨r, h5, rfl⟩ := he
      obtain ⟨z, hr, h6⟩ := aextract_ok (P := E.P) h5 (avOpd_ok h h1) w
      refine ⟨z, ?_, h6⟩
      simp only [execOp, ho]
      rw [Sem.run_bind, hr]; rfl
    · cases he
  · rename_i c ho
    have hargs : c.args.map a.eval = (c.args.toList.map a.eval).toArray := toList_map_eval a c.args
    have hts : c.argTypes = c.argTypes.toList.toArray := by simp
    have run : ∀ {b : Builtin} {s : Sem Value}, c.callee = .builtin b → (∀ consts, builtin b c.argTypes o.type consts (c.args.map a.eval) = (do pure (.value (← s)))) → ∀ {v : Value} {w' : World}, s.run E.P w = .ok v w' → (execOp a.eval o).run E.P w = .ok (.value v) w' := by
      intro b s hb hs v w' hr
      simp only [execOp, ho, resolve, hb, Sem.run_bind, Sem.run_pure, Result.andThen_ok, invoke]
      rw [hs, Sem.run_bind, hr]; rfl
    split at he
    · rename_i hb
      split at he
      · rename_i x T e1 e2
        split at he
        · rename_i t1 h1
          simp only [Option.map_eq_some_iff] at he
          obtain ⟨n, h3, rfl⟩ := he
          have hr := alen_ok (P := E.P) h3 (opd_ok h h1) o.type w
          refine ⟨.int .i64 n, ?_, by simp only [TVR, VR]⟩
          refine run hb (fun consts => ?_) hr
          rw [hargs, e1, hts, e2]
          rfl
        · cases he
      · cases he
    · rename_i hb
      split at he
      · rename_i as h1
        simp only [Option.map_eq_some_iff] at he
        obtain ⟨r, h3, rfl⟩ := he
        obtain ⟨u, hr, h4⟩ := amm_ok (P := E.P) (mx := true) h3 (avOpds_ok h h1) c.argTypes o.type w
        refine ⟨u, ?_, h4⟩
        refine run hb (fun consts => ?_) hr
        rw [hargs]
        rfl
      · cases he
    · rename_i hb
      split at he
      · rename_i as h1
        simp only [Option.map_eq_some_iff] at he
        obtain ⟨r, h3, rfl⟩ := he
        obtain ⟨u, hr, h4⟩ := amm_ok (P := E.P) (mx := false) h3 (avOpds_ok h h1) c.argTypes o.type w
        refine ⟨u, ?_, h4⟩
        refine run hb (fun consts => ?_) hr
        rw [hargs]
        rfl
      · cases he
    · cases he
  · cases he
end

end Go.Abs
