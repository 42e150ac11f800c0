/- An abstract reading of the program, and what it answers. By an AI agent. -/
import Derived.Test.YtkbgehhnimpleaaGreatDoorAbsLook
set_option linter.all false
namespace Go.Abs

/-! ### One operation of a region that draws its order -/

/-- What an operation's place in an order may turn. -/
inductive Cls where
  | quiet | load | fresh | alloc | call | full
  deriving DecidableEq

def Cls.σ : Cls → Bool
  | .call | .full => true
  | _ => false
def Cls.l : Cls → Bool
  | .alloc | .full => true
  | _ => false

def aldQ (E : Env) (o : Oper) (st : St) : Option TV := match o.op with
  | .load T x => match opd st x with
    | some t => (ld E.P st T t).map .v
    | none => none
  | _ => none

def afresh (E : Env) (fid : FuncId) (o : Oper) (st : St) : Option TV := match o.op with
  | .box _ x => match aop.mdOf E fid o with
    | .dflt => (avOpd st x).map fun a => .v (.ip (cellsOf a))
    | _ => none
  | .buildSlice T len parts => match aop.mdOf E fid o with
    | .dflt => match (parts.toList.map (·.2)).mapM (avOpd st) with
      | some as => match abuildS E.P T len ((parts.toList.map (·.1)).zip as) with
        | some (cs, n) => if cs.length = len * n then some (.v (.is cs len true)) else none
        | none => none
      | none => none
    | _ => none
  | _ => none

def aallocQ (E : Env) (fid : FuncId) (o : Oper) (l : Store) : Option (TV × Store) := match o.op with
  | .alloc T => match aop.mdOf E fid o with
    | .glob => none
    | _ => (azero E.P T).map fun cs => (.lp l.length 0, l ++ [some cs])
  | _ => none

/-- Which function is called, with which arguments, where nothing is frozen by it. -/
def acallQ (E : Env) (o : Oper) (st : St) : Option (FuncId × List AV) := match o.op with
  | .call c => match c.callee with
    | .value f => match avOpd st f, c.args.toList.mapM (avOpd st) with
      | some (.fn F first caps), some args => if (E.at_ F).isNone && acallable E.P F then some (F, first ++ args ++ caps) else none
      | _, _ => none
    | _ => none
  | _ => none

def adval (E : Env) (fid : FuncId) (call : CallF) (ops : Array Oper) (o : Oper) (st : St) : Option (Cls × TV × Store × Store) := match awanted ops st.tmps o with
  | some false => some (.quiet, undefT, st.σ, st.loc)
  | some true => match aopQ E o st with
    | some t => some (.quiet, t, st.σ, st.loc)
    | none => match aldQ E o st with
      | some t => some (.load, t, st.σ, st.loc)
      | none => match afresh E fid o st with
        | some t => some (.fresh, t, st.σ, st.loc)
        | none => match aallocQ E fid o st.loc with
          | some (t, l') => some (.alloc, t, st.σ, l')
          | none => match acallQ E o st with
            | some (F, args) => match call F args st.σ with
              | some (r, σ') => some (.call, .v r, σ', st.loc)
              | none => none
            | none => match aoperT E fid call ops { st with tmps := maskL (o.looksAt ops) 0 st.tmps } o with
              | some (t, st2) => some (.full, t, st2.σ, st2.loc)
              | none => none
  | none => none

theorem adval_σ {E : Env} {fid : FuncId} {call : CallF} {ops : Array Oper} {o : Oper} {st : St} {c : Cls} {t : TV} {σ' l' : Store} (h : adval E fid call ops o st = some (c, t, σ', l')) :
    (c.σ = false → σ' = st.σ) ∧ (c.l = false → l' = st.loc) := by
  unfold adval at h
  repeat' split at h
  all_goals first | (cases h; done) | (cases h; simp [Cls.σ, Cls.l])

theorem mem_looks_operands {ops : Array Oper} {o : Oper} {t : Nat} (h : Operand.tmp t ∈ o.op.operands) : t ∈ o.looksAt ops := by
  unfold Oper.looksAt
  exact List.mem_append_left _ (List.mem_filterMap.2 ⟨.tmp t, by simpa using h, rfl⟩)

theorem awanted_congr {ops : Array Oper} {o : Oper} {A B : List TV} (h : ∀ t ∈ o.looksAt ops, A[t]? = B[t]?) : awanted ops A o = awanted ops B o := by
  unfold awanted
  cases hg : o.guard with
  | none => rfl
  | some jw =>
    obtain ⟨j, want⟩ := jw
    simp only
    cases hd : (ops[j]?).bind (·.dst) with
    | none => rfl
    | some d =>
      simp only
      rw [h d (by unfold Oper.looksAt; simp [hg, hd])]

theorem acallQ_congr {E : Env} {o : Oper} {st st' : St} (h : ∀ x ∈ o.op.operands, opd st x = opd st' x) : acallQ E o st = acallQ E o st' := by
  unfold acallQ
  split
  · rename_i c hc
    split
    · rename_i f hf
      have hops : ∀ x, x = f ∨ x ∈ c.args.toList → opd st x = opd st' x := by
        intro x hx
        refine h x ?_
        rw [hc]
        simp only [Op.operands, Call.operands, hf]
        rcases hx with rfl | hx
        · simp
        · simp at hx ⊢; exact .inr hx
      rw [avOpd_congr (hops f (.inl rfl)), mapM_congr (fun y hy => hops y (.inr hy))]
    · rfl
  · rfl

theorem afresh_congr {E : Env} {fid : FuncId} {o : Oper} {st st' : St} (h : ∀ x ∈ o.op.operands, opd st x = opd st' x) : afresh E fid o st = afresh E fid o st' := by
  unfold afresh
  split
  · rename_i T x hx
    rw [avOpd_congr (h x (by rw [hx]; simp [Op.operands]))]
  · rename_i T len parts hx
    rw [mapM_congr (st' := st') (fun y hy => h y (by rw [hx]; simpa [Op.operands] using hy))]
  · rfl

theorem maskL_get (l : List Nat) : ∀ (ts : List TV) (i k : Nat), (maskL l i ts)[k]? = (ts[k]?).map fun t => if l.contains (i + k) then t else .top
  | [], i, k => by simp [maskL]
  | t :: ts, i, 0 => by simp [maskL]
  | t :: ts, i, k + 1 => by
    simp only [maskL, List.getElem?_cons_succ]
    rw [maskL_get l ts (i + 1) k]
    have : i + 1 + k = i + (k + 1) := by omega
    rw [this]

theorem maskL_congr {l : List Nat} {A B : List TV} (hl : A.length = B.length) (h : ∀ t ∈ l, A[t]? = B[t]?) : maskL l 0 A = maskL l 0 B := by
  apply List.ext_getElem?
  intro k
  rw [maskL_get, maskL_get, Nat.zero_add]
  by_cases hk : k ∈ l
  · rw [h k hk]
  · have hc : l.contains k = false := by simpa using hk
    simp only [hc]
    rcases Nat.lt_or_ge k A.length with h1 | h1
    · rw [List.getElem?_eq_getElem h1, List.getElem?_eq_getElem (by omega)]; simp
    · rw [List.getElem?_eq_none h1, List.getElem?_eq_none (by omega)]

section
variable {σ0 : Store} {g0 : Gh} {w0 : World} {st : St} {g : Gh} {lam : List (Nat × Nat)} {w : World}

theorem afresh_ok {E : Env} {fid : FuncId} {a : Act} {o : Oper} (h : Inv σ0 g0 w0 st g lam w a.tmps.toList) {t : TV} (he : afresh E fid o st = some t) :
    ∃ v w' g' lam', (execOp a.eval o).run E.P w = .ok (.value v) w' ∧ Inv σ0 g0 w0 st g' lam' w' a.tmps.toList ∧ TVR g' lam' t v := by
  unfold afresh at he
  split at he
  · rename_i T x ho
    split at he
    · rename_i hm
      simp only [Option.map_eq_some_iff] at he
      obtain ⟨y, h1, rfl⟩ := he
      obtain ⟨g', lam', hle, h2, h3⟩ := mkP_ok h .dflt true T (VR_cells (avOpd_ok h h1))
      refine ⟨_, _, g', lam', ?_, h2, h3⟩
      simp [execOp, ho, Instr.box, newVar, newRow, World.alloc_eq]
    · cases he
  · rename_i T len parts ho
    split at he
    · rename_i hm
      split at he
      · rename_i as h1
        split at he
        · rename_i cs n h2
          split at he
          · rename_i hcl
            cases he
            have r1 := avOpds_ok h h1
            have hlen : (parts.toList.map (·.1)).length = as.length := by rw [VRL_length r1]; simp
            have hz : VRL g (((parts.toList.map (·.1)).zip as).map (·.2)) ((parts.toList.map (·.2)).map a.eval) := by rw [zip_snd hlen]; exact r1
            obtain ⟨ov, e, hr, h3⟩ := abuildS_ok hz h2 w
            rw [zip_fst hlen] at hr
            obtain ⟨g', lam', hle, h4, h5⟩ := mkS_ok h .dflt e h3 len n (by rw [← hcl, VRL_length h3]; simp)
            refine ⟨_, _, g', lam', ?_, h4, h5⟩
            have hp : (parts.map fun (i, x) => (i, a.eval x)) = ((parts.toList.map (·.1)).zip ((parts.toList.map (·.2)).map a.eval)).toArray := by
              rw [← parts_zip a.eval parts.toList]
              apply Array.ext'
              simp
            simp only [execOp, ho, hp, Sem.run_bind, hr, Result.andThen_ok, Sem.run_pure]
          · cases he
        · cases he
      · cases he
    · cases he
  · cases he

theorem aallocQ_ok {E : Env} {fid : FuncId} {a : Act} {o : Oper} (h : Inv σ0 g0 w0 st g lam w a.tmps.toList) {t : TV} {l' : Store} (he : aallocQ E fid o st.loc = some (t, l')) :
    ∃ v w' g' lam', (execOp a.eval o).run E.P w = .ok (.value v) w' ∧ Inv σ0 g0 w0 { st with loc := l' } g' lam' w' a.tmps.toList ∧ TVR g' lam' t v := by
  unfold aallocQ at he
  split at he
  · rename_i T ho
    split at he
    · cases he
    · simp only [Option.map_eq_some_iff, Prod.mk.injEq] at he
      obtain ⟨cs, h1, rfl, rfl⟩ := he
      obtain ⟨z, hz, hc, _⟩ := azero_ok h1 g w
      obtain ⟨g', lam', hle, h2, h3⟩ := mkP_ok h .loc false T hc
      refine ⟨_, _, g', lam', ?_, h2, h3⟩
      simp [execOp, ho, Instr.alloc, hz, newVar, newRow, World.alloc_eq]
  · cases he

theorem aldQ_ok {E : Env} {a : Act} {o : Oper} {T : TypeId} {x : Operand} (ho : o.op = .load T x) (h : Inv σ0 g0 w0 st g lam w a.tmps.toList) {t : TV} (hx : opd st x = some t) {y : AV} (he : ld E.P st T t = some y) :
    ∃ v, (execOp a.eval o).run E.P w = .ok (.value v) w ∧ TVR g lam (.v y) v := by
  obtain ⟨addr, u, e1, hr, h3⟩ := ld_ok (P := E.P) h (opd_ok h hx) he
  refine ⟨u, ?_, h3⟩
  simp [execOp, ho, Instr.loadAt, e1, Instr.sureAddr, hr]

/-- One operation, where memory is as it was in the order of the text, as far as it looks at it. -/
theorem adval_ok {E : Env} (hat : ∀ f k, E.at_ f = some k → AtOK E.P f k) {call : CallF} (hcall : CallsOK E.P call) {fid : FuncId} {ops : Array Oper} {o : Oper} {a : Act} {σm lm : Store} {M : List TV}
    (h : Inv σ0 g0 w0 { σ := σm, loc := lm, tmps := M } g lam w a.tmps.toList) {c : Cls} {t : TV} {σ' l' : Store} (he : adval E fid call ops o st = some (c, t, σ', l'))
    (hlen : M.length = st.tmps.length) (hM : ∀ s ∈ o.looksAt ops, M[s]? = st.tmps[s]?) (hσ : c.σ = true → σm = st.σ) (hl : c.l = true → lm = st.loc)
    (hld : c = .load → ∀ T x u, o.op = .load T x → opd st x = some u → ∀ y, ld E.P st T u = some y → ld E.P { σ := σm, loc := lm, tmps := M } T u = some y)
    {Q : Exit → Act → World → Prop} {K : Act → World → Prop} (hK : ∀ v w' g' lam', Inv σ0 g0 w0 { σ := if c.σ then σ' else σm, loc := if c.l then l' else lm, tmps := M } g' lam' w' a.tmps.toList → TVR g' lam' t v → K (a.put o.dst v) w') :
    if Region.wanted o (yielded ops a.tmps) then o.wp E.P a w K Q else K (a.put o.dst undef) w := by
  have hopd : ∀ x ∈ o.op.operands, opd { σ := σm, loc := lm, tmps := M } x = opd st x := by
    intro x hx
    cases x with
    | tmp s => exact hM s (mem_looks_operands hx)
    | _ => rfl
  have hwant : awanted ops M o = awanted ops st.tmps o := awanted_congr hM
  unfold adval at he
  rw [← hwant] at he
  split at he
  · rename_i hw
    rw [awanted_ok (st := { σ := σm, loc := lm, tmps := M }) h.tm hw, if_neg (by simp)]
    cases he
    exact hK _ _ _ _ h (undefT_ok _ _)
  · rename_i hw
    have hwt := awanted_ok (st := { σ := σm, loc := lm, tmps := M }) h.tm hw
    split at he
    · rename_i t1 hq
      cases he
      rw [hwt, if_pos rfl]
      rw [← aopQ_congr (st := { σ := σm, loc := lm, tmps := M }) hopd] at hq
      obtain ⟨v, hr, ht⟩ := aopQ_ok h hq
      unfold Oper.wp
      rw [hr, Oper.upon_value]
      exact hK _ _ _ _ h ht
    · split at he
      · rename_i t1 hq
        cases he
        rw [hwt, if_pos rfl]
        unfold aldQ at hq
        split at hq
        · rename_i T x ho
          split at hq
          · rename_i u hu
            simp only [Option.map_eq_some_iff] at hq
            obtain ⟨y, hy, rfl⟩ := hq
            have h1 := hld rfl T x u ho hu y hy
            have hu' : opd { σ := σm, loc := lm, tmps := M } x = some u := by rw [hopd x (by rw [ho]; simp [Op.operands]), hu]
            obtain ⟨v, hr, ht⟩ := aldQ_ok ho h hu' h1
            unfold Oper.wp
            rw [hr, Oper.upon_value]
            exact hK _ _ _ _ h ht
          · cases hq
        · cases hq
      · split at he
        · rename_i t1 hq
          cases he
          rw [hwt, if_pos rfl]
          rw [← afresh_congr (st := { σ := σm, loc := lm, tmps := M }) hopd] at hq
          obtain ⟨v, w', g', lam', hr, hi, ht⟩ := afresh_ok h hq
          unfold Oper.wp
          rw [hr, Oper.upon_value]
          exact hK _ _ _ _ hi ht
        · split at he
          · rename_i t1 l1 hq
            cases he
            rw [hwt, if_pos rfl]
            have := hl rfl
            subst this
            obtain ⟨v, w', g', lam', hr, hi, ht⟩ := aallocQ_ok (fid := fid) (o := o) h hq
            unfold Oper.wp
            rw [hr, Oper.upon_value]
            exact hK _ _ _ _ hi ht
          · split at he
            · rename_i F args hcq
              split at he
              · rename_i r σ2 hcr
                cases he
                rw [hwt, if_pos rfl]
                have := hσ rfl
                subst this
                rw [← acallQ_congr (st := { σ := st.σ, loc := lm, tmps := M }) hopd] at hcq
                unfold acallQ at hcq
                split at hcq
                · rename_i c hop
                  split at hcq
                  · rename_i f hf
                    split at hcq
                    · rename_i F' first caps as h1 h2
                      split at hcq
                      · rename_i hable
                        simp only [Option.some.injEq, Prod.mk.injEq] at hcq
                        obtain ⟨rfl, rfl⟩ := hcq
                        simp only [Bool.and_eq_true, Option.isNone_iff_eq_none] at hable
                        have hv := avOpd_ok h h1
                        have ha := avOpds_ok h h2
                        simp only [VR] at hv
                        obtain ⟨xs, ys, ev, hx, hy⟩ := hv
                        have hargs : VRL g (first ++ as ++ caps) (xs.toList ++ c.args.toList.map a.eval ++ ys.toList) := VRL_append (VRL_append hx ha) hy
                        have hrun : (execOp a.eval o).run E.P w = .ok (.enter F' (xs.toList ++ c.args.toList.map a.eval ++ ys.toList).toArray) w := by
                          have e1 : (execOp a.eval o).run E.P w = (callFunc F' (xs.toList ++ c.args.toList.map a.eval ++ ys.toList).toArray).run E.P w := by
                            simp only [execOp, hop, resolve, hf, ev, Deferred.ofValue, Sem.run_bind, Sem.run_pure, Result.andThen_ok, invoke]
                            congr 2
                            apply Array.ext'
                            simp
                          rw [e1]
                          have hc := hable.2
                          unfold acallable at hc
                          split at hc
                          · rename_i fn hfn
                            simp only [Bool.and_eq_true, Bool.not_eq_true', Option.isSome_iff_exists] at hc
                            obtain ⟨⟨b, hb⟩, hn⟩ := hc
                            have hn' : ¬ fn.name = "runtime.NumGoroutine" := by simpa using hn
                            simp [callFunc, hfn, hn', hb]
                          · cases hc
                        unfold Oper.wp
                        rw [hrun, Oper.upon_enter]
                        refine (hcall _ _ _ _ _ hcr w g _ h.wr hargs).mono ?_
                        rintro e w2 ⟨v, g2, rfl, hvr, hwr, hev⟩
                        exact hK _ _ _ _ (h.call hwr hev) hvr
                      · cases hcq
                    · cases hcq
                  · cases hcq
                · cases hcq
              · cases he
            · split at he
              · rename_i t1 st2 hq
                cases he
                have e1 := hσ rfl
                have e2 := hl rfl
                subst e1 e2
                rw [← maskL_congr hlen hM] at hq
                have hi := h.retm (maskL_ok (l := o.looksAt ops) h.tm 0)
                refine aoperT_ok (st := { σ := st.σ, loc := st.loc, tmps := maskL (o.looksAt ops) 0 M }) hat hcall hi hq (fun v w' g' lam' hx hi2 ht => ?_)
                exact hK v w' g' lam' ⟨hi2.ev, hi2.wr, hi2.lr, h.tm.mono hx.le hx.lle⟩ ht
              · cases he
  · cases he

end
end Go.Abs
