/- An abstract reading of the program, and what it answers. By an AI agent. -/
import Derived.Test.YtkbgehhnimpleaaGreatDoorAbsDraw
set_option linter.all false
namespace Go.Abs

/-- What is left of a body's end. -/
def afinish (P : Program) (fn : Func) : Option (AExit × St) → Option (AV × Store)
  | some (.normal, st) => (ares P st fn.results.toList).map fun (r, st') => (r, st'.σ)
  | some (.ret, st) => (ares P st fn.results.toList).map fun (r, st') => (r, st'.σ)
  | _ => none

def astart (fn : Func) (args : List AV) (σ : Store) : St := { σ, loc := [], tmps := args.map .v ++ List.replicate (fn.ntmps - args.length) undefT }

/-- A body that defers nothing. -/
def abody0 (E : Env) (call : CallF) (n : Nat) (f : FuncId) (fn : Func) (c : Code) (args : List AV) (σ : Store) : Option (AV × Store) :=
  afinish E.P fn (acode E f call (fun fid ops st => adrawR E fid call ops st) n c (astart fn args σ))

/-- A body that first of all defers a call of a function without arguments. -/
structure DefS where
  a : Code
  id : Nat
  ops : Array Oper
  o1 : Oper
  o2 : Oper
  f : Operand
  r : Code

def splitD : Code → Option DefS
  | .seq a (.seq (.region id ops false) r) => match ops.toList with
    | [o1, o2] => match o2.op with
      | .defer c => match c.callee, c.args.toList with
        | .value f, [] => some ⟨a, id, ops, o1, o2, f, r⟩
        | _, _ => none
      | _ => none
    | _ => none
  | _ => none

/-- The call that was deferred. -/
def adeferred (E : Env) (call : CallF) (n : Nat) (F : FuncId) (args : List AV) (σ : Store) : Option (AV × Store) := if acallable E.P F then match E.P.funcs[F]? with
  | some fn => match fn.body with
    | some c => abody0 E call n F fn c args σ
    | none => none
  | none => none else none

def ares' (P : Program) (st : St) (rs : List ResultVar) : Option (AV × Store) := (ares P st rs).map fun (r, st') => (r, st'.σ)

def abodyD (E : Env) (call : CallF) (n : Nat) (f : FuncId) (fn : Func) (s : DefS) (args : List AV) (σ : Store) : Option (AV × Store) :=
  match acode E f call (fun fid ops st => adrawR E fid call ops st) n s.a (astart fn args σ) with
  | some (.normal, st1) => match aoper E f call s.ops st1 s.o1 with
    | some st2 => match awanted s.ops st2.tmps s.o2, avOpd st2 s.f with
      | some true, some (.fn F first caps) => if st2.loc.isEmpty then match acode E f call (fun fid ops st => adrawR E fid call ops st) n s.r (st2.put s.o2.dst undefT) with
        | some (.normal, st3) => match adeferred E call n F (first ++ caps) st3.σ with
          | some (_, σ4) => ares' E.P { st3 with σ := σ4 } fn.results.toList
          | none => none
        | some (.ret, st3) => match adeferred E call n F (first ++ caps) st3.σ with
          | some (_, σ4) => ares' E.P { st3 with σ := σ4 } fn.results.toList
          | none => none
        | _ => none else none
      | _, _ => none
    | none => none
  | _ => none

/-- A call of a function, over what its own calls answer. -/
def abody (E : Env) (call : CallF) (n : Nat) (f : FuncId) (args : List AV) (σ : Store) : Option (AV × Store) := match E.prim f with
  | some p => p args σ
  | none => match E.P.funcs[f]? with
    | some fn => match fn.body with
      | some c => match splitD c with
        | some s => abodyD E call n f fn s args σ
        | none => abody0 E call n f fn c args σ
      | none => none
    | none => none

/-- THE ABSTRACT MACHINE: a call of a function. -/
def aeval (E : Env) : Nat → CallF
  | 0 => fun _ _ _ => none
  | n + 1 => abody E (aeval E n) n

theorem TVRL_args {g : Gh} {lam : List (Nat × Nat)} {k : Nat} : ∀ {as : List AV} {vs : List Value}, VRL g as vs → TVRL g lam (as.map .v ++ List.replicate k undefT) (vs ++ List.replicate k undef)
  | [], vs, h => by
    simp only [VRL] at h; subst h
    simp only [List.map_nil, List.nil_append]
    induction k with
    | zero => exact .nil
    | succ k ih => rw [List.replicate_succ, List.replicate_succ]; exact .cons (undefT_ok g lam) ih
  | a :: as, vs, h => by
    simp only [VRL] at h
    obtain ⟨v, vs', rfl, h1, h2⟩ := h
    exact .cons h1 (TVRL_args h2)

section
variable {E : Env}

theorem astart_ok {σ : Store} {g : Gh} {w : World} {args : List AV} {vs : List Value} (fn : Func) (hwr : WR σ w g) (hv : VRL g args vs) :
    Inv σ g w (astart fn args σ) g [] w (({ tmps := vs.toArray ++ Array.replicate (fn.ntmps - vs.toArray.size) undef, defers := [] } : Act).tmps.toList) := by
  have hlen := VRL_length hv
  refine ⟨Ev.refl σ g w, hwr, ⟨rfl, fun i cs p h => by simp [astart] at h, fun i i' cs cs' p p' h => by simp [astart] at h⟩, ?_⟩
  simp only [astart, Array.toList_append, List.size_toArray, Array.toList_replicate, hlen]
  exact TVRL_args hv

theorem abody0_wp (hm : E.P.follows .mixedOrders = true) (hat : ∀ f k, E.at_ f = some k → AtOK E.P f k) (heq : ∀ a b, E.eqb a b = true → a = b) {call : CallF} (hcall : CallsOK E.P call) {n : Nat} {f : FuncId} {fn : Func} {c : Code}
    {args : List AV} {σ : Store} {r : AV} {σ' : Store} (h : abody0 E call n f fn c args σ = some (r, σ')) {w : World} {g : Gh} {vs : List Value} (hwr : WR σ w g) (hv : VRL g args vs) :
    c.wp E.P (bodyPost E.P fn fun e w' => ∃ v g', e = .returned v ∧ VR g' r v ∧ WR σ' w' g' ∧ Ev σ g w σ' g' w') { tmps := vs.toArray ++ Array.replicate (fn.ntmps - vs.toArray.size) undef, defers := [] } w := by
  have hinv := astart_ok fn hwr hv
  have hdraw : DrawOK E (fun fid ops st => adrawR E fid call ops st) := fun fid ops st st' hd id σ0 g0 w0 g lam w a Q hi hQ => adrawR_ok hm hat heq hcall hd id hi hQ
  have fin : ∀ (st : St) (ex : AExit), acode E f call (fun fid ops st => adrawR E fid call ops st) n c (astart fn args σ) = some (ex, st) → (ex = .normal ∨ ex = .ret) →
      (ares E.P st fn.results.toList).map (fun (r, st') => (r, st'.σ)) = some (r, σ') →
      c.wp E.P (bodyPost E.P fn fun e w' => ∃ v g', e = .returned v ∧ VR g' r v ∧ WR σ' w' g' ∧ Ev σ g w σ' g' w') { tmps := vs.toArray ++ Array.replicate (fn.ntmps - vs.toArray.size) undef, defers := [] } w := by
    intro st ex hc hex hr
    refine acode_ok hat hcall hdraw c hinv hc (fun a' w' g' lam' hd hi => ?_)
    simp only [Option.map_eq_some_iff] at hr
    obtain ⟨⟨y, st2⟩, hres, he⟩ := hr
    simp only [Prod.mk.injEq] at he
    obtain ⟨rfl, rfl⟩ := he
    obtain ⟨g2, v, hle, hi2, hrun, hvr⟩ := ares_ok hi hres
    rcases hex with rfl | rfl
    · exact ⟨hd, v, hrun, v, g2, rfl, hvr, hi2.wr, hi2.ev⟩
    · exact ⟨hd, v, hrun, v, g2, rfl, hvr, hi2.wr, hi2.ev⟩
  unfold abody0 afinish at h
  split at h
  · rename_i st hc
    exact fin st .normal hc (.inl rfl) h
  · rename_i st hc
    exact fin st .ret hc (.inr rfl) h
  · cases h

theorem splitD_ok {c : Code} {s : DefS} (h : splitD c = some s) : c = .seq s.a (.seq (.region s.id s.ops false) s.r) ∧ s.ops.toList = [s.o1, s.o2] ∧ ∃ cl : Call, s.o2.op = .defer cl ∧ cl.callee = .value s.f ∧ cl.args.toList = [] := by
  unfold splitD at h
  split at h
  · split at h
    · rename_i o1 o2 hops
      split at h
      · rename_i c hc
        split at h
        · rename_i f h1 h2
          cases h
          exact ⟨rfl, hops, c, hc, h1, h2⟩
        · cases h
      · cases h
    · cases h
  · cases h

theorem adeferred_ok (hm : E.P.follows .mixedOrders = true) (hat : ∀ f k, E.at_ f = some k → AtOK E.P f k) (heq : ∀ a b, E.eqb a b = true → a = b) {call : CallF} (hcall : CallsOK E.P call) {n : Nat} {F : FuncId}
    {args : List AV} {σ : Store} {r : AV} {σ' : Store} (h : adeferred E call n F args σ = some (r, σ')) {w : World} {g : Gh} {vs : List Value} (hwr : WR σ w g) (hv : VRL g args vs) :
    (callFunc F vs.toArray).run E.P w = .ok (.enter F vs.toArray) w ∧ CallsD E.P F vs.toArray .returning w fun e u' w' => u' = .returning ∧ ∃ v g', e = .returned v ∧ VR g' r v ∧ WR σ' w' g' ∧ Ev σ g w σ' g' w' := by
  unfold adeferred at h
  split at h
  · rename_i hc
    split at h
    · rename_i fn hf
      split at h
      · rename_i c hb
        refine ⟨?_, callsD_of_wp hf hb (abody0_wp hm hat heq hcall h hwr hv)⟩
        unfold acallable at hc
        simp only [hf, Bool.and_eq_true, Bool.not_eq_true', Option.isSome_iff_exists] at hc
        obtain ⟨_, hn⟩ := hc
        have hn' : ¬ fn.name = "runtime.NumGoroutine" := by simpa using hn
        simp [callFunc, hf, hn', hb]
      · cases h
    · cases h
  · cases h

theorem abodyD_ok (hm : E.P.follows .mixedOrders = true) (hat : ∀ f k, E.at_ f = some k → AtOK E.P f k) (heq : ∀ a b, E.eqb a b = true → a = b) {call : CallF} (hcall : CallsOK E.P call) {n : Nat} {f : FuncId} {fn : Func} {c : Code}
    (hf : E.P.funcs[f]? = some fn) (hb : fn.body = some c) {s : DefS} (hs : splitD c = some s)
    {args : List AV} {σ : Store} {r : AV} {σ' : Store} (h : abodyD E call n f fn s args σ = some (r, σ')) : CallOK E.P f args σ r σ' := by
  intro w g vs hwr hv
  refine calls_of_wp_defers hf hb ?_
  have hinv := astart_ok fn hwr hv
  have hdraw : DrawOK E (fun fid ops st => adrawR E fid call ops st) := fun fid ops st st' hd id σ0 g0 w0 g lam w a Q hi hQ => adrawR_ok hm hat heq hcall hd id hi hQ
  obtain ⟨rfl, hops, cl, hop, hcal, hargs⟩ := splitD_ok hs
  unfold abodyD at h
  split at h
  · rename_i st1 h1
    split at h
    · rename_i st2 h2
      split at h
      · rename_i F first caps hw hfn
        split at h
        · rename_i hemp
          refine wp_seq (acode_ok hat hcall hdraw s.a hinv h1 (fun a1 w1 g1 lam1 hd1 i1 => ?_))
          refine wp_seq (wp_region_list ?_)
          rw [hops]
          refine wpList_step (fun K hK => ?_)
          refine aoper_ok hat hcall i1 h2 (fun a2 w2 g2 lam2 hd2 i2 => hK a2 w2 ?_)
          refine wpList_step (fun K hK => ?_)
          rw [awanted_ok i2.tm hw, if_pos rfl]
          have hfv := avOpd_ok i2 hfn
          simp only [VR] at hfv
          obtain ⟨xs, ys, ef, hx, hy⟩ := hfv
          have hrun : (execOp a2.eval s.o2).run E.P w2 = .ok (.defer { target := .fn (.func F) ys, args := xs ++ cl.args.map a2.eval }) w2 := by
            simp only [execOp, hop, resolve, hcal, ef, Deferred.ofValue, Sem.run_bind, Sem.run_pure, Result.andThen_ok]
          unfold Oper.wp
          rw [hrun, Oper.upon_defer]
          refine hK _ _ ?_
          have hloc : st2.loc = [] := by simpa using hemp
          have i3' : Inv st2.σ g2 w2 st2 g2 lam2 w2 a2.tmps.toList := ⟨Ev.refl _ _ _, i2.wr, ⟨i2.lr.len, fun i cs p hi => by rw [hloc] at hi; simp at hi, fun i i' cs cs' p p' hi => by rw [hloc] at hi; simp at hi⟩, i2.tm⟩
          have i3 : Inv st2.σ g2 w2 (st2.put s.o2.dst undefT) g2 lam2 w2 (({ a2 with defers := { target := .fn (.func F) ys, args := xs ++ cl.args.map a2.eval } :: a2.defers } : Act).put s.o2.dst undef).tmps.toList :=
            i3'.put (a := { a2 with defers := { target := .fn (.func F) ys, args := xs ++ cl.args.map a2.eval } :: a2.defers }) s.o2.dst (undefT_ok _ _)
          have hcargs : cl.args.map a2.eval = #[] := by
            apply Array.ext'
            simp [hargs]
          have fin : ∀ (ex : AExit) (st3 : St) (y : AV) (σ4 : Store), acode E f call (fun fid ops st => adrawR E fid call ops st) n s.r (st2.put s.o2.dst undefT) = some (ex, st3) → (ex = .normal ∨ ex = .ret) → adeferred E call n F (first ++ caps) st3.σ = some (y, σ4) → ares' E.P { st3 with σ := σ4 } fn.results.toList = some (r, σ') →
              s.r.wp E.P (bodyPostD E.P fn fun e w' => ∃ v g', e = .returned v ∧ VR g' r v ∧ WR σ' w' g' ∧ Ev σ g w σ' g' w') (({ a2 with defers := { target := .fn (.func F) ys, args := xs ++ cl.args.map a2.eval } :: a2.defers } : Act).put s.o2.dst undef) w2 := by
            intro ex st3 y σ4 hc hex hdef hres
            refine acode_ok hat hcall hdraw s.r i3 hc (fun a4 w4 g4 lam4 hd4 i4 => ?_)
            simp only [ares', Option.map_eq_some_iff] at hres
            obtain ⟨⟨y1, st5⟩, hres, he⟩ := hres
            simp only [Prod.mk.injEq] at he
            obtain ⟨rfl, rfl⟩ := he
            have hL : Leaves E.P fn a4.tmps (fun e w' => ∃ v g', e = .returned v ∧ VR g' y1 v ∧ WR st5.σ w' g' ∧ Ev σ g w st5.σ g' w') a4.defers .returning w4 := by
              have hdd : a4.defers = { target := .fn (.func F) ys, args := xs ++ cl.args.map a2.eval } :: [] := by
                rw [hd4, put_defers, hd2, hd1]
              rw [hdd, hcargs]
              have hv4 : VRL g4 (first ++ caps) (xs.toList ++ ys.toList) := VRL_append (VRL_mono i4.ev.le _ _ hx) (VRL_mono i4.ev.le _ _ hy)
              obtain ⟨q1, q2⟩ := adeferred_ok hm hat heq hcall hdef i4.wr hv4
              refine leaves_cons (by simp) ?_ (q2.mono ?_)
              · simp only [invoke]
                have e0 : (xs ++ #[] ++ ys) = (xs.toList ++ ys.toList).toArray := by apply Array.ext'; simp
                rw [e0]
                exact q1
              · rintro e u' w' ⟨rfl, v, g5, rfl, hvr, hwr5, hev5⟩
                have i5 := i4.call hwr5 hev5
                obtain ⟨g6, v6, hle6, i6, hrun6, hvr6⟩ := ares_ok i5 hres
                exact ⟨v6, hrun6, v6, g6, rfl, hvr6, i6.wr, i2.ev.trans i6.ev⟩
            rcases hex with rfl | rfl
            · exact hL
            · exact hL
          split at h
          · rename_i st3 hc
            split at h
            · rename_i y σ4 hdef
              exact fin .normal st3 y σ4 hc (.inl rfl) hdef h
            · cases h
          · rename_i st3 hc
            split at h
            · rename_i y σ4 hdef
              exact fin .ret st3 y σ4 hc (.inr rfl) hdef h
            · cases h
          · cases h
        · cases h
      · cases h
    · cases h
  · cases h

end

theorem aeval_ok {E : Env} (hm : E.P.follows .mixedOrders = true) (hat : ∀ f k, E.at_ f = some k → AtOK E.P f k) (heq : ∀ a b, E.eqb a b = true → a = b)
    (hprim : ∀ f p, E.prim f = some p → ∀ args σ r σ', p args σ = some (r, σ') → CallOK E.P f args σ r σ') : ∀ n, CallsOK E.P (aeval E n)
  | 0 => fun f args σ r σ' h => by simp [aeval] at h
  | n + 1 => fun f args σ r σ' h => by
    have ih := aeval_ok hm hat heq hprim n
    simp only [aeval, abody] at h
    split at h
    · rename_i p hp
      exact hprim f p hp args σ r σ' h
    · split at h
      · rename_i fn hf
        split at h
        · rename_i c hb
          split at h
          · rename_i s hs
            exact abodyD_ok hm hat heq ih hf hb hs h
          · exact fun w g vs hwr hv => calls_of_wp hf hb (abody0_wp hm hat heq ih h hwr hv)
        · cases h
      · cases h

/-! ### More fuel tells the same -/

def Sub (c c' : CallF) : Prop := ∀ f args σ r, c f args σ = some r → c' f args σ = some r
def SubR (c c' : RegionF) : Prop := ∀ f ops st r, c f ops st = some r → c' f ops st = some r

theorem aoperT_mono {E : Env} {fid : FuncId} {c c' : CallF} (h : Sub c c') {ops : Array Oper} {o : Oper} {st : St} {r : TV × St} (he : aoperT E fid c ops st o = some r) : aoperT E fid c' ops st o = some r := by
  unfold aoperT at *
  split at he
  · split at he
    · exact he
    · exact he
    · rename_i f args st1 h1
      split at he
      · rename_i r σ' hc
        simp only [h _ _ _ _ hc]
        exact he
      · cases he
    · cases he
  · exact he
  · cases he

theorem aoper_mono {E : Env} {fid : FuncId} {c c' : CallF} (h : Sub c c') {ops : Array Oper} {o : Oper} {st st' : St} (he : aoper E fid c ops st o = some st') : aoper E fid c' ops st o = some st' := by
  unfold aoper at *
  split at he
  · rename_i t st1 h1
    rw [aoperT_mono h h1]
    exact he
  · cases he

theorem aopers_mono {E : Env} {fid : FuncId} {c c' : CallF} (h : Sub c c') {ops : Array Oper} : ∀ {l : List Oper} {st st' : St}, aopers E fid c ops l st = some st' → aopers E fid c' ops l st = some st'
  | [], _, _, he => he
  | o :: rest, st, st', he => by
    simp only [aopers] at he ⊢
    split at he
    · rename_i st1 h1
      rw [aoper_mono h h1]
      exact aopers_mono h he
    · cases he

theorem adval_mono {E : Env} {fid : FuncId} {c c' : CallF} (h : Sub c c') {ops : Array Oper} {o : Oper} {st : St} {r : Cls × TV × Store × Store} (he : adval E fid c ops o st = some r) : adval E fid c' ops o st = some r := by
  unfold adval at *
  split at he
  · exact he
  · rename_i h0
    split at he
    · exact he
    · split at he
      · exact he
      · split at he
        · exact he
        · split at he
          · exact he
          · split at he
            · rename_i F args h1
              split at he
              · rename_i r1 σ1 hc
                rw [h _ _ _ _ hc]
                exact he
              · cases he
            · split at he
              · rename_i t st2 hc
                rw [aoperT_mono h hc]
                exact he
              · cases he
  · cases he

theorem adrawL_mono {E : Env} {fid : FuncId} {c c' : CallF} (h : Sub c c') {ops : Array Oper} : ∀ {l : List Oper} {st : St} {r : List (Cls × St)}, adrawL E fid c ops l st = some r → adrawL E fid c' ops l st = some r
  | [], _, _, he => he
  | o :: rest, st, r, he => by
    simp only [adrawL] at he ⊢
    split at he
    · rename_i k t σ' l' h1
      rw [adval_mono h h1]
      simp only
      split at he
      · rename_i r' h2
        rw [adrawL_mono h h2]
        exact he
      · cases he
    · cases he

theorem adrawR_mono {E : Env} {fid : FuncId} {c c' : CallF} (h : Sub c c') {ops : Array Oper} {st st' : St} (he : adrawR E fid c ops st = some st') : adrawR E fid c' ops st = some st' := by
  unfold adrawR adrawR0 at *
  split at he
  · rename_i r hr
    rw [adrawL_mono h hr]
    exact he
  · cases he

theorem aloop_mono {f f' : St → Option (AExit × St)} (h : ∀ st r, f st = some r → f' st = some r) : ∀ {n n' : Nat}, n ≤ n' → ∀ {st : St} {r : AExit × St}, aloop f n st = some r → aloop f' n' st = some r
  | 0, _, _, st, r, he => by simp [aloop] at he
  | n + 1, 0, hle, _, _, _ => by omega
  | n + 1, n' + 1, hle, st, r, he => by
    simp only [aloop] at he ⊢
    split at he
    · rename_i st1 h1
      rw [h _ _ h1]
      exact aloop_mono h (by omega) he
    · rename_i r1 hne
      rw [h _ _ he]
      obtain ⟨ex, st2⟩ := r
      cases ex
      · exact absurd he (hne st2)
      · rfl
      · rfl

theorem acode_mono {E : Env} {fid : FuncId} {c c' : CallF} (h : Sub c c') {d d' : RegionF} (hd : SubR d d') {n n' : Nat} (hn : n ≤ n') : ∀ (x : Code) {st : St} {r : AExit × St}, acode E fid c d n x st = some r → acode E fid c' d' n' x st = some r := by
  intro x
  induction x with
  | region id ops b =>
    intro st r he
    simp only [acode] at he ⊢
    split at he
    · rename_i st1 h1
      cases b
      · simp only [Bool.false_eq_true, if_false] at h1 ⊢
        rw [aopers_mono h h1]; exact he
      · simp only [if_true] at h1 ⊢
        rw [hd _ _ _ _ h1]; exact he
    · cases he
  | seq x y ihx ihy =>
    intro st r he
    simp only [acode] at he ⊢
    split at he
    · rename_i st1 h1
      rw [ihx h1]; exact ihy he
    · rename_i r1 hne
      rw [ihx he]
      obtain ⟨ex, st2⟩ := r
      cases ex
      · exact absurd he (hne st2)
      · rfl
      · rfl
  | cond b x y ihx ihy =>
    intro st r he
    simp only [acode] at he ⊢
    split at he
    · rename_i b' hb
      cases b'
      · simp only [Bool.false_eq_true, if_false] at he ⊢; exact ihy he
      · simp only [if_true] at he ⊢; exact ihx he
    · cases he
  | block id x ih =>
    intro st r he
    simp only [acode] at he ⊢
    split at he
    · rename_i id' st1 h1
      rw [ih h1]; exact he
    · rename_i r1 hne
      rw [ih he]
      obtain ⟨ex, st2⟩ := r
      cases ex
      · rfl
      · rfl
      · rename_i id'; exact absurd he (hne id' st2)
  | loop x ih =>
    intro st r he
    simp only [acode] at he ⊢
    exact aloop_mono (fun st r => ih) hn he
  | scope x ih =>
    intro st r he
    simp only [acode] at he ⊢
    exact ih he
  | _ => intro st r he; first | exact he | (simp [acode] at he; done)

theorem abody0_mono {E : Env} {c c' : CallF} (ih : Sub c c') {n m : Nat} (hn : n ≤ m) {f : FuncId} {fn : Func} {x : Code} {args : List AV} {σ : Store} {r : AV × Store} (h : abody0 E c n f fn x args σ = some r) : abody0 E c' m f fn x args σ = some r := by
  unfold abody0 at *
  have hc := fun r => acode_mono (E := E) (fid := f) ih (d := fun fid ops st => adrawR E fid c ops st) (d' := fun fid ops st => adrawR E fid c' ops st) (fun fid ops st r hr => adrawR_mono ih hr) hn x (st := astart fn args σ) (r := r)
  unfold afinish at h
  split at h
  · rename_i st h1
    rw [hc _ h1]; exact h
  · rename_i st h1
    rw [hc _ h1]; exact h
  · cases h

theorem adeferred_mono {E : Env} {c c' : CallF} (ih : Sub c c') {n m : Nat} (hn : n ≤ m) {f : FuncId} {args : List AV} {σ : Store} {r : AV × Store} (h : adeferred E c n f args σ = some r) : adeferred E c' m f args σ = some r := by
  unfold adeferred at *
  split at h
  · rename_i hc
    rw [if_pos hc]
    split at h
    · rename_i fn hf
      split at h
      · rename_i x hb
        exact abody0_mono ih hn h
      · cases h
    · cases h
  · cases h

theorem abodyD_mono {E : Env} {c c' : CallF} (ih : Sub c c') {n m : Nat} (hn : n ≤ m) {f : FuncId} {fn : Func} {s : DefS} {args : List AV} {σ : Store} {r : AV × Store} (h : abodyD E c n f fn s args σ = some r) : abodyD E c' m f fn s args σ = some r := by
  unfold abodyD at *
  have hc := fun x st r => acode_mono (E := E) (fid := f) ih (d := fun fid ops st => adrawR E fid c ops st) (d' := fun fid ops st => adrawR E fid c' ops st) (fun fid ops st r hr => adrawR_mono ih hr) hn x (st := st) (r := r)
  split at h
  · rename_i st1 h1
    rw [hc _ _ _ h1]
    simp only
    split at h
    · rename_i st2 h2
      rw [aoper_mono ih h2]
      simp only
      split at h
      · split at h
        · rename_i hl
          rw [if_pos hl]
          split at h
          · rename_i st3 h3
            rw [hc _ _ _ h3]
            simp only
            split at h
            · rename_i y σ4 h4
              rw [adeferred_mono ih hn h4]
              exact h
            · cases h
          · rename_i st3 h3
            rw [hc _ _ _ h3]
            simp only
            split at h
            · rename_i y σ4 h4
              rw [adeferred_mono ih hn h4]
              exact h
            · cases h
          · cases h
        · cases h
      · cases h
    · cases h
  · cases h

theorem abody_mono (E : Env) {c c' : CallF} (ih : Sub c c') {n m : Nat} (hn : n ≤ m) : Sub (abody E c n) (abody E c' m) := by
  intro f args σ r h
  unfold abody at *
  split at h
  · exact h
  · split at h
    · rename_i fn hf
      split at h
      · rename_i x hb
        split at h
        · exact abodyD_mono ih hn h
        · exact abody0_mono ih hn h
      · cases h
    · cases h

theorem aeval_succ (E : Env) : ∀ n, Sub (aeval E n) (aeval E (n + 1))
  | 0 => fun f args σ r h => by simp [aeval] at h
  | n + 1 => abody_mono E (aeval_succ E n) (Nat.le_succ n)

theorem aeval_mono (E : Env) {n m : Nat} (h : n ≤ m) : Sub (aeval E n) (aeval E m) := by
  induction h with
  | refl => exact fun _ _ _ _ h => h
  | step _ ih => exact fun f args σ r hr => aeval_succ E _ f args σ r (ih f args σ r hr)

end Go.Abs
