/- An abstract reading of the program, and what it answers. By an AI agent. -/
import Derived.Test.YtkbgehhnimpleaaGreatDoorAbsExec
import Derived.LoopN
import Derived.Orders
import Derived.Scope
set_option linter.all false
namespace Go.Abs

def undefT : TV := .v (.tup [])

theorem undefT_ok (g : Gh) (lam : List (Nat × Nat)) : TVR g lam undefT undef := by
  simp only [undefT, TVR, VR]; exact ⟨#[], rfl, VRL_nil⟩

def St.put (st : St) (dst : Option Tmp) (t : TV) : St := match dst with
  | some d => { st with tmps := st.tmps.set d t }
  | none => st

abbrev CallF := FuncId → List AV → Store → Option (AV × Store)

/-- What a call's contract says. -/
def CallOK (P : Program) (f : FuncId) (args : List AV) (σ : Store) (r : AV) (σ' : Store) : Prop :=
  ∀ (w : World) (g : Gh) (vs : List Value), WR σ w g → VRL g args vs →
    Calls P f vs.toArray w fun e w' => ∃ v g', e = .returned v ∧ VR g' r v ∧ WR σ' w' g' ∧ Ev σ g w σ' g' w'

def CallsOK (P : Program) (call : CallF) : Prop := ∀ f args σ r σ', call f args σ = some (r, σ') → CallOK P f args σ r σ'

section
variable {σ0 : Store} {g0 : Gh} {w0 : World} {st : St} {g : Gh} {lam : List (Nat × Nat)} {w : World}

theorem Inv.put {a : Act} (h : Inv σ0 g0 w0 st g lam w a.tmps.toList) (dst : Option Tmp) {t : TV} {v : Value} (ht : TVR g lam t v) : Inv σ0 g0 w0 (st.put dst t) g lam w (a.put dst v).tmps.toList := by
  cases dst with
  | none => exact h
  | some d =>
    have : (a.put (some d) v).tmps.toList = a.tmps.toList.set d v := by simp [Act.put]
    rw [this]
    exact h.setTmp d ht

theorem put_defers (a : Act) (dst : Option Tmp) (v : Value) : (a.put dst v).defers = a.defers := by cases dst <;> rfl

theorem Inv.call {tm : List Value} (h : Inv σ0 g0 w0 st g lam w tm) {σ' : Store} {g' : Gh} {w' : World} (hw : WR σ' w' g') (hv : Ev st.σ g w σ' g' w') : Inv σ0 g0 w0 { st with σ := σ' } g' lam w' tm := by
  refine ⟨h.ev.trans hv, hw, ⟨h.lr.len, ?_, h.lr.inj⟩, h.tm.mono hv.le (fun _ _ h => h)⟩
  intro i cs p h1 h2
  obtain ⟨a1, a2, a3, a4⟩ := h.lr.obj i cs p h1 h2
  have hlt := a1.lt
  refine ⟨a1.mono hv.le (hv.frame p.1 hlt (fun id cs' q e1 e2 => a4 id cs' q e1 e2)), ?_, a3, ?_⟩
  · cases hi : g'.imm p.1 with
    | none => rfl
    | some o =>
      rcases hv.immNew p.1 o hi with h3 | h3
      · rw [a2] at h3; cases h3
      · omega
  · intro id cs' q e1 e2 e3
    rcases hv.alNew id cs' q e1 e2 with h3 | ⟨id0, cs0, p0, e4, e5, e6⟩
    · omega
    · exact a4 id0 cs0 p0 e4 e5 (e6.trans e3)

/-! ### Regions in the order of the text -/

def awanted (ops : Array Oper) (tmps : List TV) (o : Oper) : Option Bool := match o.guard with
  | none => some true
  | some (j, want) => match (ops[j]?).bind (·.dst) with
    | none => some false
    | some d => match tmps[d]? with
      | some (.v (.sc (.bool b))) => some (b == want)
      | some (.v (.tup _)) => some false
      | _ => none

theorem awanted_ok {a : Act} (h : TVRL g lam st.tmps a.tmps.toList) {ops : Array Oper} {o : Oper} {b : Bool} (he : awanted ops st.tmps o = some b) : Region.wanted o (yielded ops a.tmps) = b := by
  unfold awanted at he
  unfold Region.wanted
  split at he
  · rename_i hg
    cases he; rw [hg]
  · rename_i j want hg
    rw [hg]
    simp only
    split at he
    · rename_i hd
      cases he
      simp [yielded, hd]
    · rename_i d hd
      split at he
      · rename_i b' hb
        cases he
        obtain ⟨v, hv, hr⟩ := h.get hb
        simp only [TVR, VR] at hr; subst hr
        have : a.tmps[d]? = some (.bool b') := by simpa using hv
        simp [yielded, hd, this]
      · rename_i xs hb
        cases he
        obtain ⟨v, hv, hr⟩ := h.get hb
        simp only [TVR, VR] at hr
        obtain ⟨ys, rfl, _⟩ := hr
        have : a.tmps[d]? = some (.tuple ys) := by simpa using hv
        simp [yielded, hd, this]
      · cases he

/-- What an operation answers, and what it leaves. -/
def aoperT (E : Env) (fid : FuncId) (call : CallF) (ops : Array Oper) (st : St) (o : Oper) : Option (TV × St) := match awanted ops st.tmps o with
  | some true => match aop E fid o st with
    | some (.val t st') => some (t, st')
    | some (.skip st') => some (undefT, st')
    | some (.call f args st') => match call f args st'.σ with
      | some (r, σ') => some (.v r, { st' with σ := σ' })
      | none => none
    | none => none
  | some false => some (undefT, st)
  | none => none

def aoper (E : Env) (fid : FuncId) (call : CallF) (ops : Array Oper) (st : St) (o : Oper) : Option St := match aoperT E fid call ops st o with
  | some (t, st') => some (st'.put o.dst t)
  | none => none

def aopers (E : Env) (fid : FuncId) (call : CallF) (ops : Array Oper) : List Oper → St → Option St
  | [], st => some st
  | o :: rest, st => match aoper E fid call ops st o with
    | some st' => aopers E fid call ops rest st'
    | none => none

/-- One operation, whatever follows. -/
theorem aoperT_ok {E : Env} (hat : ∀ f k, E.at_ f = some k → AtOK E.P f k) {call : CallF} (hcall : CallsOK E.P call) {fid : FuncId} {ops : Array Oper} {o : Oper} {a : Act} (h : Inv σ0 g0 w0 st g lam w a.tmps.toList) {t : TV} {st' : St}
    (he : aoperT E fid call ops st o = some (t, st')) {Q : Exit → Act → World → Prop} {K : Act → World → Prop} (hK : ∀ v w' g' lam', Ext g lam g' lam' → Inv σ0 g0 w0 st' g' lam' w' a.tmps.toList → TVR g' lam' t v → K (a.put o.dst v) w') :
    if Region.wanted o (yielded ops a.tmps) then o.wp E.P a w K Q else K (a.put o.dst undef) w := by
  unfold aoperT at he
  split at he
  · rename_i hw
    rw [awanted_ok h.tm hw, if_pos rfl]
    have hop := fun ar (e : aop E fid o st = some ar) => aop_ok hat (a := a) h e
    split at he
    · rename_i t st1 h1
      cases he
      obtain ⟨v, w', g', lam', hr, hx, hi, ht⟩ := hop _ h1
      unfold Oper.wp
      rw [hr, Oper.upon_value]
      exact hK _ _ _ _ hx hi ht
    · rename_i st1 h1
      cases he
      obtain ⟨w', g', lam', hr, hx, hi⟩ := hop _ h1
      unfold Oper.wp
      rw [hr, Oper.upon_skip]
      exact hK _ _ _ _ hx hi (undefT_ok _ _)
    · rename_i f args st1 h1
      split at he
      · rename_i r σ' hc
        cases he
        obtain ⟨vs, g', lam', hr, hx, hi, hv⟩ := hop _ h1
        unfold Oper.wp
        rw [hr, Oper.upon_enter]
        have := hcall f args st1.σ r σ' hc w g' vs.toList hi.wr hv
        rw [Array.toArray_toList] at this
        refine this.mono ?_
        rintro e w' ⟨v, g2, rfl, hvr, hwr, hev⟩
        have hi2 := hi.call hwr hev
        exact hK _ _ _ _ (hx.trans (Ext.of _ hev.le)) hi2 hvr
      · cases he
    · cases he
  · rename_i hw
    cases he
    rw [awanted_ok h.tm hw, if_neg (by simp)]
    exact hK _ _ _ _ (Ext.refl _ _) h (undefT_ok _ _)
  · cases he

theorem aoper_ok {E : Env} (hat : ∀ f k, E.at_ f = some k → AtOK E.P f k) {call : CallF} (hcall : CallsOK E.P call) {fid : FuncId} {ops : Array Oper} {o : Oper} {a : Act} (h : Inv σ0 g0 w0 st g lam w a.tmps.toList) {st' : St}
    (he : aoper E fid call ops st o = some st') {Q : Exit → Act → World → Prop} {K : Act → World → Prop} (hK : ∀ (a' : Act) w' g' lam', a'.defers = a.defers → Inv σ0 g0 w0 st' g' lam' w' a'.tmps.toList → K a' w') :
    if Region.wanted o (yielded ops a.tmps) then o.wp E.P a w K Q else K (a.put o.dst undef) w := by
  unfold aoper at he
  split at he
  · rename_i t st1 h1
    cases he
    exact aoperT_ok hat hcall h h1 (fun v w' g' lam' hx hi ht => hK _ _ _ _ (put_defers a o.dst v) (hi.put (a := a) o.dst ht))
  · cases he

theorem aopers_ok {E : Env} (hat : ∀ f k, E.at_ f = some k → AtOK E.P f k) {call : CallF} (hcall : CallsOK E.P call) {fid : FuncId} {ops : Array Oper} {Q : Exit → Act → World → Prop} :
    ∀ {l : List Oper} {st : St} {g : Gh} {lam : List (Nat × Nat)} {a : Act} {w : World} {st' : St}, Inv σ0 g0 w0 st g lam w a.tmps.toList → aopers E fid call ops l st = some st' →
      (∀ (a' : Act) w' g' lam', a'.defers = a.defers → Inv σ0 g0 w0 st' g' lam' w' a'.tmps.toList → Q .normal a' w') → wpList E.P ops Q l a w
  | [], st, g, lam, a, w, st', h, he, hQ => by
    simp only [aopers, Option.some.injEq] at he
    subst he
    exact hQ a w g lam rfl h
  | o :: rest, st, g, lam, a, w, st', h, he, hQ => by
    simp only [aopers] at he
    split at he
    · rename_i st1 h1
      refine wpList_step (fun K hK => ?_)
      refine aoper_ok hat hcall h h1 (fun a' w' g' lam' hd hi => hK a' w' ?_)
      exact aopers_ok hat hcall hi he (fun a2 w2 g2 lam2 hd2 hi2 => hQ a2 w2 g2 lam2 (hd2.trans hd) hi2)
    · cases he

end

/-- Nothing is told of slots that aren't looked at. -/
def maskL (l : List Nat) : Nat → List TV → List TV
  | _, [] => []
  | i, t :: ts => (if l.contains i then t else .top) :: maskL l (i + 1) ts

theorem maskL_ok {g : Gh} {lam : List (Nat × Nat)} {l : List Nat} {ts : List TV} {vs : List Value} (h : TVRL g lam ts vs) : ∀ i, TVRL g lam (maskL l i ts) vs := by
  induction h with
  | nil => intro i; exact .nil
  | cons h1 h2 ih =>
    intro i
    refine .cons ?_ (ih (i + 1))
    split
    · exact h1
    · trivial

def forget (E : Env) (fid : FuncId) (st : St) : St := match E.keep fid with
  | none => st
  | some l => { st with tmps := maskL l 0 st.tmps }

section
variable {σ0 : Store} {g0 : Gh} {w0 : World} {st : St} {g : Gh} {lam : List (Nat × Nat)} {w : World}
theorem Inv.retm {tm : List Value} (h : Inv σ0 g0 w0 st g lam w tm) {ts : List TV} (ht : TVRL g lam ts tm) : Inv σ0 g0 w0 { st with tmps := ts } g lam w tm := ⟨h.ev, h.wr, h.lr, ht⟩

theorem forget_ok {E : Env} {fid : FuncId} {tm : List Value} (h : Inv σ0 g0 w0 st g lam w tm) : Inv σ0 g0 w0 (forget E fid st) g lam w tm := by
  unfold forget
  split
  · exact h
  · exact h.retm (maskL_ok h.tm 0)
end

/-! ### Code -/

inductive AExit where
  | normal | ret
  | exit (id : Nat)
  deriving DecidableEq

def AExit.to : AExit → Exit
  | .normal => .normal
  | .ret => .ret
  | .exit id => .exit id

abbrev RegionF := FuncId → Array Oper → St → Option St

def aloop (f : St → Option (AExit × St)) : Nat → St → Option (AExit × St)
  | 0, _ => none
  | n + 1, st => match f st with
    | some (.normal, st') => aloop f n st'
    | r => r

def acode (E : Env) (fid : FuncId) (call : CallF) (draw : RegionF) (fuel : Nat) : Code → St → Option (AExit × St)
  | .skip, st => some (.normal, st)
  | .region _ ops d, st => match (if d then draw fid ops st else aopers E fid call ops ops.toList st) with
    | some st' => some (.normal, st')
    | none => none
  | .seq x y, st => match acode E fid call draw fuel x st with
    | some (.normal, st') => acode E fid call draw fuel y st'
    | r => r
  | .cond c x y, st => match opd st c with
    | some (.v (.sc (.bool b))) => if b then acode E fid call draw fuel x st else acode E fid call draw fuel y st
    | _ => none
  | .block id c, st => match acode E fid call draw fuel c st with
    | some (.exit id', st') => if id' = id then some (.normal, st') else some (.exit id', st')
    | r => r
  | .loop c, st => aloop (fun st => acode E fid call draw fuel c (forget E fid st)) fuel st
  | .exit id, st => some (.exit id, st)
  | .ret, st => some (.ret, st)
  | .scope c, st => acode E fid call draw fuel c st
  | .label _, st => some (.normal, st)
  | _, _ => none

/-- What a drawn region's meaning must be. -/
def DrawOK (E : Env) (draw : RegionF) : Prop := ∀ (fid : FuncId) (ops : Array Oper) (st st' : St), draw fid ops st = some st' →
  ∀ (id : Nat) (σ0 : Store) (g0 : Gh) (w0 : World) (g : Gh) (lam : List (Nat × Nat)) (w : World) (a : Act) (Q : Exit → Act → World → Prop), Inv σ0 g0 w0 st g lam w a.tmps.toList →
    (∀ (a' : Act) w' g' lam', a'.defers = a.defers → Inv σ0 g0 w0 st' g' lam' w' a'.tmps.toList → Q .normal a' w') → (Code.region id ops true).wp E.P Q a w

section
variable {σ0 : Store} {g0 : Gh} {w0 : World}

theorem acode_ok {E : Env} (hat : ∀ f k, E.at_ f = some k → AtOK E.P f k) {call : CallF} (hcall : CallsOK E.P call) {draw : RegionF} (hdraw : DrawOK E draw) {fid : FuncId} {fuel : Nat} :
    ∀ (c : Code) {st : St} {g : Gh} {lam : List (Nat × Nat)} {a : Act} {w : World} {ex : AExit} {st' : St} {Q : Exit → Act → World → Prop}, Inv σ0 g0 w0 st g lam w a.tmps.toList → acode E fid call draw fuel c st = some (ex, st') →
      (∀ (a' : Act) w' g' lam', a'.defers = a.defers → Inv σ0 g0 w0 st' g' lam' w' a'.tmps.toList → Q ex.to a' w') → c.wp E.P Q a w := by
  intro c
  induction c with
  | skip =>
    intro st g lam a w ex st' Q h he hQ
    simp only [acode, Option.some.injEq, Prod.mk.injEq] at he
    obtain ⟨rfl, rfl⟩ := he
    exact wp_skip (hQ a w g lam rfl h)
  | region id ops d =>
    intro st g lam a w ex st' Q h he hQ
    simp only [acode] at he
    split at he
    · rename_i st1 h1
      simp only [Option.some.injEq, Prod.mk.injEq] at he
      obtain ⟨rfl, rfl⟩ := he
      cases d
      · simp only [Bool.false_eq_true, if_false] at h1
        exact wp_region_list (aopers_ok hat hcall h h1 hQ)
      · simp only [if_true] at h1
        exact hdraw fid ops st _ h1 id σ0 g0 w0 g lam w a Q h hQ
    · cases he
  | seq x y ihx ihy =>
    intro st g lam a w ex st' Q h he hQ
    simp only [acode] at he
    split at he
    · rename_i st1 h1
      exact wp_seq (ihx h h1 (fun a1 w1 g1 lam1 hd1 h2 => ihy h2 he (fun a2 w2 g2 lam2 hd2 h3 => hQ a2 w2 g2 lam2 (hd2.trans hd1) h3)))
    · rename_i r hne
      refine wp_seq (ihx h he (fun a1 w1 g1 lam1 hd1 h2 => ?_))
      cases ex with
      | normal => exact absurd he (hne st')
      | ret => exact hQ a1 w1 g1 lam1 hd1 h2
      | exit id => exact hQ a1 w1 g1 lam1 hd1 h2
  | cond c x y ihx ihy =>
    intro st g lam a w ex st' Q h he hQ
    simp only [acode] at he
    split at he
    · rename_i b hb
      have hc := opd_ok h hb
      simp only [TVR, VR] at hc
      refine wp_cond hc ?_
      cases b
      · simp only [Bool.false_eq_true, if_false] at he ⊢
        exact ihy h he hQ
      · simp only [if_true] at he ⊢
        exact ihx h he hQ
    · cases he
  | block id c ih =>
    intro st g lam a w ex st' Q h he hQ
    simp only [acode] at he
    split at he
    · rename_i id' st1 h1
      refine wp_block (ih h h1 (fun a1 w1 g1 lam1 hd1 h2 => ?_))
      simp only [AExit.to, Exit.inBlock]
      split at he
      · rename_i hid
        cases he
        rw [if_pos hid]
        exact hQ a1 w1 g1 lam1 hd1 h2
      · rename_i hid
        cases he
        rw [if_neg hid]
        exact hQ a1 w1 g1 lam1 hd1 h2
    · rename_i r hne
      refine wp_block (ih h he (fun a1 w1 g1 lam1 hd1 h2 => ?_))
      cases ex with
      | normal => exact hQ a1 w1 g1 lam1 hd1 h2
      | ret => exact hQ a1 w1 g1 lam1 hd1 h2
      | exit id => exact absurd he (hne id st')
  | loop c ih =>
    intro st g lam a w ex st' Q h he hQ
    simp only [acode] at he
    refine wp_loop_rounds fuel ?_
    have key : ∀ (n : Nat) (st : St) (g : Gh) (lam : List (Nat × Nat)) (a1 : Act) (w : World), a1.defers = a.defers → Inv σ0 g0 w0 st g lam w a1.tmps.toList → aloop (fun st => acode E fid call draw fuel c (forget E fid st)) n st = some (ex, st') → Code.rounds E.P c Q n a1 w := by
      intro n
      induction n with
      | zero => intro st g lam a1 w hd h he; simp [aloop] at he
      | succ n ihn =>
        intro st g lam a1 w hd h he
        rw [rounds_succ]
        simp only [aloop] at he
        split at he
        · rename_i st1 h1
          exact ih (forget_ok h) h1 (fun a2 w2 g2 lam2 hd2 h2 => ihn st1 g2 lam2 a2 w2 (hd2.trans hd) h2 he)
        · rename_i r hne
          refine ih (forget_ok h) he (fun a2 w2 g2 lam2 hd2 h2 => ?_)
          cases ex with
          | normal => exact absurd he (hne st')
          | ret => exact hQ a2 w2 g2 lam2 (hd2.trans hd) h2
          | exit id => exact hQ a2 w2 g2 lam2 (hd2.trans hd) h2
    exact key fuel st g lam a w rfl h he
  | exit id =>
    intro st g lam a w ex st' Q h he hQ
    simp only [acode, Option.some.injEq, Prod.mk.injEq] at he
    obtain ⟨rfl, rfl⟩ := he
    exact wp_exit (hQ a w g lam rfl h)
  | ret =>
    intro st g lam a w ex st' Q h he hQ
    simp only [acode, Option.some.injEq, Prod.mk.injEq] at he
    obtain ⟨rfl, rfl⟩ := he
    exact wp_ret (hQ a w g lam rfl h)
  | scope c ih =>
    intro st g lam a w ex st' Q h he hQ
    simp only [acode] at he
    refine wp_scope_straight (ih h he (fun a1 w1 g1 lam1 hd1 h2 => ?_))
    cases ex with
    | normal => exact hQ a1 w1 g1 lam1 hd1 h2
    | ret => exact hQ a1 w1 g1 lam1 hd1 h2
    | exit id => exact hQ a1 w1 g1 lam1 hd1 h2
  | label l =>
    intro st g lam a w ex st' Q h he hQ
    simp only [acode, Option.some.injEq, Prod.mk.injEq] at he
    obtain ⟨rfl, rfl⟩ := he
    exact wp_label (hQ a w g lam rfl h)
  | _ => intro st g lam a w ex st' Q h he hQ; simp [acode] at he

/-! ### Results -/

def aresL (P : Program) (st : St) : List ResultVar → Option (List AV × St)
  | [] => some ([], st)
  | .tmp t :: rs => match frzO st (.tmp t) with
    | some (y, st1) => match aresL P st1 rs with
      | some (ys, st2) => some (y :: ys, st2)
      | none => none
    | none => none
  | .cell c T :: rs => match opd st (.tmp c) with
    | some t => match ld P st T t with
      | some y => match aresL P st rs with
        | some (ys, st2) => some (y :: ys, st2)
        | none => none
      | none => none
    | none => none

def ares (P : Program) (st : St) (rs : List ResultVar) : Option (AV × St) := match aresL P st rs with
  | some ([y], st') => some (y, st')
  | some (ys, st') => some (.tup ys, st')
  | none => none

def resOf (tmps : Array Value) : ResultVar → Sem Value
  | .tmp t => pure (tmps.getD t undef)
  | .cell a t => do loadVar t (← asAddr (tmps.getD a undef))

theorem aresL_ok {P : Program} {lam : List (Nat × Nat)} {w : World} {a : Act} : ∀ {rs : List ResultVar} {st : St} {g : Gh} {ys : List AV} {st' : St}, Inv σ0 g0 w0 st g lam w a.tmps.toList → aresL P st rs = some (ys, st') →
    ∃ g' vs, g.Le g' ∧ Inv σ0 g0 w0 st' g' lam w a.tmps.toList ∧ (rs.mapM (resOf a.tmps)).run P w = .ok vs w ∧ VRL g' ys vs
  | [], st, g, ys, st', h, he => by
    simp only [aresL, Option.some.injEq, Prod.mk.injEq] at he
    obtain ⟨rfl, rfl⟩ := he
    exact ⟨g, [], Gh.Le.refl g, h, by simp, VRL_nil⟩
  | .tmp t :: rs, st, g, ys, st', h, he => by
    simp only [aresL] at he
    split at he
    · rename_i y st1 h1
      split at he
      · rename_i zs st2 h2
        simp only [Option.some.injEq, Prod.mk.injEq] at he
        obtain ⟨rfl, rfl⟩ := he
        obtain ⟨g1, hl1, i1, r1⟩ := frzO_ok h h1
        obtain ⟨g2, vs, hl2, i2, hr, r2⟩ := aresL_ok i1 h2
        refine ⟨g2, a.tmps.getD t undef :: vs, hl1.trans hl2, i2, ?_, VRL_cons.2 ⟨VR_mono hl2 _ _ r1, r2⟩⟩
        rw [List.mapM_cons]
        simp only [resOf, Sem.run_bind, Sem.run_pure, Result.andThen_ok] at hr ⊢
        rw [hr]
        rfl
      · cases he
    · cases he
  | .cell c T :: rs, st, g, ys, st', h, he => by
    simp only [aresL] at he
    split at he
    · rename_i t ht
      split at he
      · rename_i y hy
        split at he
        · rename_i zs st2 h2
          simp only [Option.some.injEq, Prod.mk.injEq] at he
          obtain ⟨rfl, rfl⟩ := he
          obtain ⟨addr, u, e1, hl, h3⟩ := ld_ok (P := P) h (opd_ok h ht) hy
          obtain ⟨g2, vs, hl2, i2, hr, r2⟩ := aresL_ok h h2
          refine ⟨g2, u :: vs, hl2, i2, ?_, VRL_cons.2 ⟨VR_mono hl2 _ _ h3, r2⟩⟩
          rw [List.mapM_cons]
          have e2 : a.tmps.getD c undef = .pointer (some addr) := e1
          simp only [resOf, e2, asAddr, Sem.run_bind, Sem.run_pure, Result.andThen_ok, hl] at hr ⊢
          rw [hr]
          rfl
        · cases he
      · cases he
    · cases he

theorem ares_ok {P : Program} {lam : List (Nat × Nat)} {w : World} {a : Act} {fn : Func} {st : St} {g : Gh} {y : AV} {st' : St} (h : Inv σ0 g0 w0 st g lam w a.tmps.toList) (he : ares P st fn.results.toList = some (y, st')) :
    ∃ g' v, g.Le g' ∧ Inv σ0 g0 w0 st' g' lam w a.tmps.toList ∧ (results fn a.tmps).run P w = .ok v w ∧ VR g' y v := by
  have run : ∀ {vs : List Value}, (fn.results.toList.mapM (resOf a.tmps)).run P w = .ok vs w → (results fn a.tmps).run P w = .ok (if hh : vs.toArray.size = 1 then vs.toArray[0] else .tuple vs.toArray) w := by
    intro vs hr
    have : results fn a.tmps = (do
        let vs ← fn.results.mapM (resOf a.tmps)
        pure (if h : vs.size = 1 then vs[0] else .tuple vs)) := rfl
    rw [this, Array.mapM_eq_mapM_toList]
    simp only [Sem.run_bind, Sem.run_map, hr, Result.andThen_ok, Sem.run_pure]
  unfold ares at he
  split at he
  · rename_i y1 st1 h1
    simp only [Option.some.injEq, Prod.mk.injEq] at he
    obtain ⟨rfl, rfl⟩ := he
    obtain ⟨g', vs, hl, hi, hr, hv⟩ := aresL_ok h h1
    obtain ⟨v, rfl, hv1⟩ := VRL1 hv
    exact ⟨g', v, hl, hi, run hr, hv1⟩
  · rename_i ys st1 hne h1
    simp only [Option.some.injEq, Prod.mk.injEq] at he
    obtain ⟨rfl, rfl⟩ := he
    obtain ⟨g', vs, hl, hi, hr, hv⟩ := aresL_ok h h1
    refine ⟨g', .tuple vs.toArray, hl, hi, ?_, by simp only [VR]; exact ⟨_, rfl, by simpa using hv⟩⟩
    rw [run hr, dif_neg]
    intro h1'
    have hlen := VRL_length hv
    have : ys.length = 1 := by simp at h1'; omega
    match ys, this with
    | [y1], _ => exact hne y1 rfl
  · cases he

end
end Go.Abs
