/- An abstract reading of the program, and what it answers. By an AI agent. -/
import Derived.Test.YtkbgehhnimpleaaGreatDoorAbsAop
set_option linter.all false
namespace Go.Abs

structure Env where
  P : Program
  /-- how the memory that an operation lays is held: by the function, and the slot that it writes -/
  md : FuncId → Nat → Md
  at_ : FuncId → Option AtK
  prim : FuncId → Option (List AV → Store → Option (AV × Store))
  /-- are two values one? It may say no too often. -/
  eqb : AV → AV → Bool
  /-- a function's slots that count at the head of its loops' rounds; nothing: all -/
  keep : FuncId → Option (List Nat)

def intOpd (st : St) (x : Operand) : Option (IntKind × Int) := match opd st x with
  | some (.v (.sc (.int k n))) => some (k, n)
  | _ => none

def optIdx (st : St) : Option Operand → Option (Option Int)
  | none => some none
  | some x => match intOpd st x with
    | some (_, n) => some (some n)
    | none => none

def avOf : TV → Option AV
  | .v a => some a
  | _ => none

def avOpd (st : St) (x : Operand) : Option AV := (opd st x).bind avOf

/-- May nothing be done through it? -/
def sure : TV → Bool
  | .lp _ _ => true
  | .v (.ip _) => true
  | .v (.gp _ _) => true
  | .v (.fn _ _ _) => true
  | _ => false

def acallable (P : Program) (f : FuncId) : Bool := match P.funcs[f]? with
  | some fn => fn.body.isSome && !(fn.name == "runtime.NumGoroutine")
  | none => false

def acall (E : Env) (f : FuncId) (args : List AV) (st : St) : Option AR := match E.at_ f with
  | some k => (aatom st k args).map fun (r, st') => .val (.v r) st'
  | none => if acallable E.P f then some (.call f args st) else none

def abuiltin (E : Env) (m : Md) (b : Builtin) (args : List Operand) (ts : List TypeId) (st : St) : Option AR := match b, args, ts with
  | .append, [x, y], [T, ty] => match opd st x, opd st y with
    | some tx, some ty' => (aappend E.P m st T ty tx ty').map fun (t, st') => .val t st'
    | _, _ => none
  | .len, [x], [T] => match opd st x with
    | some t => (alen E.P T t).map fun n => .val (.v (.sc (.int .i64 n))) st
    | none => none
  | .max, xs, _ => match xs.mapM (avOpd st) with
    | some as => (amm true as).map fun r => .val (.v r) st
    | none => none
  | .min, xs, _ => match xs.mapM (avOpd st) with
    | some as => (amm false as).map fun r => .val (.v r) st
    | none => none
  | _, _, _ => none

def aop (E : Env) (fid : FuncId) (o : Oper) (st : St) : Option AR := match o.op with
  | .move x => (opd st x).map (.val · st)
  | .assign x => (opd st x).map (.val · st)
  | .pick c x y => match opd st c with
    | some (.v (.sc (.bool b))) => (opd st (if b then x else y)).map (.val · st)
    | _ => none
  | .alloc T => (azero E.P T).map fun cs => .val (mkP (mdOf E fid o) false st cs).1 (mkP (mdOf E fid o) false st cs).2
  | .box T x => (frzO st x).map fun (a, st1) => .val (mkP (mdOf E fid o) true st1 (cellsOf a)).1 (mkP (mdOf E fid o) true st1 (cellsOf a)).2
  | .build T parts => match frzL st (parts.toList.map (·.2)) with
    | some (as, st1) => (abuild E.P T ((parts.toList.map (·.1)).zip as)).map fun cs => .val (.v (.agg cs)) st1
    | none => none
  | .buildSlice T len parts => match frzL st (parts.toList.map (·.2)) with
    | some (as, st1) => match abuildS E.P T len ((parts.toList.map (·.1)).zip as) with
      | some (cs, n) => if cs.length = len * n then some (.val (mkS (mdOf E fid o) st1 cs len n).1 (mkS (mdOf E fid o) st1 cs len n).2) else none
      | none => none
    | none => none
  | .load T x => match opd st x with
    | some t => (ld E.P st T t).map fun a => .val (.v a) st
    | none => none
  | .store T p x => match frzO st x with
    | some (a, st1) => match opd st1 p with
      | some t => if szOf E.P T = some (cellsOf a).length then (wr st1 t (cellsOf a)).map .skip else none
      | none => none
    | none => none
  | .nilCheck x => match opd st x with
    | some t => if sure t then some (.val t st) else none
    | none => none
  | .binOp op T x y _ => match avOpd st x, avOpd st y with
    | some a, some b => (abin E.P op T a b).map fun r => .val (.v r) st
    | _, _ => none
  | .unOp op _ x => match avOpd st x with
    | some a => (aun op a).map fun r => .val (.v r) st
    | none => none
  | .convert src dst x => match avOpd st x with
    | some a => (acvt E.P src dst a).map fun r => .val (.v r) st
    | none => none
  | .makeFunc (.func f) first caps => match frzL st first.toList with
    | some (fs, st1) => match frzL st1 caps.toList with
      | some (cs, st2) => some (.val (.v (.fn f fs cs)) st2)
      | none => none
    | none => none
  | .slice T x lo hi mx => match opd st x, optIdx st lo, optIdx st hi, optIdx st mx with
    | some t, some l, some h, some m => (aslice E.P T t l h m).map (.val · st)
    | _, _, _, _ => none
  | .fieldAddr T x f => match opd st x with
    | some t => (afield E.P T t f).map (.val · st)
    | none => none
  | .field T x f => match avOpd st x with
    | some a => (afieldV E.P T a f).map fun r => .val (.v r) st
    | none => none
  | .indexAddr T x i => match opd st x, intOpd st i with
    | some t, some (_, n) => (aindex E.P T t n).map (.val · st)
    | _, _ => none
  | .index T x i => match avOpd st x, intOpd st i with
    | some a, some (_, n) => (aindexV E.P T a n).map fun r => .val (.v r) st
    | _, _ => none
  | .extract x i => match avOpd st x with
    | some a => (aextract a i).map fun r => .val (.v r) st
    | none => none
  | .makeSlice T l c => match intOpd st l, intOpd st c with
    | some (_, n), some (_, k) => (amake E.P (mdOf E fid o) st T n k).map fun (t, st') => .val t st'
    | _, _ => none
  | .call c => match c.callee with
    | .builtin b => abuiltin E (mdOf E fid o) b c.args.toList c.argTypes.toList st
    | .value f => match avOpd st f with
      | some (.fn F first caps) => match frzL st c.args.toList with
        | some (args, st1) => acall E F (first ++ args ++ caps) st1
        | none => none
      | _ => none
    | .invoke _ _ => none
  | _ => none
where mdOf (E : Env) (fid : FuncId) (o : Oper) : Md := match o.dst with
  | some d => E.md fid d
  | none => .dflt

section
variable {σ0 : Store} {g0 : Gh} {w0 : World} {st : St} {g : Gh} {lam : List (Nat × Nat)} {w : World}

def OpOK (E : Env) (o : Oper) (a : Act) (w : World) (σ0 : Store) (g0 : Gh) (w0 : World) (g : Gh) (lam : List (Nat × Nat)) : AR → Prop
  | .val t st' => ∃ v w' g' lam', (execOp a.eval o).run E.P w = .ok (.value v) w' ∧ Ext g lam g' lam' ∧ Inv σ0 g0 w0 st' g' lam' w' a.tmps.toList ∧ TVR g' lam' t v
  | .skip st' => ∃ w' g' lam', (execOp a.eval o).run E.P w = .ok .skip w' ∧ Ext g lam g' lam' ∧ Inv σ0 g0 w0 st' g' lam' w' a.tmps.toList
  | .call f args st' => ∃ vs g' lam', (execOp a.eval o).run E.P w = .ok (.enter f vs) w ∧ Ext g lam g' lam' ∧ Inv σ0 g0 w0 st' g' lam' w a.tmps.toList ∧ VRL g' args vs.toList

theorem intOpd_ok {a : Act} (h : Inv σ0 g0 w0 st g lam w a.tmps.toList) {x : Operand} {k : IntKind} {n : Int} (he : intOpd st x = some (k, n)) : a.eval x = .int k n := by
  unfold intOpd at he
  split at he
  · rename_i h1
    cases he
    have := opd_ok h h1
    simpa [TVR, VR] using this
  · cases he

theorem optIdx_ok {a : Act} (h : Inv σ0 g0 w0 st g lam w a.tmps.toList) {x : Option Operand} {r : Option Int} (he : optIdx st x = some r) : OptInt r (x.map a.eval) := by
  cases x with
  | none => simp only [optIdx, Option.some.injEq] at he; subst he; exact .none
  | some x =>
    simp only [optIdx] at he
    split at he
    · rename_i k n h1
      cases he
      rw [Option.map_some, intOpd_ok h h1]
      exact .some
    · cases he

theorem avOpd_ok {a : Act} (h : Inv σ0 g0 w0 st g lam w a.tmps.toList) {x : Operand} {y : AV} (he : avOpd st x = some y) : VR g y (a.eval x) := by
  simp only [avOpd, Option.bind_eq_some_iff] at he
  obtain ⟨t, h1, h2⟩ := he
  cases t with
  | v z => simp only [avOf, Option.some.injEq] at h2; subst h2; exact opd_ok h h1
  | _ => simp [avOf] at h2

theorem avOpds_ok {a : Act} (h : Inv σ0 g0 w0 st g lam w a.tmps.toList) : ∀ {xs : List Operand} {ys : List AV}, xs.mapM (avOpd st) = some ys → VRL g ys (xs.map a.eval)
  | [], ys, he => by simp at he; subst he; exact VRL_nil
  | x :: xs, ys, he => by
    simp only [List.mapM_cons, Option.bind_eq_bind, Option.bind_eq_some_iff, Option.pure_def, Option.some.injEq] at he
    obtain ⟨y, h1, zs, h2, rfl⟩ := he
    exact VRL_cons.2 ⟨avOpd_ok h h1, avOpds_ok h h2⟩

theorem zip_fst {α β : Type} : ∀ {l : List α} {m : List β}, l.length = m.length → (l.zip m).map (·.1) = l
  | [], [], _ => rfl
  | [], _ :: _, h => by simp at h
  | _ :: _, [], h => by simp at h
  | a :: l, b :: m, h => by simp only [List.zip_cons_cons, List.map_cons]; rw [zip_fst (by simpa using h)]
theorem zip_snd {α β : Type} : ∀ {l : List α} {m : List β}, l.length = m.length → (l.zip m).map (·.2) = m
  | [], [], _ => rfl
  | [], _ :: _, h => by simp at h
  | _ :: _, [], h => by simp at h
  | a :: l, b :: m, h => by simp only [List.zip_cons_cons, List.map_cons]; rw [zip_snd (by simpa using h)]

theorem frzL_length : ∀ {xs : List Operand} {st : St} {ys : List AV} {st' : St}, frzL st xs = some (ys, st') → ys.length = xs.length
  | [], st, ys, st', he => by simp only [frzL, Option.some.injEq, Prod.mk.injEq] at he; obtain ⟨rfl, rfl⟩ := he; rfl
  | x :: xs, st, ys, st', he => by
    simp only [frzL] at he
    split at he
    · split at he
      · rename_i h2
        simp only [Option.some.injEq, Prod.mk.injEq] at he
        obtain ⟨rfl, rfl⟩ := he
        simp [frzL_length h2]
      · cases he
    · cases he

theorem parts_zip (ρ : Operand → Value) : ∀ l : List (Nat × Operand), (l.map fun (i, x) => (i, ρ x)) = (l.map (·.1)).zip ((l.map (·.2)).map ρ)
  | [] => rfl
  | (i, x) :: l => by simp only [List.map_cons, List.zip_cons_cons]; rw [parts_zip ρ l]

theorem acall_ok {E : Env} (hat : ∀ f k, E.at_ f = some k → AtOK E.P f k) {a : Act} (h : Inv σ0 g0 w0 st g lam w a.tmps.toList) {f : FuncId} {args : List AV} {ar : AR} (he : acall E f args st = some ar) {vs : List Value} (hv : VRL g args vs)
    {o : Oper} (hrun : (execOp a.eval o).run E.P w = (callFunc f vs.toArray).run E.P w) : OpOK E o a w σ0 g0 w0 g lam ar := by
  unfold acall at he
  split at he
  · rename_i k hk
    simp only [Option.map_eq_some_iff] at he
    obtain ⟨⟨r, st'⟩, h1, rfl⟩ := he
    obtain ⟨u, w', hr, hi, hu⟩ := aatom_ok (P := E.P) h h1 hv
    obtain ⟨fn, e1, e2, e3, e4, e5⟩ := (hat f k hk).it
    refine ⟨u, w', g, lam, ?_, Ext.refl g lam, hi, hu⟩
    rw [hrun, run_callFunc_extern e1 e2 e3 e4 e5, hr]
    rfl
  · split at he
    · rename_i hc
      cases he
      refine ⟨vs.toArray, g, lam, ?_, Ext.refl g lam, h, by simpa using hv⟩
      rw [hrun]
      unfold acallable at hc
      split at hc
      · rename_i fn hf
        simp only [Bool.and_eq_true, Bool.not_eq_true', Option.isSome_iff_exists] at hc
        obtain ⟨⟨b, hb⟩, hn⟩ := hc
        have hn' : ¬ fn.name = "runtime.NumGoroutine" := by simpa using hn
        simp [callFunc, hf, hn', hb]
      · cases hc
    · cases he

theorem OpOK.ext {E : Env} {o : Oper} {a : Act} {g1 : Gh} {lam1 : List (Nat × Nat)} (hx : Ext g lam g1 lam1) {ar : AR} (h : OpOK E o a w σ0 g0 w0 g1 lam1 ar) : OpOK E o a w σ0 g0 w0 g lam ar := by
  cases ar with
  | val t st' => obtain ⟨v, w', g', lam', h1, h2, h3⟩ := h; exact ⟨v, w', g', lam', h1, hx.trans h2, h3⟩
  | skip st' => obtain ⟨w', g', lam', h1, h2, h3⟩ := h; exact ⟨w', g', lam', h1, hx.trans h2, h3⟩
  | call f args st' => obtain ⟨vs, g', lam', h1, h2, h3⟩ := h; exact ⟨vs, g', lam', h1, hx.trans h2, h3⟩

theorem val_ok {E : Env} {a : Act} {o : Oper} (h : Inv σ0 g0 w0 st g lam w a.tmps.toList) {t : TV} {v : Value} (hrun : (execOp a.eval o).run E.P w = .ok (.value v) w) (ht : TVR g lam t v) : OpOK E o a w σ0 g0 w0 g lam (.val t st) :=
  ⟨v, w, g, lam, hrun, Ext.refl g lam, h, ht⟩

theorem toList_map_eval (a : Act) (xs : Array Operand) : (xs.map a.eval) = (xs.toList.map a.eval).toArray := by
  apply Array.ext'
  simp

theorem aop_ok {E : Env} (hat : ∀ f k, E.at_ f = some k → AtOK E.P f k) {fid : FuncId} {a : Act} {o : Oper} (h : Inv σ0 g0 w0 st g lam w a.tmps.toList) {ar : AR} (he : aop E fid o st = some ar) : OpOK E o a w σ0 g0 w0 g lam ar := by
  unfold aop at he
  split at he
  · rename_i x ho
    simp only [Option.map_eq_some_iff] at he
    obtain ⟨t, h1, rfl⟩ := he
    exact val_ok h (by simp [execOp, ho]) (opd_ok h h1)
  · rename_i x ho
    simp only [Option.map_eq_some_iff] at he
    obtain ⟨t, h1, rfl⟩ := he
    exact val_ok h (by simp [execOp, ho]) (opd_ok h h1)
  · rename_i c x y ho
    split at he
    · rename_i b hc
      simp only [Option.map_eq_some_iff] at he
      obtain ⟨t, h1, rfl⟩ := he
      have hcv := opd_ok h hc
      simp only [TVR, VR] at hcv
      refine val_ok h (v := a.eval (if b then x else y)) ?_ (opd_ok h h1)
      simp only [execOp, ho, hcv, asBool, Sem.run_bind, Sem.run_pure, Result.andThen_ok]
      cases b <;> rfl
    · cases he
  · rename_i T ho
    simp only [Option.map_eq_some_iff] at he
    obtain ⟨cs, h1, rfl⟩ := he
    obtain ⟨z, hz, hc, _⟩ := azero_ok h1 g w
    obtain ⟨g', lam', hle, h2, h3⟩ := mkP_ok h (aop.mdOf E fid o) false T hc
    refine ⟨_, _, g', lam', ?_, hle, h2, h3⟩
    simp [execOp, ho, Instr.alloc, hz, newVar, newRow, World.alloc_eq]
  · rename_i T x ho
    simp only [Option.map_eq_some_iff] at he
    obtain ⟨⟨y, st1⟩, h1, rfl⟩ := he
    obtain ⟨g1, hl1, i1, r1⟩ := frzO_ok h h1
    obtain ⟨g', lam', hle, h2, h3⟩ := mkP_ok i1 (aop.mdOf E fid o) true T (VR_cells r1)
    refine ⟨_, _, g', lam', ?_, (Ext.of lam hl1).trans hle, h2, h3⟩
    simp [execOp, ho, Instr.box, newVar, newRow, World.alloc_eq]
  · rename_i T parts ho
    split at he
    · rename_i as st1 h1
      simp only [Option.map_eq_some_iff] at he
      obtain ⟨cs, h2, rfl⟩ := he
      obtain ⟨g1, hl1, i1, r1⟩ := frzL_ok h h1
      have hlen : (parts.toList.map (·.1)).length = as.length := by rw [frzL_length h1]; simp
      have hz : VRL g1 (((parts.toList.map (·.1)).zip as).map (·.2)) ((parts.toList.map (·.2)).map a.eval) := by rw [zip_snd hlen]; exact r1
      obtain ⟨ov, hr, h3⟩ := abuild_ok hz h2 w
      rw [zip_fst hlen] at hr
      refine ⟨.agg ov, w, g1, lam, ?_, Ext.of lam hl1, i1, by simp only [TVR, VR]; exact ⟨_, rfl, h3⟩⟩
      have hp : (parts.map fun (i, x) => (i, a.eval x)) = ((parts.toList.map (·.1)).zip ((parts.toList.map (·.2)).map a.eval)).toArray := by
        rw [← parts_zip a.eval parts.toList]
        apply Array.ext'
        simp
      simp only [execOp, ho, hp, Sem.run_bind, hr, Result.andThen_ok, Sem.run_pure]
    · cases he
  · rename_i T len parts ho
    split at he
    · rename_i as st1 h1
      split at he
      · rename_i cs n h2
        split at he
        · rename_i hcl
          cases he
          obtain ⟨g1, hl1, i1, r1⟩ := frzL_ok h h1
          have hlen : (parts.toList.map (·.1)).length = as.length := by rw [frzL_length h1]; simp
          have hz : VRL g1 (((parts.toList.map (·.1)).zip as).map (·.2)) ((parts.toList.map (·.2)).map a.eval) := by rw [zip_snd hlen]; exact r1
          obtain ⟨ov, e, hr, h3⟩ := abuildS_ok hz h2 w
          rw [zip_fst hlen] at hr
          obtain ⟨g', lam', hle, h4, h5⟩ := mkS_ok i1 (aop.mdOf E fid o) e h3 len n (by rw [← hcl, VRL_length h3]; simp)
          refine ⟨_, _, g', lam', ?_, (Ext.of lam hl1).trans hle, h4, h5⟩
          have hp : (parts.map fun (i, x) => (i, a.eval x)) = ((parts.toList.map (·.1)).zip ((parts.toList.map (·.2)).map a.eval)).toArray := by
            rw [← parts_zip a.eval parts.toList]
            apply Array.ext'
            simp
          simp only [execOp, ho, hp, Sem.run_bind, hr, Result.andThen_ok, Sem.run_pure]
        · cases he
      · cases he
    · cases he
  · rename_i T x ho
    split at he
    · rename_i t h1
      simp only [Option.map_eq_some_iff] at he
      obtain ⟨y, h2, rfl⟩ := he
      obtain ⟨addr, u, e1, hr, h3⟩ := ld_ok (P := E.P) h (opd_ok h h1) h2
      refine val_ok h (v := u) ?_ h3
      simp [execOp, ho, Instr.loadAt, e1, Instr.sureAddr, hr]
    · cases he
  · rename_i T p x ho
    split at he
    · rename_i y st1 h1
      split at he
      · rename_i t h2
        split at he
        · rename_i hsz
          simp only [Option.map_eq_some_iff] at he
          obtain ⟨st', h3, rfl⟩ := he
          obtain ⟨g1, hl1, i1, r1⟩ := frzO_ok h h1
          have hcl := VR_cells r1
          obtain ⟨addr, w', e1, hr, h4⟩ := wr_ok (P := E.P) i1 (opd_ok i1 h2) hcl h3
          refine ⟨w', g1, lam, ?_, Ext.of lam hl1, h4⟩
          have hl : (a.eval x).cells.size = (cellsOf y).length := by rw [VRL_length hcl]; simp
          have hs := run_sizeOf' hsz w
          simp [execOp, ho, Instr.storeAt, e1, Instr.sureAddr, storeVar, hs, hl, hr]
        · cases he
      · cases he
    · cases he
  · rename_i x ho
    split at he
    · rename_i t h1
      split at he
      · rename_i hs
        cases he
        have ht := opd_ok h h1
        refine val_ok h (v := a.eval x) ?_ ht
        unfold sure at hs
        split at hs
        · obtain ⟨p, _, hv⟩ := ht; simp [execOp, ho, hv]
        · simp only [TVR, VR] at ht; obtain ⟨b', off, c, T', fz, _, hv, _⟩ := ht; simp [execOp, ho, hv]
        · simp only [TVR, VR] at ht; obtain ⟨b', _, hv⟩ := ht; simp [execOp, ho, hv]
        · simp only [TVR, VR] at ht; obtain ⟨xs, ys, hv, _⟩ := ht; simp [execOp, ho, hv]
        · cases hs
      · cases he
    · cases he
  · rename_i op T x y yt ho
    split at he
    · rename_i b c h1 h2
      simp only [Option.map_eq_some_iff] at he
      obtain ⟨r, h3, rfl⟩ := he
      obtain ⟨z, hr, h4⟩ := abin_ok (P := E.P) (ox := x) (oy := y) h3 (avOpd_ok h h1) (avOpd_ok h h2) w
      refine val_ok h (v := z) ?_ h4
      simp only [execOp, ho, Sem.run_bind (f := fun _ => pure _), hr, Result.andThen_ok, Sem.run_pure]
      rw [Sem.run_bind, hr]; rfl
    · cases he
  · rename_i op T x ho
    split at he
    · rename_i b h1
      simp only [Option.map_eq_some_iff] at he
      obtain ⟨r, h3, rfl⟩ := he
      obtain ⟨z, hr, h4⟩ := aun_ok (P := E.P) h3 (avOpd_ok h h1) w
      refine val_ok h (v := z) ?_ h4
      simp only [execOp, ho]
      rw [Sem.run_bind, hr]; rfl
    · cases he
  · rename_i src dst x ho
    split at he
    · rename_i b h1
      simp only [Option.map_eq_some_iff] at he
      obtain ⟨r, h3, rfl⟩ := he
      obtain ⟨z, hr, h4⟩ := acvt_ok (P := E.P) h3 (avOpd_ok h h1) w
      refine val_ok h (v := z) ?_ h4
      simp only [execOp, ho]
      rw [Sem.run_bind, hr]; rfl
    · cases he
  · rename_i f first caps ho
    split at he
    · rename_i fs st1 h1
      split at he
      · rename_i cs st2 h2
        cases he
        obtain ⟨g1, hl1, i1, r1⟩ := frzL_ok h h1
        obtain ⟨g2, hl2, i2, r2⟩ := frzL_ok i1 h2
        refine ⟨.func (.func f) (first.map a.eval) (caps.map a.eval), w, g2, lam, ?_, Ext.of lam (hl1.trans hl2), i2, ?_⟩
        · simp only [execOp, ho, Instr.makeFunc]; rfl
        · simp only [TVR, VR]
          exact ⟨_, _, rfl, by simpa using VRL_mono hl2 _ _ r1, by simpa using r2⟩
      · cases he
    · cases he
  · rename_i T x lo hi mx ho
    split at he
    · rename_i t l hh m h1 h2 h3 h4
      simp only [Option.map_eq_some_iff] at he
      obtain ⟨r, h5, rfl⟩ := he
      obtain ⟨z, hr, h6⟩ := aslice_ok (P := E.P) h5 (optIdx_ok h h2) (optIdx_ok h h3) (optIdx_ok h h4) (opd_ok h h1) w
      refine val_ok h (v := z) ?_ h6
      simp only [execOp, ho]
      rw [Sem.run_bind, hr]; rfl
    · cases he
  · rename_i T x f ho
    split at he
    · rename_i t h1
      simp only [Option.map_eq_some_iff] at he
      obtain ⟨r, h5, rfl⟩ := he
      obtain ⟨z, hr, h6⟩ := afield_ok (P := E.P) h5 (opd_ok h h1) w
      refine val_ok h (v := z) ?_ h6
      simp only [execOp, ho]
      rw [Sem.run_bind, hr]; rfl
    · cases he
  · rename_i T x f ho
    split at he
    · rename_i b h1
      simp only [Option.map_eq_some_iff] at he
      obtain ⟨r, h5, rfl⟩ := he
      obtain ⟨z, hr, h6⟩ := afieldV_ok (P := E.P) h5 (avOpd_ok h h1) w
      refine val_ok h (v := z) ?_ h6
      simp only [execOp, ho]
      rw [Sem.run_bind, hr]; rfl
    · cases he
  · rename_i T x i ho
    split at he
    · rename_i t k n h1 h2
      simp only [Option.map_eq_some_iff] at he
      obtain ⟨r, h5, rfl⟩ := he
      obtain ⟨z, hr, h6⟩ := aindex_ok (P := E.P) (k := k) h5 (opd_ok h h1) w
      refine val_ok h (v := z) ?_ h6
      simp only [execOp, ho, intOpd_ok h h2]
      rw [Sem.run_bind, hr]; rfl
    · cases he
  · rename_i T x i ho
    split at he
    · rename_i b k n h1 h2
      simp only [Option.map_eq_some_iff] at he
      obtain ⟨r, h5, rfl⟩ := he
      obtain ⟨z, hr, h6⟩ := aindexV_ok (P := E.P) (k := k) h5 (avOpd_ok h h1) w
      refine val_ok h (v := z) ?_ h6
      simp only [execOp, ho, intOpd_ok h h2]
      rw [Sem.run_bind, hr]; rfl
    · cases he
  · rename_i x i ho
    split at he
    · rename_i b h1
      simp only [Option.map_eq_some_iff] at he
      obtain ⟨r, h5, rfl⟩ := he
      obtain ⟨z, hr, h6⟩ := aextract_ok (P := E.P) h5 (avOpd_ok h h1) w
      refine val_ok h (v := z) ?_ h6
      simp only [execOp, ho]
      rw [Sem.run_bind, hr]; rfl
    · cases he
  · rename_i T l c ho
    split at he
    · rename_i k1 n k2 k h1 h2
      simp only [Option.map_eq_some_iff] at he
      obtain ⟨⟨t, st'⟩, h5, rfl⟩ := he
      obtain ⟨u, w', g', lam', hr, hle, h6, h7⟩ := amake_ok (P := E.P) h h5 k1 k2
      refine ⟨u, w', g', lam', ?_, hle, h6, h7⟩
      simp only [execOp, ho, intOpd_ok h h1, intOpd_ok h h2]
      rw [Sem.run_bind, hr]; rfl
    · cases he
  · rename_i c ho
    split at he
    · rename_i b hb
      have hargs : c.args.map a.eval = (c.args.toList.map a.eval).toArray := toList_map_eval a c.args
      have hts : c.argTypes = c.argTypes.toList.toArray := by simp
      have run : ∀ {s : Sem Value} {ws : World → Prop}, (∀ consts, builtin b c.argTypes o.type consts (c.args.map a.eval) = (do pure (.value (← s)))) → ∀ {v : Value} {w' : World}, s.run E.P w = .ok v w' → (execOp a.eval o).run E.P w = .ok (.value v) w' := by
        intro s _ hs v w' hr
        simp only [execOp, ho, resolve, hb, Sem.run_bind, Sem.run_pure, Result.andThen_ok, invoke]
        rw [hs, Sem.run_bind, hr]; rfl
      unfold abuiltin at he
      split at he
      · rename_i x y T ty e1 e2
        split at he
        · rename_i tx ty' h1 h2
          simp only [Option.map_eq_some_iff] at he
          obtain ⟨⟨t, st'⟩, h3, rfl⟩ := he
          obtain ⟨u, w', g', lam', hr, hle, h4, h5⟩ := aappend_ok (P := E.P) h h3 (opd_ok h h1) (opd_ok h h2) o.type
          refine ⟨u, w', g', lam', ?_, hle, h4, h5⟩
          refine run (ws := fun _ => True) (fun consts => ?_) hr
          rw [hargs, e1, hts, e2]
          rfl
        · cases he
      · rename_i x T e1 e2
        split at he
        · rename_i t h1
          simp only [Option.map_eq_some_iff] at he
          obtain ⟨n, h3, rfl⟩ := he
          have hr := alen_ok (P := E.P) h3 (opd_ok h h1) o.type w
          refine val_ok h (v := .int .i64 n) ?_ (by simp only [TVR, VR])
          refine run (ws := fun _ => True) (fun consts => ?_) hr
          rw [hargs, e1, hts, e2]
          rfl
        · cases he
      · rename_i xs ts
        split at he
        · rename_i as h1
          simp only [Option.map_eq_some_iff] at he
          obtain ⟨r, h3, rfl⟩ := he
          obtain ⟨u, hr, h4⟩ := amm_ok (P := E.P) (mx := true) h3 (avOpds_ok h h1) c.argTypes o.type w
          refine val_ok h (v := u) ?_ h4
          refine run (ws := fun _ => True) (fun consts => ?_) hr
          rw [hargs]
          rfl
        · cases he
      · rename_i xs ts
        split at he
        · rename_i as h1
          simp only [Option.map_eq_some_iff] at he
          obtain ⟨r, h3, rfl⟩ := he
          obtain ⟨u, hr, h4⟩ := amm_ok (P := E.P) (mx := false) h3 (avOpds_ok h h1) c.argTypes o.type w
          refine val_ok h (v := u) ?_ h4
          refine run (ws := fun _ => True) (fun consts => ?_) hr
          rw [hargs]
          rfl
        · cases he
      · cases he
    · rename_i f hf
      split at he
      · rename_i F first caps h1
        split at he
        · rename_i args st1 h2
          have hv := avOpd_ok h h1
          obtain ⟨g1, hl1, i1, r1⟩ := frzL_ok h h2
          simp only [VR] at hv
          obtain ⟨xs, ys, e1, hx, hy⟩ := hv
          have hall : VRL g1 (first ++ args ++ caps) (xs.toList ++ c.args.toList.map a.eval ++ ys.toList) := VRL_append (VRL_append (VRL_mono hl1 _ _ hx) r1) (VRL_mono hl1 _ _ hy)
          refine OpOK.ext (Ext.of lam hl1) (acall_ok hat i1 he hall ?_)
          simp only [execOp, ho, resolve, hf, e1, Deferred.ofValue, Sem.run_bind, Sem.run_pure, Result.andThen_ok, invoke]
          congr 2
          apply Array.ext'
          simp
        · cases he
      · cases he
    · cases he
  · cases he
end
end Go.Abs
