/- An abstract reading of the program, and what it answers. By an AI agent. -/
import Derived.Test.YtkbgehhnimpleaaGreatDoorAbsEv
set_option linter.all false
namespace Go.Abs

/-! ### Regions that draw their order, step by step -/

/-- An operation that is wanted. -/
noncomputable def advT (E : Env) (f : FuncId) (ops : Array Oper) (o : Oper) (st : St) : Option (Cls × TV × Store × Store) := match aopQ E o st with
    | some t => some (.quiet, t, st.σ, st.loc)
    | none => match aldQ E o st with
      | some t => some (.load, t, st.σ, st.loc)
      | none => match afresh E f o st with
        | some t => some (.fresh, t, st.σ, st.loc)
        | none => match aallocQ E f o st.loc with
          | some (t, l') => some (.alloc, t, st.σ, l')
          | none => match acallQ E o st with
            | some (F, args) => match run E F args st.σ with
              | some (r, σ') => some (.call, .v r, σ', st.loc)
              | none => none
            | none => match aop E f o { st with tmps := maskL (o.looksAt ops) 0 st.tmps } with
              | some (.val t st2) => some (.full, t, st2.σ, st2.loc)
              | some (.skip st2) => some (.full, undefT, st2.σ, st2.loc)
              | some (.call F args st2) => match run E F args st2.σ with
                | some (r, σ') => some (.full, .v r, σ', st2.loc)
                | none => none
              | none => none

def DT (E : Env) (f : FuncId) (n : Nat) (all : Array Oper) (o : Oper) (l : List Oper) (cls : List (Cls × Bool)) (k : List Item) (st : St) (Q : AExit → St → Prop) : Prop :=
  dvK E f n all l cls k st.tmps o.dst Q (lkOf o st) (advT E f all o st)

section
variable {E : Env} {f : FuncId} {n : Nat} {k : List Item} {st : St} {Q : AExit → St → Prop} {all : Array Oper} {o : Oper} {l : List Oper} {cls : List (Cls × Bool)}
  {d : Option Tmp} {ty : TypeId} {ps : String} {ea : Array Edge} {gd : Option (Nat × Bool)}

theorem awanted_mask {b : Bool} (hw : awanted all st.tmps o = some b) : awanted all (maskL (o.looksAt all) 0 st.tmps) o = some b := by
  rw [← hw]
  refine awanted_congr (fun t ht => ?_)
  rw [maskL_get, Nat.zero_add]
  have hc : (o.looksAt all).contains t = true := by simpa using ht
  simp only [hc, if_true]
  cases st.tmps[t]? <;> rfl

theorem WP_drw_want (hw : awanted all st.tmps o = some true) : WP E f n (.drw all (o :: l) cls :: k) .normal st Q = DT E f n all o l cls k st Q := by
  rw [WP_drw]
  unfold DT
  congr 1
  unfold adval advT
  simp only [hw]
  cases aopQ E o st with
  | some t => rfl
  | none =>
    cases aldQ E o st with
    | some t => rfl
    | none =>
      cases afresh E f o st with
      | some t => rfl
      | none =>
        cases aallocQ E f o st.loc with
        | some q => rfl
        | none =>
          cases acallQ E o st with
          | some q => rfl
          | none =>
            simp only [aoperT, awanted_mask hw]
            cases aop E f o { st with tmps := maskL (o.looksAt all) 0 st.tmps } with
            | none => rfl
            | some ar =>
              cases ar with
              | val t s => rfl
              | skip s => rfl
              | call F args s =>
                simp only
                cases run E F args s.σ with
                | none => rfl
                | some q => rfl

theorem WP_drw_n {op : Op} : WP E f n (.drw all (⟨d, op, ty, ps, ea, none⟩ :: l) cls :: k) .normal st Q = DT E f n all ⟨d, op, ty, ps, ea, none⟩ l cls k st Q := WP_drw_want rfl

/-- A guard that says no. -/
theorem WP_drw_off (hw : awanted all st.tmps o = some false) : WP E f n (.drw all (o :: l) cls :: k) .normal st Q = WP E f n (.drw all l (cls ++ [(.quiet, false)]) :: k) .normal (st.put o.dst undefT) Q := by
  rw [WP_drw]
  unfold adval
  simp only [hw, dvK]
  rfl

def gdK (E : Env) (f : FuncId) (n : Nat) (all : Array Oper) (o : Oper) (l : List Oper) (cls : List (Cls × Bool)) (k : List Item) (st : St) (Q : AExit → St → Prop) : Option Bool → Prop
  | some true => DT E f n all o l cls k st Q
  | some false => WP E f n (.drw all l (cls ++ [(.quiet, false)]) :: k) .normal (st.put o.dst undefT) Q
  | none => False

theorem WP_drw_g {op : Op} {g : Nat × Bool} : WP E f n (.drw all (⟨d, op, ty, ps, ea, some g⟩ :: l) cls :: k) .normal st Q = gdK E f n all ⟨d, op, ty, ps, ea, some g⟩ l cls k st Q (awanted all st.tmps ⟨d, op, ty, ps, ea, some g⟩) := by
  cases hw : awanted all st.tmps ⟨d, op, ty, ps, ea, some g⟩ with
  | none =>
    rw [WP_drw]
    unfold adval
    simp only [hw, dvK, gdK]
  | some b =>
    cases b with
    | true => exact WP_drw_want hw
    | false => exact WP_drw_off hw

theorem gdK_t : gdK E f n all o l cls k st Q (some true) = DT E f n all o l cls k st Q := rfl
theorem gdK_f : gdK E f n all o l cls k st Q (some false) = WP E f n (.drw all l (cls ++ [(.quiet, false)]) :: k) .normal (st.put o.dst undefT) Q := rfl
theorem gdK_split {b : Bool} (h1 : b = true → DT E f n all o l cls k st Q) (h2 : b = false → WP E f n (.drw all l (cls ++ [(.quiet, false)]) :: k) .normal (st.put o.dst undefT) Q) : gdK E f n all o l cls k st Q (some b) := by
  cases b
  · exact h2 rfl
  · exact h1 rfl

/-! By the kind -/

/-- It looks only. -/
def qK (E : Env) (f : FuncId) (n : Nat) (all : Array Oper) (o : Oper) (l : List Oper) (cls : List (Cls × Bool)) (k : List Item) (st : St) (Q : AExit → St → Prop) : Option TV → Prop
  | some t => WP E f n (.drw all l (cls ++ [(.quiet, false)]) :: k) .normal (st.put o.dst t) Q
  | none => DT E f n all o l cls k st Q

theorem DT_q : DT E f n all o l cls k st Q = qK E f n all o l cls k st Q (aopQ E o st) := by
  cases h : aopQ E o st with
  | none => rfl
  | some t =>
    unfold DT advT
    simp only [h, dvK, qK]
    rfl
theorem qK_some {t : TV} : qK E f n all o l cls k st Q (some t) = WP E f n (.drw all l (cls ++ [(.quiet, false)]) :: k) .normal (st.put o.dst t) Q := rfl

theorem DT_move {x : Operand} : DT E f n all ⟨d, .move x, ty, ps, ea, gd⟩ l cls k st Q = qK E f n all ⟨d, .move x, ty, ps, ea, gd⟩ l cls k st Q (opd st x) := DT_q
theorem DT_assign {x : Operand} : DT E f n all ⟨d, .assign x, ty, ps, ea, gd⟩ l cls k st Q = qK E f n all ⟨d, .assign x, ty, ps, ea, gd⟩ l cls k st Q (opd st x) := DT_q
theorem DT_pick {c x y : Operand} : DT E f n all ⟨d, .pick c x y, ty, ps, ea, gd⟩ l cls k st Q = qK E f n all ⟨d, .pick c x y, ty, ps, ea, gd⟩ l cls k st Q (pickB st x y (opd st c)) := by
  rw [DT_q]
  congr 1
theorem DT_build {T : TypeId} {parts : Array (Nat × Operand)} : DT E f n all ⟨d, .build T parts, ty, ps, ea, gd⟩ l cls k st Q = qK E f n all ⟨d, .build T parts, ty, ps, ea, gd⟩ l cls k st Q (match (parts.toList.map (·.2)).mapM (avOpd st) with
    | some as => (abuild E.P T ((parts.toList.map (·.1)).zip as)).map fun cs => .v (.agg cs)
    | none => none) := DT_q
theorem DT_nilCheck {x : Operand} : DT E f n all ⟨d, .nilCheck x, ty, ps, ea, gd⟩ l cls k st Q = qK E f n all ⟨d, .nilCheck x, ty, ps, ea, gd⟩ l cls k st Q (match opd st x with
    | some t => if sure t then some t else none
    | none => none) := DT_q
theorem DT_binOp {op : BinOp} {T yt : TypeId} {x y : Operand} : DT E f n all ⟨d, .binOp op T x y yt, ty, ps, ea, gd⟩ l cls k st Q = qK E f n all ⟨d, .binOp op T x y yt, ty, ps, ea, gd⟩ l cls k st Q (match avOpd st x, avOpd st y with
    | some a, some b => (abin E.P op T a b).map .v
    | _, _ => none) := DT_q
theorem DT_unOp {op : UnOp} {T : TypeId} {x : Operand} : DT E f n all ⟨d, .unOp op T x, ty, ps, ea, gd⟩ l cls k st Q = qK E f n all ⟨d, .unOp op T x, ty, ps, ea, gd⟩ l cls k st Q (match avOpd st x with
    | some a => (aun op a).map .v
    | none => none) := DT_q
theorem DT_convert {s t : TypeId} {x : Operand} : DT E f n all ⟨d, .convert s t x, ty, ps, ea, gd⟩ l cls k st Q = qK E f n all ⟨d, .convert s t x, ty, ps, ea, gd⟩ l cls k st Q (match avOpd st x with
    | some a => (acvt E.P s t a).map .v
    | none => none) := DT_q
theorem DT_makeFunc {F : FuncId} {first caps : Array Operand} : DT E f n all ⟨d, .makeFunc (.func F) first caps, ty, ps, ea, gd⟩ l cls k st Q = qK E f n all ⟨d, .makeFunc (.func F) first caps, ty, ps, ea, gd⟩ l cls k st Q (match first.toList.mapM (avOpd st), caps.toList.mapM (avOpd st) with
    | some fs, some cs => some (.v (.fn F fs cs))
    | _, _ => none) := DT_q
theorem DT_slice {T : TypeId} {x : Operand} {lo hi mx : Option Operand} : DT E f n all ⟨d, .slice T x lo hi mx, ty, ps, ea, gd⟩ l cls k st Q = qK E f n all ⟨d, .slice T x lo hi mx, ty, ps, ea, gd⟩ l cls k st Q (match opd st x, optIdx st lo, optIdx st hi, optIdx st mx with
    | some t, some l, some h, some m => aslice E.P T t l h m
    | _, _, _, _ => none) := DT_q
theorem DT_fieldAddr {T : TypeId} {x : Operand} {i : Nat} : DT E f n all ⟨d, .fieldAddr T x i, ty, ps, ea, gd⟩ l cls k st Q = qK E f n all ⟨d, .fieldAddr T x i, ty, ps, ea, gd⟩ l cls k st Q (match opd st x with
    | some t => afield E.P T t i
    | none => none) := DT_q
theorem DT_field {T : TypeId} {x : Operand} {i : Nat} : DT E f n all ⟨d, .field T x i, ty, ps, ea, gd⟩ l cls k st Q = qK E f n all ⟨d, .field T x i, ty, ps, ea, gd⟩ l cls k st Q (match avOpd st x with
    | some a => (afieldV E.P T a i).map .v
    | none => none) := DT_q
theorem DT_indexAddr {T : TypeId} {x i : Operand} : DT E f n all ⟨d, .indexAddr T x i, ty, ps, ea, gd⟩ l cls k st Q = qK E f n all ⟨d, .indexAddr T x i, ty, ps, ea, gd⟩ l cls k st Q (match opd st x, intOpd st i with
    | some t, some (_, n) => aindex E.P T t n
    | _, _ => none) := DT_q
theorem DT_index {T : TypeId} {x i : Operand} : DT E f n all ⟨d, .index T x i, ty, ps, ea, gd⟩ l cls k st Q = qK E f n all ⟨d, .index T x i, ty, ps, ea, gd⟩ l cls k st Q (match avOpd st x, intOpd st i with
    | some a, some (_, n) => (aindexV E.P T a n).map .v
    | _, _ => none) := DT_q
theorem DT_extract {x : Operand} {i : Nat} : DT E f n all ⟨d, .extract x i, ty, ps, ea, gd⟩ l cls k st Q = qK E f n all ⟨d, .extract x i, ty, ps, ea, gd⟩ l cls k st Q (match avOpd st x with
    | some a => (aextract a i).map .v
    | none => none) := DT_q
theorem DT_len {x : Operand} {T : TypeId} : DT E f n all ⟨d, .call ⟨.builtin .len, #[x], #[T]⟩, ty, ps, ea, gd⟩ l cls k st Q = qK E f n all ⟨d, .call ⟨.builtin .len, #[x], #[T]⟩, ty, ps, ea, gd⟩ l cls k st Q (match opd st x with
    | some t => (alen E.P T t).map fun n => .v (.sc (.int .i64 n))
    | none => none) := DT_q

/-- A reading. -/
def ldK (E : Env) (f : FuncId) (n : Nat) (all : Array Oper) (o : Oper) (l : List Oper) (cls : List (Cls × Bool)) (k : List Item) (st : St) (Q : AExit → St → Prop) (T : TypeId) : Option TV → Prop
  | some t => match ld E.P ⟨[], [], st.tmps⟩ T t with
    | some y => WP E f n (.drw all l (cls ++ [(.quiet, false)]) :: k) .normal (st.put o.dst (.v y)) Q
    | none => match ld E.P st T t with
      | some y => WP E f n (.drw all l (cls ++ [(.load, lkT t)]) :: k) .normal (st.put o.dst (.v y)) Q
      | none => DT E f n all o l cls k st Q
  | none => DT E f n all o l cls k st Q
theorem DT_load {T : TypeId} {x : Operand} : DT E f n all ⟨d, .load T x, ty, ps, ea, gd⟩ l cls k st Q = ldK E f n all ⟨d, .load T x, ty, ps, ea, gd⟩ l cls k st Q T (opd st x) := by
  cases hx : opd st x with
  | none => rfl
  | some t =>
    have q1 : aopQ E ⟨d, .load T x, ty, ps, ea, gd⟩ st = (ld E.P ⟨[], [], st.tmps⟩ T t).map TV.v := by simp only [aopQ, hx]
    have q2 : aldQ E ⟨d, .load T x, ty, ps, ea, gd⟩ st = (ld E.P st T t).map TV.v := by simp only [aldQ, hx]
    unfold ldK
    simp only
    cases h1 : ld E.P ⟨[], [], st.tmps⟩ T t with
    | some y =>
      rw [h1] at q1
      unfold DT advT
      simp only [q1, Option.map_some, dvK]
      rfl
    | none =>
      cases h2 : ld E.P st T t with
      | none => rfl
      | some y =>
        rw [h1] at q1
        rw [h2] at q2
        unfold DT advT
        simp only [q1, q2, Option.map_none, Option.map_some, dvK, fl, lkOf, hx]
theorem ldK_some {T : TypeId} {t : TV} {σ loc : Store} {ts : List TV} : ldK E f n all o l cls k ⟨σ, loc, ts⟩ Q T (some t) = match ld E.P ⟨[], [], ts⟩ T t with
    | some y => WP E f n (.drw all l (cls ++ [(.quiet, false)]) :: k) .normal (St.put ⟨σ, loc, ts⟩ o.dst (.v y)) Q
    | none => match ld E.P ⟨σ, loc, ts⟩ T t with
      | some y => WP E f n (.drw all l (cls ++ [(.load, lkT t)]) :: k) .normal (St.put ⟨σ, loc, ts⟩ o.dst (.v y)) Q
      | none => DT E f n all o l cls k ⟨σ, loc, ts⟩ Q := rfl

/-- All else. -/
def arD (E : Env) (f : FuncId) (n : Nat) (all : Array Oper) (l : List Oper) (cls : List (Cls × Bool)) (k : List Item) (ts : List TV) (d : Option Tmp) (Q : AExit → St → Prop) : Option AR → Prop
  | some (.val t st') => WP E f n (.drw all l (cls ++ [(.full, false)]) :: k) .normal (St.put ⟨st'.σ, st'.loc, ts⟩ d t) Q
  | some (.skip st') => WP E f n (.drw all l (cls ++ [(.full, false)]) :: k) .normal (St.put ⟨st'.σ, st'.loc, ts⟩ d undefT) Q
  | some (.call F args st') => Ans E F args st'.σ (AfterD E f n all l (cls ++ [(.full, false)]) k st'.loc ts d Q)
  | none => False
theorem arD_val {ts : List TV} {t : TV} {σ loc : Store} {ts' : List TV} : arD E f n all l cls k ts d Q (some (.val t ⟨σ, loc, ts'⟩)) = WP E f n (.drw all l (cls ++ [(.full, false)]) :: k) .normal (St.put ⟨σ, loc, ts⟩ d t) Q := rfl
theorem arD_skip {ts : List TV} {σ loc : Store} {ts' : List TV} : arD E f n all l cls k ts d Q (some (.skip ⟨σ, loc, ts'⟩)) = WP E f n (.drw all l (cls ++ [(.full, false)]) :: k) .normal (St.put ⟨σ, loc, ts⟩ d undefT) Q := rfl
theorem arD_call {ts : List TV} {F : FuncId} {args : List AV} {σ loc : Store} {ts' : List TV} : arD E f n all l cls k ts d Q (some (.call F args ⟨σ, loc, ts'⟩)) = Ans E F args σ (AfterD E f n all l (cls ++ [(.full, false)]) k loc ts d Q) := rfl

theorem full_eq (e1 : aopQ E o st = none) (e2 : aldQ E o st = none) (e3 : afresh E f o st = none) (e4 : aallocQ E f o st.loc = none) (e5 : acallQ E o st = none) :
    DT E f n all o l cls k st Q = arD E f n all l cls k st.tmps o.dst Q (aop E f o { st with tmps := maskL (o.looksAt all) 0 st.tmps }) := by
  unfold DT advT
  simp only [e1, e2, e3, e4, e5]
  cases aop E f o { st with tmps := maskL (o.looksAt all) 0 st.tmps } with
  | none => rfl
  | some ar =>
    cases ar with
    | val t s => rfl
    | skip s => rfl
    | call F args s =>
      simp only [arD]
      unfold Ans AfterD
      apply propext
      constructor
      · intro h
        cases hr : run E F args s.σ with
        | none => rw [hr] at h; exact h.elim
        | some q => rw [hr] at h; exact ⟨q.1, q.2, rfl, h⟩
      · rintro ⟨r, σ', hr, h⟩
        rw [hr]; exact h

/-- New and frozen at once. -/
def frK (E : Env) (f : FuncId) (n : Nat) (all : Array Oper) (o : Oper) (l : List Oper) (cls : List (Cls × Bool)) (k : List Item) (st : St) (Q : AExit → St → Prop) : Option TV → Prop
  | some t => WP E f n (.drw all l (cls ++ [(.fresh, false)]) :: k) .normal (st.put o.dst t) Q
  | none => DT E f n all o l cls k st Q
theorem frK_some {t : TV} : frK E f n all o l cls k st Q (some t) = WP E f n (.drw all l (cls ++ [(.fresh, false)]) :: k) .normal (st.put o.dst t) Q := rfl
theorem DT_box {T : TypeId} {x : Operand} {i : Nat} (hm : E.md f i = .dflt) : DT E f n all ⟨some i, .box T x, ty, ps, ea, gd⟩ l cls k st Q = frK E f n all ⟨some i, .box T x, ty, ps, ea, gd⟩ l cls k st Q ((avOpd st x).map fun a => .v (.ip (cellsOf a))) := by
  cases hx : avOpd st x with
  | none => rfl
  | some a =>
    unfold DT advT
    simp only [aopQ, aldQ, afresh, aop.mdOf, hm, hx, Option.map_some, dvK, frK]
    rfl
theorem DT_buildSlice {T : TypeId} {len : Nat} {parts : Array (Nat × Operand)} {i : Nat} (hm : E.md f i = .dflt) : DT E f n all ⟨some i, .buildSlice T len parts, ty, ps, ea, gd⟩ l cls k st Q = frK E f n all ⟨some i, .buildSlice T len parts, ty, ps, ea, gd⟩ l cls k st Q (match (parts.toList.map (·.2)).mapM (avOpd st) with
      | some as => match abuildS E.P T len ((parts.toList.map (·.1)).zip as) with
        | some (cs, n) => if cs.length = len * n then some (.v (.is cs len true)) else none
        | none => none
      | none => none) := by
  have e : afresh E f ⟨some i, .buildSlice T len parts, ty, ps, ea, gd⟩ st = (match (parts.toList.map (·.2)).mapM (avOpd st) with
      | some as => match abuildS E.P T len ((parts.toList.map (·.1)).zip as) with
        | some (cs, n) => if cs.length = len * n then some (.v (.is cs len true)) else none
        | none => none
      | none => none) := by simp only [afresh, aop.mdOf, hm]; rfl
  rw [← e]
  cases hx : afresh E f ⟨some i, .buildSlice T len parts, ty, ps, ea, gd⟩ st with
  | none => rfl
  | some t =>
    unfold DT advT
    simp only [aopQ, aldQ, hx, dvK, frK]
    rfl

/-- New cells. -/
def alK (E : Env) (f : FuncId) (n : Nat) (all : Array Oper) (o : Oper) (l : List Oper) (cls : List (Cls × Bool)) (k : List Item) (st : St) (Q : AExit → St → Prop) : Option (List AV) → Prop
  | some cs => WP E f n (.drw all l (cls ++ [(.alloc, false)]) :: k) .normal (St.put ⟨st.σ, st.loc ++ [some cs], st.tmps⟩ o.dst (.lp st.loc.length 0)) Q
  | none => DT E f n all o l cls k st Q
theorem alK_some {cs : List AV} {σ loc : Store} {ts : List TV} : alK E f n all o l cls k ⟨σ, loc, ts⟩ Q (some cs) = WP E f n (.drw all l (cls ++ [(.alloc, false)]) :: k) .normal (St.put ⟨σ, loc ++ [some cs], ts⟩ o.dst (.lp loc.length 0)) Q := rfl
theorem DT_alloc {T : TypeId} {i : Nat} (hm : E.md f i = .dflt) : DT E f n all ⟨some i, .alloc T, ty, ps, ea, gd⟩ l cls k st Q = alK E f n all ⟨some i, .alloc T, ty, ps, ea, gd⟩ l cls k st Q (azero E.P T) := by
  cases hx : azero E.P T with
  | none => rfl
  | some a =>
    unfold DT advT
    simp only [aopQ, aldQ, afresh, aallocQ, aop.mdOf, hm, hx, Option.map_some, dvK, alK]
    rfl

theorem DT_store {T : TypeId} {p x : Operand} {σ loc : Store} {ts : List TV} : DT E f n all ⟨d, .store T p x, ty, ps, ea, gd⟩ l cls k ⟨σ, loc, ts⟩ Q = arD E f n all l cls k ts d Q (aop E f ⟨d, .store T p x, ty, ps, ea, gd⟩ ⟨σ, loc, maskL (Oper.looksAt all ⟨d, .store T p x, ty, ps, ea, gd⟩) 0 ts⟩) := full_eq rfl rfl rfl rfl rfl
theorem DT_append {x y : Operand} {T T2 : TypeId} {i : Nat} {σ loc : Store} {ts : List TV} : DT E f n all ⟨some i, .call ⟨.builtin .append, #[x, y], #[T, T2]⟩, ty, ps, ea, gd⟩ l cls k ⟨σ, loc, ts⟩ Q = arD E f n all l cls k ts (some i) Q (aop E f ⟨some i, .call ⟨.builtin .append, #[x, y], #[T, T2]⟩, ty, ps, ea, gd⟩ ⟨σ, loc, maskL (Oper.looksAt all ⟨some i, .call ⟨.builtin .append, #[x, y], #[T, T2]⟩, ty, ps, ea, gd⟩) 0 ts⟩) := full_eq rfl rfl rfl rfl rfl
theorem DT_makeSlice {T : TypeId} {x c : Operand} {i : Nat} {σ loc : Store} {ts : List TV} : DT E f n all ⟨some i, .makeSlice T x c, ty, ps, ea, gd⟩ l cls k ⟨σ, loc, ts⟩ Q = arD E f n all l cls k ts (some i) Q (aop E f ⟨some i, .makeSlice T x c, ty, ps, ea, gd⟩ ⟨σ, loc, maskL (Oper.looksAt all ⟨some i, .makeSlice T x c, ty, ps, ea, gd⟩) 0 ts⟩) := full_eq rfl rfl rfl rfl rfl

/-- A call. -/
def dcK (E : Env) (f : FuncId) (n : Nat) (all : Array Oper) (o : Oper) (l : List Oper) (cls : List (Cls × Bool)) (k : List Item) (st : St) (Q : AExit → St → Prop) : Option (FuncId × List AV) → Prop
  | some (F, args) => Ans E F args st.σ (AfterD E f n all l (cls ++ [(.call, false)]) k st.loc st.tmps o.dst Q)
  | none => arD E f n all l cls k st.tmps o.dst Q (aop E f o { st with tmps := maskL (o.looksAt all) 0 st.tmps })
theorem dcK_some {F : FuncId} {args : List AV} {σ loc : Store} {ts : List TV} : dcK E f n all o l cls k ⟨σ, loc, ts⟩ Q (some (F, args)) = Ans E F args σ (AfterD E f n all l (cls ++ [(.call, false)]) k loc ts o.dst Q) := rfl
theorem dcK_none {σ loc : Store} {ts : List TV} : dcK E f n all o l cls k ⟨σ, loc, ts⟩ Q none = arD E f n all l cls k ts o.dst Q (aop E f o ⟨σ, loc, maskL (o.looksAt all) 0 ts⟩) := rfl
def acq (E : Env) (args : Option (List AV)) : Option AV → Option (FuncId × List AV)
  | some (.fn F first caps) => match args with
    | some as => if (E.at_ F).isNone && acallable E.P F then some (F, first ++ as ++ caps) else none
    | none => none
  | _ => none
theorem acq_fn {F : FuncId} {first caps as : List AV} : acq E (some as) (some (.fn F first caps)) = if (E.at_ F).isNone && acallable E.P F then some (F, first ++ as ++ caps) else none := rfl
theorem acq_none {F : FuncId} {first caps : List AV} : acq E none (some (.fn F first caps)) = none := rfl
theorem DT_call {x : Operand} {args : Array Operand} {ts : Array TypeId} : DT E f n all ⟨d, .call ⟨.value x, args, ts⟩, ty, ps, ea, gd⟩ l cls k st Q = dcK E f n all ⟨d, .call ⟨.value x, args, ts⟩, ty, ps, ea, gd⟩ l cls k st Q (acq E (args.toList.mapM (avOpd st)) (avOpd st x)) := by
  have e : acallQ E ⟨d, .call ⟨.value x, args, ts⟩, ty, ps, ea, gd⟩ st = acq E (args.toList.mapM (avOpd st)) (avOpd st x) := by
    simp only [acallQ, acq]
    cases avOpd st x with
    | none => rfl
    | some a =>
      cases a with
      | fn F a b => simp only; cases args.toList.mapM (avOpd st) <;> rfl
      | _ => rfl
  rw [← e]
  cases h : acallQ E ⟨d, .call ⟨.value x, args, ts⟩, ty, ps, ea, gd⟩ st with
  | none => exact full_eq rfl rfl rfl rfl h
  | some q =>
    obtain ⟨F, as⟩ := q
    unfold DT advT dcK
    have e1 : aopQ E ⟨d, .call ⟨.value x, args, ts⟩, ty, ps, ea, gd⟩ st = none := rfl
    simp only [e1, aldQ, afresh, aallocQ, h]
    unfold Ans AfterD
    apply propext
    constructor
    · intro hh
      cases hr : run E F as st.σ with
      | none => rw [hr] at hh; exact hh.elim
      | some q => rw [hr] at hh; exact ⟨q.1, q.2, rfl, hh⟩
    · rintro ⟨r, σ', hr, hh⟩
      rw [hr]; exact hh

theorem WP_drw_end (h : drwOK all cls = true) (hk : WP E f n k .normal st Q) : WP E f n (.drw all [] cls :: k) .normal st Q := (WP_drw_nil h).mpr hk

theorem gdK_dt {p : Prop} [Decidable p] (h : p) : gdK E f n all o l cls k st Q (some (decide p)) = DT E f n all o l cls k st Q := by simp [gdK, h]
theorem gdK_df {p : Prop} [Decidable p] (h : ¬ p) : gdK E f n all o l cls k st Q (some (decide p)) = WP E f n (.drw all l (cls ++ [(.quiet, false)]) :: k) .normal (st.put o.dst undefT) Q := by simp [gdK, h]
theorem gdK_dec {p : Prop} [Decidable p] (h1 : p → DT E f n all o l cls k st Q) (h2 : ¬ p → WP E f n (.drw all l (cls ++ [(.quiet, false)]) :: k) .normal (st.put o.dst undefT) Q) : gdK E f n all o l cls k st Q (some (decide p)) := by
  by_cases h : p
  · rw [gdK_dt h]; exact h1 h
  · rw [gdK_df h]; exact h2 h
theorem GuardK_dt {p : Prop} [Decidable p] (h : p) : GuardK E f n all o l k st Q (some (decide p)) = arK E f n all l k o.dst Q (aop E f o st) := by simp [GuardK, h]
theorem GuardK_df {p : Prop} [Decidable p] (h : ¬ p) : GuardK E f n all o l k st Q (some (decide p)) = WP E f n (.ops all l :: k) .normal (st.put o.dst undefT) Q := by simp [GuardK, h]
theorem GuardK_dec {p : Prop} [Decidable p] (h1 : p → arK E f n all l k o.dst Q (aop E f o st)) (h2 : ¬ p → WP E f n (.ops all l :: k) .normal (st.put o.dst undefT) Q) : GuardK E f n all o l k st Q (some (decide p)) := by
  by_cases h : p
  · rw [GuardK_dt h]; exact h1 h
  · rw [GuardK_df h]; exact h2 h
def blkK (E : Env) (f : FuncId) (n : Nat) (k : List Item) (j : Nat) (st : St) (Q : AExit → St → Prop) (b : Bool) : Prop := if b then WP E f n k .normal st Q else WP E f n k (.exit j) st Q
theorem WP_blk_ex {i j : Nat} : WP E f n (.blk i :: k) (.exit j) st Q = blkK E f n k j st Q (j == i) := by
  unfold blkK
  cases h : j == i with
  | true =>
    have : j = i := by simpa using h
    subst this
    exact WP_blk_exit
  | false => exact WP_blk_exit' h
theorem blkK_t {j : Nat} : blkK E f n k j st Q true = WP E f n k .normal st Q := rfl
theorem blkK_f {j : Nat} : blkK E f n k j st Q false = WP E f n k (.exit j) st Q := rfl
theorem beq_t {b : Bool} : (b == true) = b := by cases b <;> rfl
theorem beq_f {b : Bool} : (b == false) = !b := by cases b <;> rfl
theorem getq {cs : List Int} {i : Nat} (h : i < cs.length) : cs[i]? = some (cs.getD i 0) := by simp [List.getD, h]
theorem ite_t {α : Type} {c : Prop} [Decidable c] {a b : α} (h : c) : (if c then a else b) = a := if_pos h
theorem ite_f {α : Type} {c : Prop} [Decidable c] {a b : α} (h : ¬ c) : (if c then a else b) = b := if_neg h
theorem mapM_c {st : St} {x : Operand} {xs : List Operand} : (x :: xs).mapM (avOpd st) = match avOpd st x with
  | some a => match xs.mapM (avOpd st) with
    | some l => some (a :: l)
    | none => none
  | none => none := by
  rw [List.mapM_cons]
  cases avOpd st x with
  | none => rfl
  | some a => cases xs.mapM (avOpd st) <;> rfl
theorem mapM_n {st : St} : ([] : List Operand).mapM (avOpd st) = some [] := rfl
theorem og0 {o : Oper} {l : List Oper} : (o :: l)[0]? = some o := rfl
theorem og1 {o : Oper} {l : List Oper} {n : Nat} : (o :: l)[n + 1]? = l[n]? := rfl
theorem vg0 {a : AV} {l : List AV} : (a :: l)[0]? = some a := rfl
theorem vg1 {a : AV} {l : List AV} {n : Nat} : (a :: l)[n + 1]? = l[n]? := rfl
theorem vgn {n : Nat} : ([] : List AV)[n]? = none := rfl
theorem sg0 {a : Option (List AV)} {l : Store} : (a :: l : Store)[0]? = some a := rfl
theorem sg1 {a : Option (List AV)} {l : Store} {n : Nat} : (a :: l : Store)[n + 1]? = l[n]? := rfl
theorem sgn {n : Nat} : ([] : Store)[n]? = none := rfl
theorem window_all {cs : List AV} {n : Nat} (h : cs.length = n) : window cs 0 n = some cs := by
  unfold window
  rw [if_pos (by omega)]
  simp [← h]
theorem win_z {cs : List AV} : window cs 0 0 = some [] := by simp [window]
theorem win_s {a : AV} {cs : List AV} {n : Nat} : window (a :: cs) 0 (n + 1) = (window cs 0 n).map (a :: ·) := by
  unfold window
  by_cases h : 0 + n ≤ cs.length
  · rw [if_pos (by simp only [List.length_cons]; omega), if_pos h]; simp
  · rw [if_neg (by simp only [List.length_cons]; omega), if_neg h]; rfl
theorem win_o {a : AV} {cs : List AV} {off n : Nat} : window (a :: cs) (off + 1) n = window cs off n := by
  unfold window
  by_cases h : off + n ≤ cs.length
  · rw [if_pos (by simp only [List.length_cons]; omega), if_pos h]; simp
  · rw [if_neg (by simp only [List.length_cons]; omega), if_neg h]
theorem window_eq {cs : List AV} {off n : Nat} (h : off + n ≤ cs.length) : window cs off n = some ((cs.drop off).take n) := by
  unfold window
  rw [if_pos h]
theorem arr_get {α : Type} {l : List α} {i : Nat} : (l.toArray)[i]? = l[i]? := by simp

def boxK (E : Env) (f : FuncId) (n : Nat) (all : Array Oper) (o : Oper) (l : List Oper) (cls : List (Cls × Bool)) (k : List Item) (st : St) (Q : AExit → St → Prop) (x : Operand) : Md → Prop
  | .dflt => frK E f n all o l cls k st Q ((avOpd st x).map fun a => .v (.ip (cellsOf a)))
  | _ => arD E f n all l cls k st.tmps o.dst Q (aop E f o { st with tmps := maskL (o.looksAt all) 0 st.tmps })
def bslK (E : Env) (f : FuncId) (n : Nat) (all : Array Oper) (o : Oper) (l : List Oper) (cls : List (Cls × Bool)) (k : List Item) (st : St) (Q : AExit → St → Prop) (T : TypeId) (len : Nat) (parts : List (Nat × Operand)) : Md → Prop
  | .dflt => frK E f n all o l cls k st Q (match (parts.map (·.2)).mapM (avOpd st) with
      | some as => match abuildS E.P T len ((parts.map (·.1)).zip as) with
        | some (cs, n) => if cs.length = len * n then some (.v (.is cs len true)) else none
        | none => none
      | none => none)
  | _ => DT E f n all o l cls k st Q
def alcK (E : Env) (f : FuncId) (n : Nat) (all : Array Oper) (o : Oper) (l : List Oper) (cls : List (Cls × Bool)) (k : List Item) (st : St) (Q : AExit → St → Prop) (T : TypeId) : Md → Prop
  | .dflt => alK E f n all o l cls k st Q (azero E.P T)
  | _ => DT E f n all o l cls k st Q
theorem boxK_d {x : Operand} : boxK E f n all o l cls k st Q x .dflt = frK E f n all o l cls k st Q ((avOpd st x).map fun a => .v (.ip (cellsOf a))) := rfl
theorem bslK_d {T : TypeId} {len : Nat} {parts : List (Nat × Operand)} : bslK E f n all o l cls k st Q T len parts .dflt = frK E f n all o l cls k st Q (match (parts.map (·.2)).mapM (avOpd st) with
      | some as => match abuildS E.P T len ((parts.map (·.1)).zip as) with
        | some (cs, n) => if cs.length = len * n then some (.v (.is cs len true)) else none
        | none => none
      | none => none) := rfl
theorem alcK_d {T : TypeId} : alcK E f n all o l cls k st Q T .dflt = alK E f n all o l cls k st Q (azero E.P T) := rfl
theorem DT_boxK {T : TypeId} {x : Operand} {i : Nat} : DT E f n all ⟨some i, .box T x, ty, ps, ea, gd⟩ l cls k st Q = boxK E f n all ⟨some i, .box T x, ty, ps, ea, gd⟩ l cls k st Q x (E.md f i) := by
  cases hm : E.md f i with
  | dflt => exact DT_box hm
  | glob => exact full_eq rfl rfl (by simp only [afresh, aop.mdOf, hm]) rfl rfl
  | loc => exact full_eq rfl rfl (by simp only [afresh, aop.mdOf, hm]) rfl rfl
theorem DT_bslK {T : TypeId} {len : Nat} {parts : Array (Nat × Operand)} {i : Nat} : DT E f n all ⟨some i, .buildSlice T len parts, ty, ps, ea, gd⟩ l cls k st Q = bslK E f n all ⟨some i, .buildSlice T len parts, ty, ps, ea, gd⟩ l cls k st Q T len parts.toList (E.md f i) := by
  cases hm : E.md f i with
  | dflt => exact DT_buildSlice hm
  | glob => rfl
  | loc => rfl
theorem DT_alcK {T : TypeId} {i : Nat} : DT E f n all ⟨some i, .alloc T, ty, ps, ea, gd⟩ l cls k st Q = alcK E f n all ⟨some i, .alloc T, ty, ps, ea, gd⟩ l cls k st Q T (E.md f i) := by
  cases hm : E.md f i with
  | dflt => exact DT_alloc hm
  | glob => rfl
  | loc => rfl
theorem lkT_v {a : AV} : lkT (.v a) = false := rfl
theorem lkT_lp {i o : Nat} : lkT (.lp i o) = true := rfl
theorem dst_mk {op : Op} : (⟨d, op, ty, ps, ea, gd⟩ : Oper).dst = d := rfl
end

def spliceC (b : Bool) (cs : List AV) (off : Nat) (vs : List AV) : Option (List AV) := if b = true then (if off + vs.length ≤ cs.length then some (cs.take off ++ vs ++ cs.drop (off + vs.length)) else none) else none
theorem splice_eq {cs : List AV} {off : Nat} {vs : List AV} : splice cs off vs = spliceC (vs.all cellOk) cs off vs := by
  unfold splice spliceC
  by_cases h : vs.all cellOk = true <;> by_cases h2 : off + vs.length ≤ cs.length <;> simp [h, h2]
theorem spliceC_one {cs : List AV} {off : Nat} {v : AV} (h : off < cs.length) : spliceC true cs off [v] = some (cs.set off v) := by
  unfold spliceC
  rw [if_pos rfl, if_pos (by simp only [List.length_cons, List.length_nil]; omega)]
  congr 1
  rw [List.set_eq_take_append_cons_drop, if_pos h]
  simp
theorem spliceC_all {cs vs : List AV} (h : vs.length = cs.length) : spliceC true cs 0 vs = some vs := by
  unfold spliceC
  rw [if_pos rfl, if_pos (by omega)]
  simp [h]
theorem ok_int {k : IntKind} {n : Int} : cellOk (.sc (.int k n)) = true := rfl
theorem ok_bool {b : Bool} : cellOk (.sc (.bool b)) = true := rfl
theorem ok_str {b : ByteArray} : cellOk (.sc (.string b)) = true := rfl
theorem ok_nilf : cellOk (.sc .nilFunc) = true := rfl
theorem ok_nilp : cellOk (.sc (.pointer none)) = true := rfl
theorem ok_nils {a b : Nat} : cellOk (.sc (.slice none a b)) = true := rfl
theorem ok_fn {f : FuncId} {a b : List AV} : cellOk (.fn f a b) = true := rfl
theorem ok_ip {a : List AV} : cellOk (.ip a) = true := rfl
theorem ok_is {a : List AV} {l : Nat} {e : Bool} : cellOk (.is a l e) = true := rfl
theorem ok_gp {a b : Nat} : cellOk (.gp a b) = true := rfl
theorem ok_gs {a b l s : Nat} {c : Option Nat} : cellOk (.gs a b l s c) = true := rfl
theorem co_int {k : IntKind} {n : Int} : cellsOf (.sc (.int k n)) = [.sc (.int k n)] := rfl
theorem co_bool {b : Bool} : cellsOf (.sc (.bool b)) = [.sc (.bool b)] := rfl
theorem co_str {b : ByteArray} : cellsOf (.sc (.string b)) = [.sc (.string b)] := rfl
theorem co_nilf : cellsOf (.sc .nilFunc) = [.sc .nilFunc] := rfl
theorem co_nilp : cellsOf (.sc (.pointer none)) = [.sc (.pointer none)] := rfl
theorem co_nils {a b : Nat} : cellsOf (.sc (.slice none a b)) = [.sc (.slice none a b)] := rfl
theorem co_agg {l : List AV} : cellsOf (.agg l) = l := rfl
theorem co_fn {f : FuncId} {a b : List AV} : cellsOf (.fn f a b) = [.fn f a b] := rfl
theorem co_ip {a : List AV} : cellsOf (.ip a) = [.ip a] := rfl
theorem co_is {a : List AV} {l : Nat} {e : Bool} : cellsOf (.is a l e) = [.is a l e] := rfl
theorem co_gp {a b : Nat} : cellsOf (.gp a b) = [.gp a b] := rfl
theorem co_gs {a b l s : Nat} {c : Option Nat} : cellsOf (.gs a b l s c) = [.gs a b l s c] := rfl
theorem vs0 {a x : AV} {l : List AV} : (a :: l).set 0 x = x :: l := rfl
theorem vs1 {a x : AV} {l : List AV} {n : Nat} : (a :: l).set (n + 1) x = a :: l.set n x := rfl
theorem ss0 {a x : Option (List AV)} {l : Store} : (a :: l : Store).set 0 x = x :: l := rfl
theorem ss1 {a x : Option (List AV)} {l : Store} {n : Nat} : (a :: l : Store).set (n + 1) x = a :: List.set l n x := rfl
theorem some_eq {α : Type} {a b : α} : (some a = some b) = (a = b) := by simp

/-! Slices, by what they are -/
def ixS (sz : Nat) (t : TV) (m : Nat) : Option TV := match t with
  | .v (.is cs len _) => if m < len then some (.v (.ip (cs.drop (m * sz)))) else none
  | .v (.gs id off len _ _) => if m < len then some (.v (.gp id (off + m * sz))) else none
  | .ls i off len _ _ => if m < len then some (.lp i (off + m * sz)) else none
  | _ => none
def ixE (s : Option Nat) (t : TV) (m : Nat) : Option TV := match s with
  | some sz => ixS sz t m
  | none => none
def ixA (s : Option Nat) (len : Nat) (t : TV) (m : Nat) : Option TV := match s with
  | some sz => if m < len then addP t (m * sz) else none
  | none => none
def ixU (d : Option TypeDesc) (s : TypeId → Option Nat) (t : TV) (m : Nat) : Option TV := match d with
  | some (.slice e) => ixE (s e) t m
  | some (.array len e) => ixA (s e) len t m
  | _ => none
theorem aindex_eq {P : Program} {T : TypeId} {t : TV} {n : Int} : aindex P T t n = if n < 0 then none else ixU (P.underlying T) (szOf P) t n.toNat := by
  unfold aindex
  split
  · rfl
  · unfold ixU
    split <;> simp_all only
    · rename_i e _
      unfold ixE
      cases szOf P e with
      | none => rfl
      | some sz =>
        cases t with
        | v a => cases a <;> rfl
        | _ => rfl
    · rename_i len e _
      unfold ixA
      cases szOf P e <;> rfl
theorem ixU_s {e : TypeId} {s : TypeId → Option Nat} {t : TV} {m : Nat} : ixU (some (.slice e)) s t m = ixE (s e) t m := rfl
theorem ixU_a {e : TypeId} {len : Nat} {s : TypeId → Option Nat} {t : TV} {m : Nat} : ixU (some (.array len e)) s t m = ixA (s e) len t m := rfl
theorem ixE_some {sz : Nat} {t : TV} {m : Nat} : ixE (some sz) t m = ixS sz t m := rfl
theorem ixA_some {sz len : Nat} {t : TV} {m : Nat} : ixA (some sz) len t m = if m < len then addP t (m * sz) else none := rfl

def slS (sz : Nat) (t : TV) (lo hi mx : Option Int) : Option TV := match t with
      | .v (.sc (.slice none 0 0)) => match bounds 0 (some 0) lo hi mx with
        | some _ => some (.v (.sc (.slice none 0 0)))
        | none => none
      | .v (.is cs len ex) => match bounds len (if ex then some len else none) lo hi mx with
        | some (l, h, cap') => some (.v (.is ((cs.drop (l * sz)).take ((h - l) * sz)) (h - l) (cap' == some (h - l))))
        | none => none
      | .v (.gs id off len sz' cap) => match bounds len cap lo hi mx with
        | some (l, h, cap') => if sz' = sz then some (.v (.gs id (off + l * sz) (h - l) sz cap')) else none
        | none => none
      | .ls i off len sz' cap => match bounds len cap lo hi mx with
        | some (l, h, cap') => if sz' = sz then some (.ls i (off + l * sz) (h - l) sz cap') else none
        | none => none
      | _ => none
def slE (s : Option Nat) (t : TV) (lo hi mx : Option Int) : Option TV := match s with
  | some sz => slS sz t lo hi mx
  | none => none
def slT (t : TV) (lo hi mx : Option Int) : Option TV := match t with
    | .v (.sc (.string s)) => match bounds s.size none lo hi none, mx with
      | some (l, h, _), none => some (.v (.sc (.string (s.extract l h))))
      | _, _ => none
    | _ => none
def slU (d : Option TypeDesc) (s : TypeId → Option Nat) (t : TV) (lo hi mx : Option Int) : Option TV := match d with
  | some (.slice e) => slE (s e) t lo hi mx
  | some .string => slT t lo hi mx
  | _ => none
theorem aslice_eq {P : Program} {T : TypeId} {t : TV} {lo hi mx : Option Int} : aslice P T t lo hi mx = slU (P.underlying T) (szOf P) t lo hi mx := by
  unfold aslice slU
  split <;> simp_all only
  · rename_i e _
    unfold slE
    cases szOf P e <;> rfl
  · rfl
theorem slU_s {e : TypeId} {s : TypeId → Option Nat} {t : TV} {lo hi mx : Option Int} : slU (some (.slice e)) s t lo hi mx = slE (s e) t lo hi mx := rfl
theorem slE_some {sz : Nat} {t : TV} {lo hi mx : Option Int} : slE (some sz) t lo hi mx = slS sz t lo hi mx := rfl

section
variable {σ : Store} {sz : Nat} {v : AV} {cs : List AV} {len : Nat}
theorem Sl.sl (h : Sl σ sz v cs len) : sliceLen (.v v) = some len := by cases h <;> rfl
theorem Sl.ix (h : Sl σ sz v cs len) (m : Nat) (h1 : m < len) : ixS sz (.v v) m = some (.v (elemP sz v m)) := by
  cases h with
  | nil => omega
  | imm h => simp only [ixS, elemP, if_pos h1]
  | glob h2 h3 => simp only [ixS, elemP, if_pos h1]
theorem Sl.from (h : Sl σ sz v cs len) (l : Int) (h0 : 0 ≤ l) (h1 : l ≤ len) : slS sz (.v v) (some l) none none = some (.v (subP sz v l.toNat len)) := by
  have hc : 0 ≤ l ∧ (0 : Int) ≤ (len : Int) ∧ l.toNat ≤ ((len : Int)).toNat ∧ ((len : Int)).toNat ≤ len := by omega
  cases h with
  | nil =>
    have : l = 0 := by omega
    subst this
    rfl
  | imm h => simp only [slS, bounds, Option.getD_some, Option.getD_none, if_pos hc]; rfl
  | glob h2 h3 => simp only [slS, bounds, Option.getD_some, Option.getD_none, if_pos hc, if_true]; rfl
theorem Sl.to (h : Sl σ sz v cs len) (m : Int) (h0 : 0 ≤ m) (h1 : m ≤ len) : slS sz (.v v) none (some m) none = some (.v (subP sz v 0 m.toNat)) := by
  have hc : (0 : Int) ≤ 0 ∧ 0 ≤ m ∧ (0 : Int).toNat ≤ m.toNat ∧ m.toNat ≤ len := by omega
  cases h with
  | nil =>
    have : m = 0 := by omega
    subst this
    rfl
  | imm h => simp only [slS, bounds, Option.getD_some, Option.getD_none, if_pos hc]; rfl
  | glob h2 h3 => simp only [slS, bounds, Option.getD_some, Option.getD_none, if_pos hc, if_true]; rfl
theorem Sl.drop (h : Sl σ sz v cs len) (l : Nat) (h1 : l ≤ len) : Sl σ sz (subP sz v l len) (cs.drop (l * sz)) (len - l) := by
  have := h.sub l len h1 (Nat.le_refl _)
  have hl := h.length
  have e : (cs.drop (l * sz)).take ((len - l) * sz) = cs.drop (l * sz) := by
    apply List.take_of_length_le
    rw [List.length_drop, hl, ← Nat.sub_mul]
    exact Nat.le_refl _
  rw [e] at this
  exact this
theorem Sl.cases (h : Sl σ sz v cs len) : (v = .sc (.slice none 0 0) ∧ cs = [] ∧ len = 0) ∨ (∃ ex, v = .is cs len ex ∧ cs.length = len * sz) ∨ (∃ (id off : Nat) (cap : Option Nat) (all : List AV), v = .gs id off len sz cap ∧ σ[id]? = some (some all) ∧ window all off (len * sz) = some cs) := by
  cases h with
  | nil => exact .inl ⟨rfl, rfl, rfl⟩
  | imm h => exact .inr (.inl ⟨_, rfl, h⟩)
  | glob h2 h3 => exact .inr (.inr ⟨_, _, _, _, rfl, h2, h3⟩)
end

theorem slen_nil {a : Option Addr} {n c : Nat} : sliceLen (.v (.sc (.slice a n c))) = some n := rfl
theorem slen_is {cs : List AV} {len : Nat} {ex : Bool} : sliceLen (.v (.is cs len ex)) = some len := rfl
theorem slen_gs {id off len sz : Nat} {cap : Option Nat} : sliceLen (.v (.gs id off len sz cap)) = some len := rfl
theorem slen_ls {id off len sz : Nat} {cap : Option Nat} : sliceLen (.ls id off len sz cap) = some len := rfl
theorem ixS_is {sz m len : Nat} {cs : List AV} {ex : Bool} : ixS sz (.v (.is cs len ex)) m = if m < len then some (.v (.ip (cs.drop (m * sz)))) else none := rfl
theorem ixS_gs {sz m id off len s : Nat} {cap : Option Nat} : ixS sz (.v (.gs id off len s cap)) m = if m < len then some (.v (.gp id (off + m * sz))) else none := rfl
theorem ixS_ls {sz m id off len s : Nat} {cap : Option Nat} : ixS sz (.ls id off len s cap) m = if m < len then some (.lp id (off + m * sz)) else none := rfl
theorem addP_ip {cs : List AV} {n : Nat} : addP (.v (.ip cs)) n = some (.v (.ip (cs.drop n))) := rfl
theorem addP_gp {id off n : Nat} : addP (.v (.gp id off)) n = some (.v (.gp id (off + n))) := rfl
theorem addP_lp {id off n : Nat} : addP (.lp id off) n = some (.lp id (off + n)) := rfl
theorem rdS_nil {st : St} {sz : Nat} : rdS st sz (.v (.sc (.slice none 0 0))) = some ([], 0) := rfl
theorem rdS_is {st : St} {sz len : Nat} {cs : List AV} {ex : Bool} : rdS st sz (.v (.is cs len ex)) = if cs.length = len * sz then some (cs, len) else none := rfl
theorem rdS_gs {σ loc : Store} {ts : List TV} {sz id off len s : Nat} {cap : Option Nat} : rdS ⟨σ, loc, ts⟩ sz (.v (.gs id off len s cap)) = if s = sz then (rangeAt σ[id]? off (len * sz)).map fun c => (c, len) else none := by
  simp only [rdS]
  split
  · cases hs : σ[id]? with
    | none => rfl
    | some o => cases o <;> rfl
  · rfl
theorem rdS_ls {σ loc : Store} {ts : List TV} {sz id off len s : Nat} {cap : Option Nat} : rdS ⟨σ, loc, ts⟩ sz (.ls id off len s cap) = if s = sz then (rangeAt loc[id]? off (len * sz)).map fun c => (c, len) else none := by
  simp only [rdS]
  split
  · cases hs : loc[id]? with
    | none => rfl
    | some o => cases o <;> rfl
  · rfl

/-! Values in short -/
abbrev I (n : Int) : AV := .sc (.int .i64 n)
abbrev U (n : Int) : AV := .sc (.int .u8 n)
abbrev B (b : Bool) : AV := .sc (.bool b)
abbrev nilS : AV := .sc (.slice none 0 0)
theorem I_eq {n : Int} : I n = .sc (.int .i64 n) := rfl
theorem U_eq {n : Int} : U n = .sc (.int .u8 n) := rfl
theorem B_eq {b : Bool} : B b = .sc (.bool b) := rfl
theorem nilS_eq : nilS = .sc (.slice none 0 0) := rfl
end Go.Abs
