/- An abstract reading of the program, and what it answers. By an AI agent. -/
import Derived.Test.YtkbgehhnimpleaaGreatDoorAbsWp
set_option linter.all false
namespace Go.Abs

/-! ### Equations by which a body is gone through -/

section
variable {E : Env} {f : FuncId} {st : St} {d : Option Tmp} {ty : TypeId} {ps : String} {ea : Array Edge} {gd : Option (Nat × Bool)}

theorem put_some {σ loc : Store} {ts : List TV} {i : Nat} {t : TV} : St.put ⟨σ, loc, ts⟩ (some i) t = ⟨σ, loc, ts.set i t⟩ := rfl
theorem put_none {σ loc : Store} {ts : List TV} {t : TV} : St.put ⟨σ, loc, ts⟩ none t = ⟨σ, loc, ts⟩ := rfl
theorem opd_tmp {σ loc : Store} {ts : List TV} {i : Nat} : opd ⟨σ, loc, ts⟩ (.tmp i) = ts[i]? := rfl
theorem opd_const {v : Value} : opd st (.const v) = some (.v (ofV v)) := rfl
theorem opd_func {F : FuncId} : opd st (.func F) = some (.v (.fn F [] [])) := rfl
theorem ofV_int {k : IntKind} {n : Int} : ofV (.int k n) = .sc (.int k n) := rfl
theorem ofV_bool {b : Bool} : ofV (.bool b) = .sc (.bool b) := rfl
theorem ofV_str {s : ByteArray} : ofV (.string s) = .sc (.string s) := rfl
theorem ofV_nilp : ofV (.pointer none) = .sc (.pointer none) := rfl
theorem ofV_nils {a b : Nat} : ofV (.slice none a b) = .sc (.slice none a b) := rfl
theorem ofV_nilf : ofV .nilFunc = .sc .nilFunc := rfl
theorem ofV_agg {xs : Array Value} : ofV (.agg xs) = .agg (xs.toList.map .sc) := rfl
theorem ofV_tup {xs : Array Value} : ofV (.tuple xs) = .tup (xs.toList.map .sc) := rfl

theorem avOf_v {a : AV} : avOf (.v a) = some a := rfl
theorem avOf_lp {i o : Nat} : avOf (.lp i o) = none := rfl
theorem avOf_ls {i o l s : Nat} {c : Option Nat} : avOf (.ls i o l s c) = none := rfl

/-! Slots -/
theorem tg0 {a : TV} {l : List TV} : (a :: l)[0]? = some a := rfl
theorem tg1 {a b : TV} {l : List TV} : (a :: b :: l)[1]? = some b := rfl
theorem tg2 {a b c : TV} {l : List TV} : (a :: b :: c :: l)[2]? = some c := rfl
theorem tg3 {a b c d : TV} {l : List TV} : (a :: b :: c :: d :: l)[3]? = some d := rfl
theorem tg4 {a b c d e : TV} {l : List TV} : (a :: b :: c :: d :: e :: l)[4]? = some e := rfl
theorem tg5 {a b c d e f : TV} {l : List TV} : (a :: b :: c :: d :: e :: f :: l)[5]? = some f := rfl
theorem tg6 {a b c d e f g : TV} {l : List TV} : (a :: b :: c :: d :: e :: f :: g :: l)[6]? = some g := rfl
theorem tg7 {a b c d e f g h : TV} {l : List TV} : (a :: b :: c :: d :: e :: f :: g :: h :: l)[7]? = some h := rfl
theorem tg8 {a b c d e f g h : TV} {l : List TV} {n : Nat} : (a :: b :: c :: d :: e :: f :: g :: h :: l)[n + 8]? = l[n]? := rfl
theorem ts0 {a x : TV} {l : List TV} : (a :: l).set 0 x = x :: l := rfl
theorem ts1 {a b x : TV} {l : List TV} : (a :: b :: l).set 1 x = a :: x :: l := rfl
theorem ts2 {a b c x : TV} {l : List TV} : (a :: b :: c :: l).set 2 x = a :: b :: x :: l := rfl
theorem ts3 {a b c d x : TV} {l : List TV} : (a :: b :: c :: d :: l).set 3 x = a :: b :: c :: x :: l := rfl
theorem ts4 {a b c d e x : TV} {l : List TV} : (a :: b :: c :: d :: e :: l).set 4 x = a :: b :: c :: d :: x :: l := rfl
theorem ts5 {a b c d e f x : TV} {l : List TV} : (a :: b :: c :: d :: e :: f :: l).set 5 x = a :: b :: c :: d :: e :: x :: l := rfl
theorem ts6 {a b c d e f g x : TV} {l : List TV} : (a :: b :: c :: d :: e :: f :: g :: l).set 6 x = a :: b :: c :: d :: e :: f :: x :: l := rfl
theorem ts7 {a b c d e f g h x : TV} {l : List TV} : (a :: b :: c :: d :: e :: f :: g :: h :: l).set 7 x = a :: b :: c :: d :: e :: f :: g :: x :: l := rfl
theorem ts8 {a b c d e f g h x : TV} {l : List TV} {n : Nat} : (a :: b :: c :: d :: e :: f :: g :: h :: l).set (n + 8) x = a :: b :: c :: d :: e :: f :: g :: h :: l.set n x := rfl

/-! Operations -/
theorem aop_move {x : Operand} : aop E f ⟨d, .move x, ty, ps, ea, gd⟩ st = (opd st x).map (.val · st) := rfl
theorem aop_assign {x : Operand} : aop E f ⟨d, .assign x, ty, ps, ea, gd⟩ st = (opd st x).map (.val · st) := rfl
def pickB (st : St) (x y : Operand) : Option TV → Option TV
  | some (.v (.sc (.bool b))) => opd st (if b then x else y)
  | _ => none
theorem aop_pick {c x y : Operand} : aop E f ⟨d, .pick c x y, ty, ps, ea, gd⟩ st = (pickB st x y (opd st c)).map (.val · st) := by
  simp only [aop, pickB]
  split
  · rename_i h; rw [h]
  · rename_i h
    split
    · rename_i b h2; exact absurd h2 (h b)
    · rfl
theorem pickB_t {x y : Operand} : pickB st x y (some (.v (.sc (.bool true)))) = opd st x := rfl
theorem pickB_f {x y : Operand} : pickB st x y (some (.v (.sc (.bool false)))) = opd st y := rfl
theorem pickB_dt {x y : Operand} {p : Prop} [Decidable p] (h : p) : pickB st x y (some (.v (.sc (.bool (decide p))))) = opd st x := by simp [pickB, h]
theorem pickB_df {x y : Operand} {p : Prop} [Decidable p] (h : ¬ p) : pickB st x y (some (.v (.sc (.bool (decide p))))) = opd st y := by simp [pickB, h]

theorem aop_alloc {T : TypeId} {i : Nat} : aop E f ⟨some i, .alloc T, ty, ps, ea, gd⟩ st = (azero E.P T).map fun cs => .val (mkP (E.md f i) false st cs).1 (mkP (E.md f i) false st cs).2 := rfl
theorem aop_box {T : TypeId} {x : Operand} {i : Nat} : aop E f ⟨some i, .box T x, ty, ps, ea, gd⟩ st = (frzO st x).map fun p => .val (mkP (E.md f i) true p.2 (cellsOf p.1)).1 (mkP (E.md f i) true p.2 (cellsOf p.1)).2 := rfl
theorem aop_build {T : TypeId} {parts : Array (Nat × Operand)} : aop E f ⟨d, .build T parts, ty, ps, ea, gd⟩ st = match frzL st (parts.toList.map (·.2)) with
    | some (as, st1) => (abuild E.P T ((parts.toList.map (·.1)).zip as)).map fun cs => .val (.v (.agg cs)) st1
    | none => none := rfl
theorem aop_buildSlice {T : TypeId} {len : Nat} {parts : Array (Nat × Operand)} {i : Nat} : aop E f ⟨some i, .buildSlice T len parts, ty, ps, ea, gd⟩ st = match frzL st (parts.toList.map (·.2)) with
    | some (as, st1) => match abuildS E.P T len ((parts.toList.map (·.1)).zip as) with
      | some (cs, n) => if cs.length = len * n then some (.val (mkS (E.md f i) st1 cs len n).1 (mkS (E.md f i) st1 cs len n).2) else none
      | none => none
    | none => none := rfl
theorem aop_load {T : TypeId} {x : Operand} : aop E f ⟨d, .load T x, ty, ps, ea, gd⟩ st = match opd st x with
    | some t => (ld E.P st T t).map fun a => .val (.v a) st
    | none => none := rfl
def storeR (E : Env) (T : TypeId) (p : Operand) : Option (AV × St) → Option AR
  | some (a, st1) => match opd st1 p with
      | some t => if szOf E.P T = some (cellsOf a).length then (wr st1 t (cellsOf a)).map .skip else none
      | none => none
  | none => none
theorem aop_store {T : TypeId} {p x : Operand} : aop E f ⟨d, .store T p x, ty, ps, ea, gd⟩ st = storeR E T p (frzO st x) := by
  simp only [aop]
  cases frzO st x with
  | none => rfl
  | some p => rfl
theorem storeR_some {T : TypeId} {p : Operand} {a : AV} {st1 : St} : storeR E T p (some (a, st1)) = match opd st1 p with
      | some t => if szOf E.P T = some (cellsOf a).length then (wr st1 t (cellsOf a)).map .skip else none
      | none => none := rfl
theorem aop_nilCheck {x : Operand} : aop E f ⟨d, .nilCheck x, ty, ps, ea, gd⟩ st = match opd st x with
    | some t => if sure t then some (.val t st) else none
    | none => none := rfl
theorem aop_binOp {op : BinOp} {T yt : TypeId} {x y : Operand} : aop E f ⟨d, .binOp op T x y yt, ty, ps, ea, gd⟩ st = match avOpd st x, avOpd st y with
    | some a, some b => (abin E.P op T a b).map fun r => .val (.v r) st
    | _, _ => none := rfl
theorem aop_unOp {op : UnOp} {T : TypeId} {x : Operand} : aop E f ⟨d, .unOp op T x, ty, ps, ea, gd⟩ st = match avOpd st x with
    | some a => (aun op a).map fun r => .val (.v r) st
    | none => none := rfl
theorem aop_convert {s t : TypeId} {x : Operand} : aop E f ⟨d, .convert s t x, ty, ps, ea, gd⟩ st = match avOpd st x with
    | some a => (acvt E.P s t a).map fun r => .val (.v r) st
    | none => none := rfl
theorem aop_makeFunc {F : FuncId} {first caps : Array Operand} : aop E f ⟨d, .makeFunc (.func F) first caps, ty, ps, ea, gd⟩ st = match frzL st first.toList with
    | some (fs, st1) => match frzL st1 caps.toList with
      | some (cs, st2) => some (.val (.v (.fn F fs cs)) st2)
      | none => none
    | none => none := rfl
theorem aop_slice {T : TypeId} {x : Operand} {lo hi mx : Option Operand} : aop E f ⟨d, .slice T x lo hi mx, ty, ps, ea, gd⟩ st = match opd st x, optIdx st lo, optIdx st hi, optIdx st mx with
    | some t, some l, some h, some m => (aslice E.P T t l h m).map (.val · st)
    | _, _, _, _ => none := rfl
theorem aop_fieldAddr {T : TypeId} {x : Operand} {i : Nat} : aop E f ⟨d, .fieldAddr T x i, ty, ps, ea, gd⟩ st = match opd st x with
    | some t => (afield E.P T t i).map (.val · st)
    | none => none := rfl
theorem aop_field {T : TypeId} {x : Operand} {i : Nat} : aop E f ⟨d, .field T x i, ty, ps, ea, gd⟩ st = match avOpd st x with
    | some a => (afieldV E.P T a i).map fun r => .val (.v r) st
    | none => none := rfl
theorem aop_indexAddr {T : TypeId} {x i : Operand} : aop E f ⟨d, .indexAddr T x i, ty, ps, ea, gd⟩ st = match opd st x, intOpd st i with
    | some t, some (_, n) => (aindex E.P T t n).map (.val · st)
    | _, _ => none := rfl
theorem aop_index {T : TypeId} {x i : Operand} : aop E f ⟨d, .index T x i, ty, ps, ea, gd⟩ st = match avOpd st x, intOpd st i with
    | some a, some (_, n) => (aindexV E.P T a n).map fun r => .val (.v r) st
    | _, _ => none := rfl
theorem aop_extract {x : Operand} {i : Nat} : aop E f ⟨d, .extract x i, ty, ps, ea, gd⟩ st = match avOpd st x with
    | some a => (aextract a i).map fun r => .val (.v r) st
    | none => none := rfl
theorem aop_makeSlice {T : TypeId} {l c : Operand} {i : Nat} : aop E f ⟨some i, .makeSlice T l c, ty, ps, ea, gd⟩ st = match intOpd st l, intOpd st c with
    | some (_, n), some (_, k) => (amake E.P (E.md f i) st T n k).map fun p => .val p.1 p.2
    | _, _ => none := rfl
theorem aop_builtin {b : Builtin} {args : Array Operand} {ts : Array TypeId} {i : Nat} : aop E f ⟨some i, .call ⟨.builtin b, args, ts⟩, ty, ps, ea, gd⟩ st = abuiltin E (E.md f i) b args.toList ts.toList st := rfl
def callR (E : Env) (args : List Operand) (st : St) : Option AV → Option AR
  | some (.fn F first caps) => match frzL st args with
        | some (args, st1) => acall E F (first ++ args ++ caps) st1
        | none => none
  | _ => none
theorem aop_call {x : Operand} {args : Array Operand} {ts : Array TypeId} : aop E f ⟨d, .call ⟨.value x, args, ts⟩, ty, ps, ea, gd⟩ st = callR E args.toList st (avOpd st x) := by
  simp only [aop]
  cases avOpd st x with
  | none => rfl
  | some a => cases a <;> rfl
theorem callR_fn {args : List Operand} {F : FuncId} {first caps : List AV} : callR E args st (some (.fn F first caps)) = match frzL st args with
        | some (args, st1) => acall E F (first ++ args ++ caps) st1
        | none => none := rfl

/-! New blocks -/
theorem mkP_glob {b : Bool} {σ loc : Store} {ts : List TV} {cs : List AV} : mkP .glob b ⟨σ, loc, ts⟩ cs = (.v (.gp σ.length 0), ⟨σ ++ [some cs], loc, ts⟩) := rfl
theorem mkP_dt {cs : List AV} : mkP .dflt true st cs = (.v (.ip cs), st) := rfl
theorem mkP_df {σ loc : Store} {ts : List TV} {cs : List AV} : mkP .dflt false ⟨σ, loc, ts⟩ cs = (.lp loc.length 0, ⟨σ, loc ++ [some cs], ts⟩) := rfl
theorem mkP_loc {b : Bool} {σ loc : Store} {ts : List TV} {cs : List AV} : mkP .loc b ⟨σ, loc, ts⟩ cs = (.lp loc.length 0, ⟨σ, loc ++ [some cs], ts⟩) := by cases b <;> rfl
theorem mkS_glob {σ loc : Store} {ts : List TV} {cs : List AV} {len sz : Nat} : mkS .glob ⟨σ, loc, ts⟩ cs len sz = (.v (.gs σ.length 0 len sz (some len)), ⟨σ ++ [some cs], loc, ts⟩) := rfl
theorem mkS_dflt {cs : List AV} {len sz : Nat} : mkS .dflt st cs len sz = (.v (.is cs len true), st) := rfl
theorem mkS_loc {σ loc : Store} {ts : List TV} {cs : List AV} {len sz : Nat} : mkS .loc ⟨σ, loc, ts⟩ cs len sz = (.ls loc.length 0 len sz (some len), ⟨σ, loc ++ [some cs], ts⟩) := rfl
theorem mkA_glob {σ loc : Store} {ts : List TV} {cs : List AV} {len sz : Nat} : mkA .glob ⟨σ, loc, ts⟩ cs len sz = (.v (.gs σ.length 0 len sz none), ⟨σ ++ [some cs], loc, ts⟩) := rfl
theorem mkA_dflt {σ loc : Store} {ts : List TV} {cs : List AV} {len sz : Nat} : mkA .dflt ⟨σ, loc, ts⟩ cs len sz = (.ls loc.length 0 len sz none, ⟨σ, loc ++ [some cs], ts⟩) := rfl
theorem mkA_loc {σ loc : Store} {ts : List TV} {cs : List AV} {len sz : Nat} : mkA .loc ⟨σ, loc, ts⟩ cs len sz = (.ls loc.length 0 len sz none, ⟨σ, loc ++ [some cs], ts⟩) := rfl

/-! Cells -/
def cellAt : Option (Option (List AV)) → Nat → Option AV
  | some (some cs), off => cs[off]?
  | _, _ => none
def rangeAt : Option (Option (List AV)) → Nat → Nat → Option (List AV)
  | some (some cs), off, n => window cs off n
  | _, _, _ => none
theorem cellAt_some {cs : List AV} {off : Nat} : cellAt (some (some cs)) off = cs[off]? := rfl
theorem rangeAt_some {cs : List AV} {off n : Nat} : rangeAt (some (some cs)) off n = window cs off n := rfl

theorem window1 {cs : List AV} {off : Nat} : (window cs off 1).bind (·.head?) = cs[off]? := by
  unfold window
  split
  · rename_i h
    have : off < cs.length := by omega
    rw [List.getElem?_eq_getElem this]
    simp only [Option.bind]
    rw [List.drop_eq_getElem_cons this]
    rfl
  · rename_i h
    rw [List.getElem?_eq_none (by omega)]
    rfl

theorem ld_ip1 {P : Program} {T : TypeId} {cs : List AV} (h : isAggB P T = some false) : ld P st T (.v (.ip cs)) = cs[0]? := by
  simp only [ld, h, rd, window1]
theorem ld_gp1 {P : Program} {T : TypeId} {id off : Nat} {σ loc : Store} {ts : List TV} (h : isAggB P T = some false) : ld P ⟨σ, loc, ts⟩ T (.v (.gp id off)) = cellAt σ[id]? off := by
  simp only [ld, h, rd]
  cases hs : σ[id]? with
  | none => rfl
  | some o => cases o with
    | none => rfl
    | some cs => simp only [window1, cellAt]
theorem ld_lp1 {P : Program} {T : TypeId} {i off : Nat} {σ loc : Store} {ts : List TV} (h : isAggB P T = some false) : ld P ⟨σ, loc, ts⟩ T (.lp i off) = cellAt loc[i]? off := by
  simp only [ld, h, rd]
  cases hs : loc[i]? with
  | none => rfl
  | some o => cases o with
    | none => rfl
    | some cs => simp only [window1, cellAt]
theorem ld_ipn {P : Program} {T : TypeId} {cs : List AV} {m : Nat} (h : isAggB P T = some true) (hs : szOf P T = some m) : ld P st T (.v (.ip cs)) = (window cs 0 m).map .agg := by
  simp only [ld, h, hs, rd]
theorem ld_gpn {P : Program} {T : TypeId} {id off m : Nat} {σ loc : Store} {ts : List TV} (h : isAggB P T = some true) (hs : szOf P T = some m) : ld P ⟨σ, loc, ts⟩ T (.v (.gp id off)) = (rangeAt σ[id]? off m).map .agg := by
  simp only [ld, h, hs, rd]
  cases hs : σ[id]? with
  | none => rfl
  | some o => cases o <;> rfl
theorem ld_lpn {P : Program} {T : TypeId} {i off m : Nat} {σ loc : Store} {ts : List TV} (h : isAggB P T = some true) (hs : szOf P T = some m) : ld P ⟨σ, loc, ts⟩ T (.lp i off) = (rangeAt loc[i]? off m).map .agg := by
  simp only [ld, h, hs, rd]
  cases hs : loc[i]? with
  | none => rfl
  | some o => cases o <;> rfl

/-- A reading, by what its type is. -/
def ldV (g : Option Bool) (s : Option Nat) (one : Option AV) (many : Nat → Option (List AV)) : Option AV := match g with
  | some true => match s with
    | some n => (many n).map .agg
    | none => none
  | some false => one
  | none => none
theorem ldV_f {s : Option Nat} {one : Option AV} {many : Nat → Option (List AV)} : ldV (some false) s one many = one := rfl
theorem ldV_t {n : Nat} {one : Option AV} {many : Nat → Option (List AV)} : ldV (some true) (some n) one many = (many n).map .agg := rfl
theorem ld_ip {P : Program} {T : TypeId} {cs : List AV} : ld P st T (.v (.ip cs)) = ldV (isAggB P T) (szOf P T) cs[0]? (window cs 0) := by
  cases h : isAggB P T with
  | none => simp only [ld, h, ldV]
  | some b =>
    cases b with
    | false => rw [ld_ip1 h]; rfl
    | true =>
      cases hs : szOf P T with
      | none => simp only [ld, h, hs, ldV]
      | some m => rw [ld_ipn h hs]; rfl
theorem ld_gp {P : Program} {T : TypeId} {id off : Nat} {σ loc : Store} {ts : List TV} : ld P ⟨σ, loc, ts⟩ T (.v (.gp id off)) = ldV (isAggB P T) (szOf P T) (cellAt σ[id]? off) (rangeAt σ[id]? off) := by
  cases h : isAggB P T with
  | none => simp only [ld, h, ldV]
  | some b =>
    cases b with
    | false => rw [ld_gp1 h]; rfl
    | true =>
      cases hs : szOf P T with
      | none => simp only [ld, h, hs, ldV]
      | some m => rw [ld_gpn h hs]; rfl
theorem ld_lp {P : Program} {T : TypeId} {i off : Nat} {σ loc : Store} {ts : List TV} : ld P ⟨σ, loc, ts⟩ T (.lp i off) = ldV (isAggB P T) (szOf P T) (cellAt loc[i]? off) (rangeAt loc[i]? off) := by
  cases h : isAggB P T with
  | none => simp only [ld, h, ldV]
  | some b =>
    cases b with
    | false => rw [ld_lp1 h]; rfl
    | true =>
      cases hs : szOf P T with
      | none => simp only [ld, h, hs, ldV]
      | some m => rw [ld_lpn h hs]; rfl
theorem cellAt_none {off : Nat} : cellAt none off = none := rfl
theorem cellAt_dead {off : Nat} : cellAt (some none) off = none := rfl
theorem rangeAt_none {off m : Nat} : rangeAt none off m = none := rfl
theorem rangeAt_dead {off m : Nat} : rangeAt (some none) off m = none := rfl

def spliceAt : Option (Option (List AV)) → Nat → List AV → Option (List AV)
  | some (some cs), off, vs => splice cs off vs
  | _, _, _ => none
theorem spliceAt_some {cs vs : List AV} {off : Nat} : spliceAt (some (some cs)) off vs = splice cs off vs := rfl
theorem wr_gp {σ loc : Store} {ts : List TV} {id off : Nat} {vs : List AV} : wr ⟨σ, loc, ts⟩ (.v (.gp id off)) vs = (spliceAt σ[id]? off vs).map fun cs' => ⟨σ.set id (some cs'), loc, ts⟩ := by
  simp only [wr]
  cases hs : σ[id]? with
  | none => rfl
  | some o => cases o <;> rfl
theorem wr_lp {σ loc : Store} {ts : List TV} {id off : Nat} {vs : List AV} : wr ⟨σ, loc, ts⟩ (.lp id off) vs = (spliceAt loc[id]? off vs).map fun cs' => ⟨σ, loc.set id (some cs'), ts⟩ := by
  simp only [wr]
  cases hs : loc[id]? with
  | none => rfl
  | some o => cases o <;> rfl
theorem splice1 {cs : List AV} {off : Nat} {v : AV} (h : off < cs.length) (hv : cellOk v = true) : splice cs off [v] = some (cs.set off v) := by
  unfold splice
  rw [if_pos ⟨by simp only [List.length_cons, List.length_nil]; omega, by simp [hv]⟩]
  congr 1
  rw [List.set_eq_take_append_cons_drop, if_pos h]
  simp
theorem splice_all {cs vs : List AV} (h : vs.length = cs.length) (hv : vs.all cellOk = true) : splice cs 0 vs = some vs := by
  unfold splice
  rw [if_pos ⟨by omega, hv⟩]
  simp [h]

/-! Binary operations -/
section
variable {P : Program} {T : TypeId} {k : IntKind} {a b : Int}
theorem bin_add : abin P .add T (.sc (.int k a)) (.sc (.int k b)) = some (.sc (.int k (k.wrap (a + b)))) := by simp [abin, pbin]
theorem bin_sub : abin P .sub T (.sc (.int k a)) (.sc (.int k b)) = some (.sc (.int k (k.wrap (a - b)))) := by simp [abin, pbin]
theorem bin_mul : abin P .mul T (.sc (.int k a)) (.sc (.int k b)) = some (.sc (.int k (k.wrap (a * b)))) := by simp [abin, pbin]
theorem bin_quo (h : ¬ b = 0) : abin P .quo T (.sc (.int k a)) (.sc (.int k b)) = some (.sc (.int k (k.wrap (a.tdiv b)))) := by simp [abin, pbin, h]
theorem bin_rem (h : ¬ b = 0) : abin P .rem T (.sc (.int k a)) (.sc (.int k b)) = some (.sc (.int k (a.tmod b))) := by simp [abin, pbin, h]
theorem bin_and : abin P .and T (.sc (.int k a)) (.sc (.int k b)) = some (.sc (.int k (k.wrap (BitVec.ofInt k.bits a &&& BitVec.ofInt k.bits b).toNat))) := by simp [abin, pbin]
theorem bin_or : abin P .or T (.sc (.int k a)) (.sc (.int k b)) = some (.sc (.int k (k.wrap (BitVec.ofInt k.bits a ||| BitVec.ofInt k.bits b).toNat))) := by simp [abin, pbin]
theorem bin_xor : abin P .xor T (.sc (.int k a)) (.sc (.int k b)) = some (.sc (.int k (k.wrap (BitVec.ofInt k.bits a ^^^ BitVec.ofInt k.bits b).toNat))) := by simp [abin, pbin]
theorem bin_andNot : abin P .andNot T (.sc (.int k a)) (.sc (.int k b)) = some (.sc (.int k (k.wrap (BitVec.ofInt k.bits a &&& ~~~ BitVec.ofInt k.bits b).toNat))) := by simp [abin, pbin]
theorem bin_shl {k' : IntKind} (h : ¬ b < 0) : abin P .shl T (.sc (.int k a)) (.sc (.int k' b)) = some (.sc (.int k (k.wrap (a * 2 ^ (min b.toNat k.bits))))) := by simp [abin, pbin, h]
theorem bin_shr {k' : IntKind} (h : ¬ b < 0) : abin P .shr T (.sc (.int k a)) (.sc (.int k' b)) = some (.sc (.int k (a.fdiv (2 ^ (min b.toNat k.bits))))) := by simp [abin, pbin, h]
theorem bin_eql : abin P .eql T (.sc (.int k a)) (.sc (.int k b)) = some (.sc (.bool (decide (a = b)))) := by simp [abin, pbin]; rfl
theorem bin_neq : abin P .neq T (.sc (.int k a)) (.sc (.int k b)) = some (.sc (.bool (decide (a ≠ b)))) := by
  simp only [abin, pbin, if_true, Option.map_some, Option.some.injEq, AV.sc.injEq, Value.bool.injEq]
  by_cases h : a = b <;> simp [h]
theorem bin_lss : abin P .lss T (.sc (.int k a)) (.sc (.int k b)) = some (.sc (.bool (decide (a < b)))) := by simp [abin, pbin]
theorem bin_leq : abin P .leq T (.sc (.int k a)) (.sc (.int k b)) = some (.sc (.bool (decide (a ≤ b)))) := by simp [abin, pbin]
theorem bin_gtr : abin P .gtr T (.sc (.int k a)) (.sc (.int k b)) = some (.sc (.bool (decide (b < a)))) := by simp [abin, pbin]
theorem bin_geq : abin P .geq T (.sc (.int k a)) (.sc (.int k b)) = some (.sc (.bool (decide (b ≤ a)))) := by simp [abin, pbin]
end
theorem aun_not {b : Bool} : aun .not (.sc (.bool b)) = some (.sc (.bool (!b))) := rfl
theorem aun_neg {k : IntKind} {a : Int} : aun .neg (.sc (.int k a)) = some (.sc (.int k (k.wrap (0 - a)))) := rfl
theorem not_decide' {p : Prop} [Decidable p] : (!decide p) = decide (¬ p) := by simp
theorem acvt_int {P : Program} {src dst : TypeId} {k k' : IntKind} {n : Int} {dd : TypeDesc} (hs : P.underlying src = some dd) (hd : P.underlying dst = some (.int k')) : acvt P src dst (.sc (.int k n)) = some (.sc (.int k' (k'.wrap n))) := by simp [acvt, hs, hd]

theorem get_app_l {α : Type} {l m : List α} {i : Nat} (h : i < l.length) : (l ++ m)[i]? = l[i]? := List.getElem?_append_left h
theorem get_app_r {α : Type} {l m : List α} {i : Nat} (h : l.length ≤ i) : (l ++ m)[i]? = m[i - l.length]? := List.getElem?_append_right h
end

/-! Slices -/

/-- A slice's value, of len things of sz cells each: what it has. -/
inductive Sl (σ : Store) (sz : Nat) : AV → List AV → Nat → Prop
  | nil : Sl σ sz (.sc (.slice none 0 0)) [] 0
  | imm {cs : List AV} {len : Nat} {ex : Bool} : cs.length = len * sz → Sl σ sz (.is cs len ex) cs len
  | glob {id off len : Nat} {cap : Option Nat} {all cs : List AV} : σ[id]? = some (some all) → window all off (len * sz) = some cs → Sl σ sz (.gs id off len sz cap) cs len

def elemP (sz : Nat) (v : AV) (n : Nat) : AV := match v with
  | .is cs _ _ => .ip (cs.drop (n * sz))
  | .gs id off _ _ _ => .gp id (off + n * sz)
  | v => v
def subP (sz : Nat) (v : AV) (l h : Nat) : AV := match v with
  | .is cs len ex => .is ((cs.drop (l * sz)).take ((h - l) * sz)) (h - l) ((if ex then some len else none).map (· - l) == some (h - l))
  | .gs id off _ _ cap => .gs id (off + l * sz) (h - l) sz (cap.map (· - l))
  | v => v

section
variable {σ : Store} {sz : Nat} {v : AV} {cs : List AV} {len : Nat}

theorem window_len {cs ys : List AV} {off n : Nat} (h : window cs off n = some ys) : ys.length = n := by
  unfold window at h
  split at h
  · cases h; simp; omega
  · cases h
theorem window_get {cs ys : List AV} {off n i : Nat} (h : window cs off n = some ys) (hi : i < n) : ys[i]? = cs[off + i]? := by
  unfold window at h
  split at h
  · cases h
    rw [List.getElem?_take, if_pos hi, List.getElem?_drop]
  · cases h
theorem window_window {cs ys : List AV} {off n i m : Nat} (h : window cs off n = some ys) (hi : i + m ≤ n) : window cs (off + i) m = window ys i m := by
  have hl := window_len h
  unfold window at h ⊢
  split at h
  · cases h
    rw [if_pos (by omega), if_pos (by omega)]
    congr 1
    rw [List.drop_take, List.take_take, List.drop_drop]
    congr 1
    omega
  · cases h

theorem Sl.length (h : Sl σ sz v cs len) : cs.length = len * sz := by
  cases h with
  | nil => simp
  | imm h => exact h
  | glob h1 h2 => exact window_len h2

theorem Sl.alen {P : Program} {T e : TypeId} (h : Sl σ sz v cs len) (hu : P.underlying T = some (.slice e)) : Abs.alen P T (.v v) = some (len : Int) := by
  unfold Abs.alen
  rw [hu]
  cases h <;> rfl

theorem Sl.index {P : Program} {T e : TypeId} (h : Sl σ sz v cs len) (hu : P.underlying T = some (.slice e)) (hs : szOf P e = some sz) (n : Int) (h0 : 0 ≤ n) (h1 : n < len) : aindex P T (.v v) n = some (.v (elemP sz v n.toNat)) := by
  unfold aindex
  rw [if_neg (by omega), hu]
  simp only [hs]
  cases h with
  | nil => omega
  | imm h => simp only [elemP]; rw [if_pos (by omega)]
  | glob h2 h3 => simp only [elemP]; rw [if_pos (by omega)]

theorem Sl.ld1 {P : Program} {e : TypeId} {loc : Store} {ts : List TV} (h : Sl σ 1 v cs len) (hg : isAggB P e = some false) (n : Nat) (h1 : n < len) : ld P ⟨σ, loc, ts⟩ e (.v (elemP 1 v n)) = cs[n]? := by
  cases h with
  | nil => omega
  | imm h => simp only [elemP, ld_ip1 hg, List.getElem?_drop]; congr 1; omega
  | glob h2 h3 =>
    simp only [elemP, ld_gp1 hg, h2, cellAt]
    rw [window_get h3 (by omega)]
    congr 1
    omega

theorem Sl.ldn {P : Program} {e : TypeId} {loc : Store} {ts : List TV} (h : Sl σ sz v cs len) (hg : isAggB P e = some true) (hs : szOf P e = some sz) (n : Nat) (h1 : n < len) : ld P ⟨σ, loc, ts⟩ e (.v (elemP sz v n)) = (window cs (n * sz) sz).map .agg := by
  have hm : n * sz + sz ≤ len * sz := by
    have : (n + 1) * sz ≤ len * sz := Nat.mul_le_mul_right sz h1
    rw [Nat.add_mul, Nat.one_mul] at this
    exact this
  cases h with
  | nil => omega
  | imm h =>
    simp only [elemP, ld_ipn hg hs]
    congr 1
    unfold window
    simp only [List.length_drop, List.drop_zero, Nat.zero_add]
    rw [if_pos (by omega), if_pos (by omega)]
  | glob h2 h3 =>
    simp only [elemP, ld_gpn hg hs, h2, rangeAt]
    rw [window_window h3 hm]

theorem Sl.slice {P : Program} {T e : TypeId} (h : Sl σ sz v cs len) (hu : P.underlying T = some (.slice e)) (hs : szOf P e = some sz) (l : Int) (h0 : 0 ≤ l) (h1 : l ≤ len) : aslice P T (.v v) (some l) none none = some (.v (subP sz v l.toNat len)) := by
  have hc : 0 ≤ l ∧ (0 : Int) ≤ (len : Int) ∧ l.toNat ≤ ((len : Int)).toNat ∧ ((len : Int)).toNat ≤ len := by omega
  unfold aslice
  rw [hu]
  simp only [hs]
  cases h with
  | nil =>
    have : l = 0 := by omega
    subst this
    rfl
  | imm h => simp only [bounds, Option.getD_some, Option.getD_none, if_pos hc]; rfl
  | glob h2 h3 => simp only [bounds, Option.getD_some, Option.getD_none, if_pos hc, if_true]; rfl

theorem Sl.slice2 {P : Program} {T e : TypeId} (h : Sl σ sz v cs len) (hu : P.underlying T = some (.slice e)) (hs : szOf P e = some sz) (m : Int) (h0 : 0 ≤ m) (h1 : m ≤ len) : aslice P T (.v v) none (some m) none = some (.v (subP sz v 0 m.toNat)) := by
  have hc : (0 : Int) ≤ 0 ∧ 0 ≤ m ∧ (0 : Int).toNat ≤ m.toNat ∧ m.toNat ≤ len := by omega
  unfold aslice
  rw [hu]
  simp only [hs]
  cases h with
  | nil =>
    have : m = 0 := by omega
    subst this
    rfl
  | imm h => simp only [bounds, Option.getD_some, Option.getD_none, if_pos hc]; rfl
  | glob h2 h3 => simp only [bounds, Option.getD_some, Option.getD_none, if_pos hc, if_true]; rfl

theorem Sl.sub (h : Sl σ sz v cs len) (l m : Nat) (h0 : l ≤ m) (h1 : m ≤ len) : Sl σ sz (subP sz v l m) ((cs.drop (l * sz)).take ((m - l) * sz)) (m - l) := by
  have hm : l * sz + (m - l) * sz ≤ len * sz := by
    rw [← Nat.add_mul]
    exact Nat.mul_le_mul_right sz (by omega)
  cases h with
  | nil =>
    obtain rfl : m = 0 := by omega
    simpa [subP] using Sl.nil
  | imm h => exact .imm (by simp; omega)
  | glob h2 h3 =>
    refine .glob h2 ?_
    rw [window_window h3 hm]
    unfold window
    rw [if_pos (by rw [window_len h3]; exact hm)]

/-- It stands, where memory is as it was. -/
theorem Sl.keep {σ' : Store} (h : Sl σ sz v cs len) (hk : ∀ (id : Nat) all, σ[id]? = some (some all) → σ'[id]? = some (some all)) : Sl σ' sz v cs len := by
  cases h with
  | nil => exact .nil
  | imm h => exact .imm h
  | glob h2 h3 => exact .glob (hk _ _ h2) h3

theorem Sl.rdS (h : Sl σ sz v cs len) {loc : Store} {ts : List TV} : rdS ⟨σ, loc, ts⟩ sz (.v v) = some (cs, len) := by
  cases h with
  | nil => rfl
  | imm h => simp only [Abs.rdS, h, if_true]
  | glob h2 h3 => simp only [Abs.rdS, if_true, h2, h3, Option.map_some]
end

end Go.Abs
