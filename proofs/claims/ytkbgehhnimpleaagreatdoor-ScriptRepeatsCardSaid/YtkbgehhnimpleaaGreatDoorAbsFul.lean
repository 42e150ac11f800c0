/- An abstract reading of the program, and what it answers. By an AI agent. -/
import Derived.Test.YtkbgehhnimpleaaGreatDoorAbsOut
set_option linter.all false
namespace Go.Abs

/-! ### Writing where the order is drawn -/

theorem opd_mask {σ loc : Store} {ts : List TV} {all : Array Oper} {o : Oper} {x : Operand} (h : ∀ t, x = .tmp t → t ∈ o.looksAt all) : opd ⟨σ, loc, maskL (o.looksAt all) 0 ts⟩ x = opd ⟨σ, loc, ts⟩ x := by
  cases x with
  | tmp t =>
    have ht := h t rfl
    have hc : (o.looksAt all).contains t = true := by simpa using ht
    simp only [opd, maskL_get, Nat.zero_add, hc, if_true]
    cases ts[t]? <;> rfl
  | _ => rfl

theorem wr_tmps {σ loc : Store} {A B : List TV} {t : TV} {vs : List AV} : wr ⟨σ, loc, A⟩ t vs = (wr ⟨σ, loc, B⟩ t vs).map fun s => ⟨s.σ, s.loc, A⟩ := by
  cases t with
  | v a =>
    cases a with
    | gp id off => rw [wr_gp, wr_gp]; cases spliceAt σ[id]? off vs <;> rfl
    | _ => rfl
  | lp i off => rw [wr_lp, wr_lp]; cases spliceAt loc[i]? off vs <;> rfl
  | _ => rfl

section
variable {E : Env} {f : FuncId} {n : Nat} {k : List Item} {st : St} {Q : AExit → St → Prop} {all : Array Oper} {o : Oper} {l : List Oper} {cls : List (Cls × Bool)}
  {d : Option Tmp} {ty : TypeId} {ps : String} {ea : Array Edge} {gd : Option (Nat × Bool)}

def stS (E : Env) (f : FuncId) (n : Nat) (all : Array Oper) (l : List Oper) (cls : List (Cls × Bool)) (k : List Item) (ts : List TV) (d : Option Tmp) (Q : AExit → St → Prop) (m : Option Nat) (len : Nat) : Option St → Prop
  | some s => if m = some len then WP E f n (.drw all l (cls ++ [(.full, false)]) :: k) .normal (St.put ⟨s.σ, s.loc, ts⟩ d undefT) Q else False
  | none => False
def stK (E : Env) (f : FuncId) (n : Nat) (all : Array Oper) (o : Oper) (l : List Oper) (cls : List (Cls × Bool)) (k : List Item) (st : St) (Q : AExit → St → Prop) (T : TypeId) : Option TV → Option TV → Prop
  | some t, some (.v a) => stS E f n all l cls k st.tmps o.dst Q (szOf E.P T) (cellsOf a).length (wr ⟨st.σ, st.loc, []⟩ t (cellsOf a))
  | _, _ => DT E f n all o l cls k st Q
theorem stK_v {T : TypeId} {t : TV} {a : AV} {σ loc : Store} {ts : List TV} : stK E f n all o l cls k ⟨σ, loc, ts⟩ Q T (some t) (some (.v a)) = stS E f n all l cls k ts o.dst Q (szOf E.P T) (cellsOf a).length (wr ⟨σ, loc, []⟩ t (cellsOf a)) := rfl
theorem stS_some {ts : List TV} {m len : Nat} {s : St} : stS E f n all l cls k ts d Q (some m) len (some s) = if m = len then WP E f n (.drw all l (cls ++ [(.full, false)]) :: k) .normal (St.put ⟨s.σ, s.loc, ts⟩ d undefT) Q else False := by
  simp only [stS, Option.some.injEq]

theorem DT_stK {T : TypeId} {p x : Operand} {σ loc : Store} {ts : List TV} : DT E f n all ⟨d, .store T p x, ty, ps, ea, gd⟩ l cls k ⟨σ, loc, ts⟩ Q = stK E f n all ⟨d, .store T p x, ty, ps, ea, gd⟩ l cls k ⟨σ, loc, ts⟩ Q T (opd ⟨σ, loc, ts⟩ p) (opd ⟨σ, loc, ts⟩ x) := by
  cases hp : opd ⟨σ, loc, ts⟩ p with
  | none => rfl
  | some t =>
    cases hx : opd ⟨σ, loc, ts⟩ x with
    | none => rfl
    | some tx =>
      cases tx with
      | v a =>
        rw [DT_store]
        have mp : opd ⟨σ, loc, maskL (Oper.looksAt all ⟨d, .store T p x, ty, ps, ea, gd⟩) 0 ts⟩ p = some t := by
          rw [opd_mask, hp]
          intro i hi
          exact mem_looks_operands (by simp [hi, Op.operands])
        have mx : opd ⟨σ, loc, maskL (Oper.looksAt all ⟨d, .store T p x, ty, ps, ea, gd⟩) 0 ts⟩ x = some (.v a) := by
          rw [opd_mask, hx]
          intro i hi
          exact mem_looks_operands (by simp [hi, Op.operands])
        simp only [aop_store, frzO, mx, Option.bind_some, frzT_v, storeR_some, mp, stK]
        rw [wr_tmps (B := [])]
        unfold stS
        cases wr ⟨σ, loc, []⟩ t (cellsOf a) with
        | none => simp [arD]
        | some s =>
          by_cases hc : szOf E.P T = some (cellsOf a).length
          · simp only [hc, if_true, Option.map_some, arD]
          · simp only [hc, if_false, arD]
      | lp i o => rfl
      | ls i o a b c => rfl
      | top => rfl

theorem rdS_tmps {σ loc : Store} {A B : List TV} {sz : Nat} {t : TV} : rdS ⟨σ, loc, A⟩ sz t = rdS ⟨σ, loc, B⟩ sz t := by
  cases t with
  | v a => cases a <;> rfl
  | _ => rfl

theorem mkA_tmps {m : Md} {σ loc : Store} {A B : List TV} {cs : List AV} {len sz : Nat} : mkA m ⟨σ, loc, A⟩ cs len sz = ((mkA m ⟨σ, loc, B⟩ cs len sz).1, ⟨(mkA m ⟨σ, loc, B⟩ cs len sz).2.σ, (mkA m ⟨σ, loc, B⟩ cs len sz).2.loc, A⟩) := by cases m <;> rfl

def reT (A : List TV) (o : Option (TV × St)) : Option (TV × St) := o.map fun p => (p.1, ⟨p.2.σ, p.2.loc, A⟩)

theorem appR_tmps {m : Md} {σ loc : Store} {A B : List TV} {sz : Nat} {x : TV} {ys : List AV} {n : Nat} : appR m ⟨σ, loc, A⟩ sz x ys n = reT A (appR m ⟨σ, loc, B⟩ sz x ys n) := by
  have key : ∀ (σ loc : Store) (cs : List AV) (len : Nat), some (mkA m ⟨σ, loc, A⟩ cs len sz) = reT A (some (mkA m ⟨σ, loc, B⟩ cs len sz)) := by
    intro σ loc cs len
    rw [mkA_tmps (B := B)]; rfl
  unfold appR
  split
  · split
    · rfl
    · split
      · exact key _ _ _ _
      · rfl
  · split
    · split
      · rfl
      · split
        · exact key _ _ _ _
        · rfl
    · rfl
  · split
    · split
      · rfl
      · rw [rdS_tmps (B := B)]
        split
        · split
          · exact key _ _ _ _
          · rfl
        · rfl
    · rfl
  · split
    · split
      · rfl
      · rw [rdS_tmps (B := B)]
        split
        · split
          · exact key _ _ _ _
          · rfl
        · rfl
    · rfl
  · rename_i i len s'
    show appL m σ loc A sz i len s' ys n loc[i]? = reT A (appL m σ loc B sz i len s' ys n loc[i]?)
    cases loc[i]? with
    | none => rfl
    | some q =>
      cases q with
      | none => rfl
      | some cs =>
        rw [appL_some, appL_some]
        split
        · split
          · exact key _ _ _ _
          · rfl
        · rfl
  · rename_i i len s'
    show appG m σ loc A sz i len s' ys n σ[i]? = reT A (appG m σ loc B sz i len s' ys n σ[i]?)
    cases σ[i]? with
    | none => rfl
    | some q =>
      cases q with
      | none => rfl
      | some cs =>
        rw [appG_some, appG_some]
        split
        · split
          · exact key _ _ _ _
          · rfl
        · rfl
  · rfl

theorem aappend_tmps {P : Program} {m : Md} {σ loc : Store} {A B : List TV} {T ty : TypeId} {x y : TV} : aappend P m ⟨σ, loc, A⟩ T ty x y = reT A (aappend P m ⟨σ, loc, B⟩ T ty x y) := by
  rw [aappend_eq, aappend_eq]
  cases appT P T ty with
  | none => rfl
  | some q =>
    rw [appE_some, appE_some, rdS_tmps (B := B)]
    cases rdS ⟨σ, loc, B⟩ q.2 y with
    | none => rfl
    | some q => exact appR_tmps

def apS (E : Env) (f : FuncId) (n : Nat) (all : Array Oper) (l : List Oper) (cls : List (Cls × Bool)) (k : List Item) (ts : List TV) (d : Option Tmp) (Q : AExit → St → Prop) : Option (TV × St) → Prop
  | some (t, s) => WP E f n (.drw all l (cls ++ [(.full, false)]) :: k) .normal (St.put ⟨s.σ, s.loc, ts⟩ d t) Q
  | none => False
theorem apS_some {ts : List TV} {t : TV} {s : St} : apS E f n all l cls k ts d Q (some (t, s)) = WP E f n (.drw all l (cls ++ [(.full, false)]) :: k) .normal (St.put ⟨s.σ, s.loc, ts⟩ d t) Q := rfl
def apK (E : Env) (f : FuncId) (n : Nat) (all : Array Oper) (o : Oper) (l : List Oper) (cls : List (Cls × Bool)) (k : List Item) (st : St) (Q : AExit → St → Prop) (T T2 : TypeId) (m : Md) : Option TV → Option TV → Prop
  | some x, some y => apS E f n all l cls k st.tmps o.dst Q (aappend E.P m ⟨st.σ, st.loc, []⟩ T T2 x y)
  | _, _ => DT E f n all o l cls k st Q
theorem apK_some {T T2 : TypeId} {m : Md} {x y : TV} {σ loc : Store} {ts : List TV} : apK E f n all o l cls k ⟨σ, loc, ts⟩ Q T T2 m (some x) (some y) = apS E f n all l cls k ts o.dst Q (aappend E.P m ⟨σ, loc, []⟩ T T2 x y) := rfl
theorem DT_apK {x y : Operand} {T T2 : TypeId} {i : Nat} {σ loc : Store} {ts : List TV} : DT E f n all ⟨some i, .call ⟨.builtin .append, #[x, y], #[T, T2]⟩, ty, ps, ea, gd⟩ l cls k ⟨σ, loc, ts⟩ Q = apK E f n all ⟨some i, .call ⟨.builtin .append, #[x, y], #[T, T2]⟩, ty, ps, ea, gd⟩ l cls k ⟨σ, loc, ts⟩ Q T T2 (E.md f i) (opd ⟨σ, loc, ts⟩ x) (opd ⟨σ, loc, ts⟩ y) := by
  cases hx : opd ⟨σ, loc, ts⟩ x with
  | none => rfl
  | some tx =>
    cases hy : opd ⟨σ, loc, ts⟩ y with
    | none => rfl
    | some ty2 =>
      rw [DT_append]
      have mx : opd ⟨σ, loc, maskL (Oper.looksAt all ⟨some i, .call ⟨.builtin .append, #[x, y], #[T, T2]⟩, ty, ps, ea, gd⟩) 0 ts⟩ x = some tx := by
        rw [opd_mask, hx]
        intro i hi
        exact mem_looks_operands (by simp [hi, Op.operands, Call.operands])
      have my : opd ⟨σ, loc, maskL (Oper.looksAt all ⟨some i, .call ⟨.builtin .append, #[x, y], #[T, T2]⟩, ty, ps, ea, gd⟩) 0 ts⟩ y = some ty2 := by
        rw [opd_mask, hy]
        intro i hi
        exact mem_looks_operands (by simp [hi, Op.operands, Call.operands])
      simp only [aop_builtin, abuiltin, mx, my, apK_some]
      rw [aappend_tmps (B := [])]
      unfold reT apS
      cases aappend E.P (E.md f i) ⟨σ, loc, []⟩ T T2 tx ty2 <;> rfl
end

def axE (P : Program) (e : TypeId) (len : Nat) (cs : List AV) (m : Nat) : Option Nat → Option AV
  | some sz => if m < len then apart P e cs (m * sz) else none
  | none => none
def axU (P : Program) (cs : List AV) (m : Nat) : Option TypeDesc → Option AV
  | some (.array len e) => axE P e len cs m (szOf P e)
  | _ => none
theorem aindexV_agg {P : Program} {T : TypeId} {cs : List AV} {n : Int} : aindexV P T (.agg cs) n = if n < 0 then none else axU P cs n.toNat (P.underlying T) := by
  unfold aindexV
  split
  · rfl
  · unfold axU
    cases P.underlying T with
    | none => rfl
    | some d =>
      cases d with
      | array len e =>
        simp only [axE]
        cases szOf P e <;> rfl
      | _ => rfl
theorem axU_a {P : Program} {cs : List AV} {m len : Nat} {e : TypeId} : axU P cs m (some (.array len e)) = axE P e len cs m (szOf P e) := rfl
theorem axE_some {P : Program} {e : TypeId} {len m sz : Nat} {cs : List AV} : axE P e len cs m (some sz) = if m < len then apart P e cs (m * sz) else none := rfl
theorem bsz {a : Array UInt8} : (ByteArray.mk a).size = a.size := rfl
theorem all_I {l : List Int} : (l.map I).all cellOk = true := by
  rw [List.all_eq_true]
  intro x hx
  obtain ⟨n, _, rfl⟩ := List.mem_map.1 hx
  rfl
theorem all_U {l : List Int} : (l.map U).all cellOk = true := by
  rw [List.all_eq_true]
  intro x hx
  obtain ⟨n, _, rfl⟩ := List.mem_map.1 hx
  rfl

/-- What grows does not lie at place ei. -/
def OutN (t : TV) (b ei : Nat) : Prop := ∀ i len sz c, t = .ls (i + b) 0 len sz c → i ≠ ei
theorem OutL.app' {pre tail : Store} {sz : Nat} {t : TV} {cs : List AV} {len : Nat} (h : OutL tail pre.length sz t cs len) (ys : List AV) (n : Nat) (hy : ys.length = n * sz) (hall : ys.all cellOk = true) (hlim : len + n ≤ 2 ^ 31)
    (ei : Nat) (E : List AV) (hE : tail[ei]? = some (some E)) (hN : OutN t pre.length ei) :
    ∃ t' tail', OutL tail' pre.length sz t' (cs ++ ys) (len + n) ∧ (∀ σ ts, appR .dflt ⟨σ, pre ++ tail, ts⟩ sz t ys n = some (t', ⟨σ, pre ++ tail', ts⟩)) ∧ tail'[ei]? = some (some E) ∧ OutN t' pre.length ei := by
  have hei : ei < tail.length := by
    rcases Nat.lt_or_ge ei tail.length with h | h
    · exact h
    · rw [List.getElem?_eq_none h] at hE; cases hE
  have hlast : ∀ (l : Store) (x : Option (List AV)), (l ++ [x])[l.length]? = some x := fun l x => by simp
  cases h with
  | nil =>
    by_cases h0 : n = 0
    · subst h0
      have : ys = [] := by simpa using hy
      subst this
      exact ⟨_, tail, .nil, fun σ ts => by rw [appR_nil, if_pos rfl], hE, hN⟩
    · refine ⟨.ls (tail.length + pre.length) 0 n sz none, tail ++ [some ys], ?_, fun σ ts => ?_, ?_, ?_⟩
      · simpa using OutL.ls (hlast tail (some ys)) hy
      · rw [appR_nil, if_neg h0, if_pos (by omega), mkA_dflt]
        simp only [List.length_append, List.append_assoc, Nat.add_comm]
      · rw [List.getElem?_append_left hei]; exact hE
      · intro i l s c he
        simp only [TV.ls.injEq] at he
        omega
  | emp =>
    by_cases h0 : n = 0
    · subst h0
      have : ys = [] := by simpa using hy
      subst this
      exact ⟨_, tail, .emp, fun σ ts => by rw [appR_is, if_pos (by simp), if_pos rfl], hE, hN⟩
    · refine ⟨.ls (tail.length + pre.length) 0 n sz none, tail ++ [some ys], ?_, fun σ ts => ?_, ?_, ?_⟩
      · simpa using OutL.ls (hlast tail (some ys)) hy
      · rw [appR_is, if_pos (by simp), if_neg h0, if_pos (by omega), mkA_dflt]
        simp only [List.length_append, List.append_assoc, Nat.add_comm, List.nil_append, Nat.zero_add, Nat.add_zero]
      · rw [List.getElem?_append_left hei]; exact hE
      · intro i l s c he
        simp only [TV.ls.injEq] at he
        omega
  | @ls i len cs h1 h2 =>
    have hi : i < tail.length := by
      rcases Nat.lt_or_ge i tail.length with h | h
      · exact h
      · rw [List.getElem?_eq_none h] at h1; cases h1
    have hne := hN i len sz none rfl
    have hread : (pre ++ tail)[i + pre.length]? = some (some cs) := by
      rw [List.getElem?_append_right (by omega)]
      simpa using h1
    refine ⟨.ls (tail.length + pre.length) 0 (len + n) sz none, tail.set i none ++ [some (cs ++ ys)], ?_, fun σ ts => ?_, ?_, ?_⟩
    · have := hlast (tail.set i none) (some (cs ++ ys))
      rw [List.length_set] at this
      exact .ls this (by rw [List.length_append, h2, hy, Nat.add_mul])
    · rw [appR_ls, hread]
      rw [appL_some, if_pos ⟨h2, rfl, hlim⟩, if_pos hall, mkA_dflt]
      have : (pre ++ tail).set (i + pre.length) none = pre ++ tail.set i none := by
        rw [List.set_append_right _ _ (by omega)]
        simp
      simp only [this, List.length_append, List.length_set, List.append_assoc, Nat.add_comm]
    · rw [List.getElem?_append_left (by simpa using hei), List.getElem?_set_ne hne]; exact hE
    · intro j l s c he
      simp only [TV.ls.injEq] at he
      omega
end Go.Abs
