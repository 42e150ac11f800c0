/- An abstract reading of the program, and what it answers. By an AI agent. -/
import Derived.Test.YtkbgehhnimpleaaGreatDoorAbsAr
set_option linter.all false
namespace Go.Abs

/-! ### append -/

def appL (m : Md) (σ loc : Store) (ts : List TV) (sz i len s : Nat) (ys : List AV) (n : Nat) : Option (Option (List AV)) → Option (TV × St)
  | some (some cs) => if cs.length = len * sz ∧ s = sz ∧ len + n ≤ 2 ^ 31 then
      if ys.all cellOk = true then some (mkA m ⟨σ, loc.set i none, ts⟩ (cs ++ ys) (len + n) sz) else none
    else none
  | _ => none
def appG (m : Md) (σ loc : Store) (ts : List TV) (sz i len s : Nat) (ys : List AV) (n : Nat) : Option (Option (List AV)) → Option (TV × St)
  | some (some cs) => if cs.length = len * sz ∧ s = sz ∧ len + n ≤ 2 ^ 31 then
      if m = .glob ∧ ys.all cellOk = true then some (mkA m ⟨σ.set i none, loc, ts⟩ (cs ++ ys) (len + n) sz) else none
    else none
  | _ => none
def appR (m : Md) (st : St) (sz : Nat) (x : TV) (ys : List AV) (n : Nat) : Option (TV × St) := match x with
      | .v (.sc (.slice none 0 0)) => if n = 0 then some (x, st) else if n ≤ 2 ^ 31 then some (mkA m st ys n sz) else none
      | .v (.is cs len true) => if cs.length = len * sz then (if n = 0 then some (x, st) else if len + n ≤ 2 ^ 31 then some (mkA m st (cs ++ ys) (len + n) sz) else none) else none
      | .ls i off len sz' (some k) => if k = len then (if n = 0 then some (x, st) else match rdS st sz x with
        | some (cs, l) => if l = len ∧ len + n ≤ 2 ^ 31 then some (mkA m st (cs ++ ys) (len + n) sz) else none
        | none => none) else none
      | .v (.gs id off len sz' (some k)) => if k = len then (if n = 0 then some (x, st) else match rdS st sz x with
        | some (cs, l) => if l = len ∧ len + n ≤ 2 ^ 31 then some (mkA m st (cs ++ ys) (len + n) sz) else none
        | none => none) else none
      | .ls i 0 len sz' none => appL m st.σ st.loc st.tmps sz i len sz' ys n st.loc[i]?
      | .v (.gs id 0 len sz' none) => appG m st.σ st.loc st.tmps sz id len sz' ys n st.σ[id]?
      | _ => none
def appS (m : Md) (st : St) (sz : Nat) (x : TV) : Option (List AV × Nat) → Option (TV × St)
  | some (ys, n) => appR m st sz x ys n
  | none => none
def appE (m : Md) (st : St) (x y : TV) : Option (TypeId × Nat) → Option (TV × St)
  | some (_, sz) => appS m st sz x (rdS st sz y)
  | none => none
theorem aappend_eq {P : Program} {m : Md} {st : St} {T ty : TypeId} {x y : TV} : aappend P m st T ty x y = appE m st x y (appT P T ty) := by
  unfold aappend appE
  cases appT P T ty with
  | none => rfl
  | some q =>
    obtain ⟨e, sz⟩ := q
    simp only
    unfold appS
    cases rdS st sz y with
    | none => rfl
    | some q =>
      obtain ⟨ys, n⟩ := q
      simp only
      unfold appR
      split <;> first
        | rfl
        | (unfold appL; simp_all only; split <;> simp_all)
        | (unfold appG; simp_all only; split <;> simp_all)
        | simp_all
theorem appE_some {m : Md} {st : St} {x y : TV} {e sz : Nat} : appE m st x y (some (e, sz)) = appS m st sz x (rdS st sz y) := rfl
theorem appS_some {m : Md} {st : St} {x : TV} {sz : Nat} {ys : List AV} {n : Nat} : appS m st sz x (some (ys, n)) = appR m st sz x ys n := rfl
theorem appR_nil {m : Md} {st : St} {sz : Nat} {ys : List AV} {n : Nat} : appR m st sz (.v (.sc (.slice none 0 0))) ys n = if n = 0 then some (.v (.sc (.slice none 0 0)), st) else if n ≤ 2 ^ 31 then some (mkA m st ys n sz) else none := rfl
theorem appR_is {m : Md} {st : St} {sz : Nat} {ys cs : List AV} {n len : Nat} : appR m st sz (.v (.is cs len true)) ys n = if cs.length = len * sz then (if n = 0 then some (.v (.is cs len true), st) else if len + n ≤ 2 ^ 31 then some (mkA m st (cs ++ ys) (len + n) sz) else none) else none := rfl
theorem appR_ls {m : Md} {σ loc : Store} {ts : List TV} {sz : Nat} {ys : List AV} {n i len s : Nat} : appR m ⟨σ, loc, ts⟩ sz (.ls i 0 len s none) ys n = appL m σ loc ts sz i len s ys n loc[i]? := rfl
theorem appR_gs {m : Md} {σ loc : Store} {ts : List TV} {sz : Nat} {ys : List AV} {n i len s : Nat} : appR m ⟨σ, loc, ts⟩ sz (.v (.gs i 0 len s none)) ys n = appG m σ loc ts sz i len s ys n σ[i]? := rfl

theorem appL_some {m : Md} {σ loc : Store} {ts : List TV} {sz i len s n : Nat} {ys cs : List AV} : appL m σ loc ts sz i len s ys n (some (some cs)) = if cs.length = len * sz ∧ s = sz ∧ len + n ≤ 2 ^ 31 then
      if ys.all cellOk = true then some (mkA m ⟨σ, loc.set i none, ts⟩ (cs ++ ys) (len + n) sz) else none
    else none := rfl
theorem appG_some {m : Md} {σ loc : Store} {ts : List TV} {sz i len s n : Nat} {ys cs : List AV} : appG m σ loc ts sz i len s ys n (some (some cs)) = if cs.length = len * sz ∧ s = sz ∧ len + n ≤ 2 ^ 31 then
      if m = .glob ∧ ys.all cellOk = true then some (mkA m ⟨σ.set i none, loc, ts⟩ (cs ++ ys) (len + n) sz) else none
    else none := rfl

/-- What grows in a frame's own block: pre is what lies ahead of it. -/
inductive OutL (tail : Store) (b sz : Nat) : TV → List AV → Nat → Prop
  | nil : OutL tail b sz (.v (.sc (.slice none 0 0))) [] 0
  | emp : OutL tail b sz (.v (.is [] 0 true)) [] 0
  | ls {i len : Nat} {cs : List AV} : tail[i]? = some (some cs) → cs.length = len * sz → OutL tail b sz (.ls (i + b) 0 len sz none) cs len

theorem OutL.length {tail : Store} {b sz : Nat} {t : TV} {cs : List AV} {len : Nat} (h : OutL tail b sz t cs len) : cs.length = len * sz := by
  cases h with
  | nil => simp
  | emp => simp
  | ls _ h => exact h

theorem OutL.sl {tail : Store} {b sz : Nat} {t : TV} {cs : List AV} {len : Nat} (h : OutL tail b sz t cs len) : sliceLen t = some len := by cases h <;> rfl

theorem OutL.more {tail : Store} {b sz : Nat} {t : TV} {cs : List AV} {len : Nat} (h : OutL tail b sz t cs len) (x : Option (List AV)) : OutL (tail ++ [x]) b sz t cs len := by
  cases h with
  | nil => exact .nil
  | emp => exact .emp
  | ls h1 h2 => exact .ls (append_some.2 (.inl h1)) h2

theorem OutL.app {pre tail : Store} {sz : Nat} {t : TV} {cs : List AV} {len : Nat} (h : OutL tail pre.length sz t cs len) (ys : List AV) (n : Nat) (hy : ys.length = n * sz) (hall : ys.all cellOk = true) (hlim : len + n ≤ 2 ^ 31) :
    ∃ t' tail', OutL tail' pre.length sz t' (cs ++ ys) (len + n) ∧ ∀ σ ts, appR .dflt ⟨σ, pre ++ tail, ts⟩ sz t ys n = some (t', ⟨σ, pre ++ tail', ts⟩) := by
  have hlast : ∀ (l : Store) (x : Option (List AV)), (l ++ [x])[l.length]? = some x := fun l x => by simp
  cases h with
  | nil =>
    by_cases h0 : n = 0
    · subst h0
      have : ys = [] := by simpa using hy
      subst this
      exact ⟨_, tail, .nil, fun σ ts => by rw [appR_nil, if_pos rfl]⟩
    · refine ⟨.ls (tail.length + pre.length) 0 n sz none, tail ++ [some ys], ?_, fun σ ts => ?_⟩
      · simpa using OutL.ls (hlast tail (some ys)) hy
      · rw [appR_nil, if_neg h0, if_pos (by omega), mkA_dflt]
        simp only [List.length_append, List.append_assoc, Nat.add_comm]
  | emp =>
    by_cases h0 : n = 0
    · subst h0
      have : ys = [] := by simpa using hy
      subst this
      exact ⟨_, tail, .emp, fun σ ts => by rw [appR_is, if_pos (by simp), if_pos rfl]⟩
    · refine ⟨.ls (tail.length + pre.length) 0 n sz none, tail ++ [some ys], ?_, fun σ ts => ?_⟩
      · simpa using OutL.ls (hlast tail (some ys)) hy
      · rw [appR_is, if_pos (by simp), if_neg h0, if_pos (by omega), mkA_dflt]
        simp only [List.length_append, List.append_assoc, Nat.add_comm, List.nil_append, Nat.zero_add, Nat.add_zero]
  | @ls i len cs h1 h2 =>
    have hi : i < tail.length := by
      rcases Nat.lt_or_ge i tail.length with h | h
      · exact h
      · rw [List.getElem?_eq_none h] at h1; cases h1
    have hread : (pre ++ tail)[i + pre.length]? = some (some cs) := by
      rw [List.getElem?_append_right (by omega)]
      simpa using h1
    refine ⟨.ls (tail.length + pre.length) 0 (len + n) sz none, tail.set i none ++ [some (cs ++ ys)], ?_, fun σ ts => ?_⟩
    · have := hlast (tail.set i none) (some (cs ++ ys))
      rw [List.length_set] at this
      exact .ls this (by rw [List.length_append, h2, hy, Nat.add_mul])
    · rw [appR_ls, hread]
      rw [appL_some, if_pos ⟨h2, rfl, hlim⟩, if_pos hall, mkA_dflt]
      have : (pre ++ tail).set (i + pre.length) none = pre ++ tail.set i none := by
        rw [List.set_append_right _ _ (by omega)]
        simp
      simp only [this, List.length_append, List.length_set, List.append_assoc, Nat.add_comm]

theorem frzT_v {st : St} {a : AV} : frzT st (.v a) = some (a, st) := rfl
def frzL1 (st : St) (i off : Nat) : Option (Option (List AV)) → Option (AV × St)
  | some (some cs) => some (.ip (cs.drop off), st.freeze i cs)
  | _ => none
def frzL2 (st : St) (i off len sz : Nat) (cap : Option Nat) : Option (Option (List AV)) → Option (AV × St)
  | some (some cs) => some (.is ((cs.drop off).take (len * sz)) len (cap == some len), st.freeze i cs)
  | _ => none
theorem frzT_lp {σ loc : Store} {ts : List TV} {i off : Nat} : frzT ⟨σ, loc, ts⟩ (.lp i off) = frzL1 ⟨σ, loc, ts⟩ i off loc[i]? := by
  simp only [frzT, frzL1]
  cases loc[i]? with
  | none => rfl
  | some q => cases q <;> rfl
theorem frzT_ls {σ loc : Store} {ts : List TV} {i off len sz : Nat} {cap : Option Nat} : frzT ⟨σ, loc, ts⟩ (.ls i off len sz cap) = frzL2 ⟨σ, loc, ts⟩ i off len sz cap loc[i]? := by
  simp only [frzT, frzL2]
  cases loc[i]? with
  | none => rfl
  | some q => cases q <;> rfl
theorem frzL1_some {st : St} {i off : Nat} {cs : List AV} : frzL1 st i off (some (some cs)) = some (.ip (cs.drop off), st.freeze i cs) := rfl
theorem frzL2_some {st : St} {i off len sz : Nat} {cap : Option Nat} {cs : List AV} : frzL2 st i off len sz cap (some (some cs)) = some (.is ((cs.drop off).take (len * sz)) len (cap == some len), st.freeze i cs) := rfl
theorem freeze_mk {σ loc : Store} {ts : List TV} {i : Nat} {cs : List AV} : St.freeze ⟨σ, loc, ts⟩ i cs = ⟨σ, loc.set i none, ts.map (TV.sub i cs)⟩ := rfl
theorem sub_v {i : Nat} {cs : List AV} {a : AV} : TV.sub i cs (.v a) = .v a := rfl
theorem sub_top {i : Nat} {cs : List AV} : TV.sub i cs .top = .top := rfl
theorem sub_undef {i : Nat} {cs : List AV} : TV.sub i cs undefT = undefT := rfl
theorem sub_lp {i j off : Nat} {cs : List AV} : TV.sub i cs (.lp j off) = if j = i then .v (.ip (cs.drop off)) else .lp j off := rfl
theorem sub_ls {i j off len sz : Nat} {cap : Option Nat} {cs : List AV} : TV.sub i cs (.ls j off len sz cap) = if j = i then .v (.is ((cs.drop off).take (len * sz)) len (cap == some len)) else .ls j off len sz cap := rfl

/-! What is handed out -/
def outV (t : TV) (cs : List AV) : AV := match t with
  | .v a => a
  | .ls _ _ len _ _ => .is cs len false
  | _ => .tup []
def frzS (st : St) (t : TV) : St := match t with
  | .ls i _ _ _ _ => match st.loc[i]? with
    | some (some cs) => st.freeze i cs
    | _ => st
  | _ => st
theorem frzS_σ {st : St} {t : TV} : (frzS st t).σ = st.σ := by
  unfold frzS
  split
  · split <;> rfl
  · rfl
theorem frzS_opd {σ loc : Store} {ts : List TV} {t : TV} {i : Nat} : opd (frzS ⟨σ, loc, ts⟩ t) (.tmp i) = (ts[i]?).map fun x => match x with
    | .v a => .v a
    | x => (match t with
      | .ls j _ _ _ _ => match loc[j]? with
        | some (some cs) => x.sub j cs
        | _ => x
      | _ => x) := by
  unfold frzS
  cases hx : ts[i]? with
  | none =>
    split
    · split
      · simp only [opd, St.freeze, List.getElem?_map, hx]; rfl
      · simp only [opd, hx]; rfl
    · simp only [opd, hx]; rfl
  | some x =>
    split
    · rename_i j a b c d
      cases hl : loc[j]? with
      | none => simp only [opd, hx, hl]; cases x <;> rfl
      | some q =>
        cases q with
        | none => simp only [opd, hx, hl]; cases x <;> rfl
        | some cs =>
          simp only [opd, St.freeze, List.getElem?_map, hx, Option.map_some]
          cases x <;> rfl
    · simp only [opd, hx]; cases x <;> (try rfl) <;> (simp_all)
theorem OutL.frz {pre tail : Store} {sz : Nat} {t : TV} {cs : List AV} {len : Nat} (h : OutL tail pre.length sz t cs len) : ∀ σ ts, frzT ⟨σ, pre ++ tail, ts⟩ t = some (outV t cs, frzS ⟨σ, pre ++ tail, ts⟩ t) := by
  intro σ ts
  cases h with
  | nil => rfl
  | emp => rfl
  | @ls i len cs h1 h2 =>
    have hread : (pre ++ tail)[i + pre.length]? = some (some cs) := by
      rw [List.getElem?_append_right (by omega)]
      simpa using h1
    simp only [frzT, frzS, hread, outV]
    have : (cs.drop 0).take (len * sz) = cs := by rw [List.drop_zero, ← h2, List.take_length]
    rw [this]
    rfl
theorem OutL.val {tail : Store} {b sz : Nat} {t : TV} {cs : List AV} {len : Nat} (h : OutL tail b sz t cs len) (σ : Store) : Sl σ sz (outV t cs) cs len := by
  cases h with
  | nil => exact .nil
  | emp => exact .imm (by simp)
  | ls h1 h2 => exact .imm h2

/-! Readings of slices where the order is drawn -/
def immV : AV → Bool
  | .is _ _ _ => true
  | _ => false
theorem Sl.ldk {E : Env} {f : FuncId} {n : Nat} {all : Array Oper} {o : Oper} {l : List Oper} {cls : List (Cls × Bool)} {k : List Item} {Q : AExit → St → Prop} {σ loc : Store} {ts : List TV} {e : TypeId} {v : AV} {cs : List AV} {len : Nat}
    (h : Sl σ 1 v cs len) (hg : isAggB E.P e = some false) (m : Nat) (a : AV) (hm : cs[m]? = some a) :
    ldK E f n all o l cls k ⟨σ, loc, ts⟩ Q e (some (.v (elemP 1 v m))) = WP E f n (.drw all l (cls ++ [(if immV v = true then .quiet else .load, false)]) :: k) .normal (St.put ⟨σ, loc, ts⟩ o.dst (.v a)) Q := by
  have hlt : m < len := by
    have := h.length
    rcases Nat.lt_or_ge m cs.length with h1 | h1
    · omega
    · rw [List.getElem?_eq_none h1] at hm; cases hm
  have hl := h.ld1 (P := E.P) (e := e) (loc := loc) (ts := ts) hg m hlt
  rw [hm] at hl
  rw [ldK_some]
  cases h with
  | nil => omega
  | @imm _ _ ex h =>
    have : ld E.P ⟨[], [], ts⟩ e (.v (elemP 1 (.is cs len ex) m)) = some a := by
      simp only [elemP, ld_ip, hg, ldV_f, List.getElem?_drop]
      rw [show m * 1 + 0 = m by omega]
      exact hm
    rw [this]
    rfl
  | @glob id off _ cap all2 _ h2 h3 =>
    have : ld E.P ⟨[], [], ts⟩ e (.v (elemP 1 (.gs id off len 1 cap) m)) = none := by
      simp only [elemP, ld_gp, hg, ldV_f]
      rfl
    rw [this, hl]
    rfl

theorem set_app_r {l m : Store} {i : Nat} {x : Option (List AV)} (h : l.length ≤ i) : (l ++ m).set i x = l ++ m.set (i - l.length) x := List.set_append_right _ _ h
theorem set_app_l {l m : Store} {i : Nat} {x : Option (List AV)} (h : i < l.length) : (l ++ m).set i x = l.set i x ++ m := List.set_append_left _ _ h
theorem Sl.more {σ : Store} {sz : Nat} {v : AV} {cs : List AV} {len : Nat} (h : Sl σ sz v cs len) (g : Store) : Sl (σ ++ g) sz v cs len := h.keep fun id all hi => by
  have hlt : id < σ.length := by
    rcases Nat.lt_or_ge id σ.length with h | h
    · exact h
    · rw [List.getElem?_eq_none h] at hi; cases hi
  rw [List.getElem?_append_left hlt]; exact hi
end Go.Abs
