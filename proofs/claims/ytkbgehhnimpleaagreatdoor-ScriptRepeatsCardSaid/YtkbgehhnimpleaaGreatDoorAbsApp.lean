/- An abstract reading of the program, and what it answers. By an AI agent. -/
import Derived.Test.YtkbgehhnimpleaaGreatDoorAbsOp2
set_option linter.all false
namespace Go.Abs
section
variable {σ0 : Store} {g0 : Gh} {w0 : World} {st : St} {g : Gh} {lam : List (Nat × Nat)} {w : World} {tm : List Value}

theorem growBy_le (N : Nat) : ∀ (r c : Nat), c ≤ N → Builtin.growBy N r c ≤ N + (N + 768) / 4
  | 0, c, h => by simp only [Builtin.growBy]; omega
  | r + 1, c, h => by
    simp only [Builtin.growBy]
    split
    · omega
    · rename_i hlt
      by_cases hc : c + (c + 768) / 4 ≤ N
      · exact growBy_le N r _ hc
      · have : ∀ (r c' : Nat), N < c' → Builtin.growBy N r c' = c' := by
          intro r c' hc'
          cases r with
          | zero => rfl
          | succ r => simp only [Builtin.growBy]; rw [if_pos (by omega)]
        rw [this r _ (by omega)]
        omega

theorem next_le {need cap : Nat} (h : cap < need) : Builtin.nextslicecap need cap ≤ 2 * need + 1024 := by
  unfold Builtin.nextslicecap
  split
  · omega
  · split
    · omega
    · have := growBy_le need 4 cap (by omega)
      omega

/-- What append asks of its types. -/
structure AppT (P : Program) (T ty : TypeId) (e sz : Nat) : Prop where
  sl : P.underlying T = some (.slice e)
  info : ∃ i, P.info? e = some i ∧ i.size = sz ∧ i.bytes ≤ 4096 ∧ 0 < i.bytes ∧ ∃ z, i.zero = some z ∧ z.cells.size = sz
  src : ∃ d, P.underlying ty = some d ∧ ∀ k, d ≠ .int k

def srcOk (P : Program) (ty : TypeId) : Bool := match P.underlying ty with
  | some (.int _) => false
  | some _ => true
  | none => false

theorem srcOk_ok {P : Program} {ty : TypeId} (h : srcOk P ty = true) : ∃ d, P.underlying ty = some d ∧ ∀ k, d ≠ .int k := by
  unfold srcOk at h
  split at h
  · cases h
  · rename_i d hne hd
    exact ⟨d, hd, fun k hk => hne k hk⟩
  · cases h

def appT (P : Program) (T ty : TypeId) : Option (TypeId × Nat) := match P.underlying T with
  | some (.slice e) => match P.info? e with
    | some i => match i.zero with
      | some z => if i.bytes ≤ 4096 ∧ 0 < i.bytes ∧ z.cells.size = i.size ∧ srcOk P ty = true then some (e, i.size) else none
      | none => none
    | none => none
  | _ => none

theorem appT_ok {P : Program} {T ty : TypeId} {e sz : Nat} (h : appT P T ty = some (e, sz)) : AppT P T ty e sz := by
  unfold appT at h
  split at h
  · rename_i e' hu
    split at h
    · rename_i i hi
      split at h
      · rename_i z hz
        split at h
        · rename_i hc
          obtain ⟨h1, h2, h3, h4⟩ := hc
          simp only [Option.some.injEq, Prod.mk.injEq] at h
          obtain ⟨rfl, rfl⟩ := h
          exact ⟨hu, ⟨i, hi, rfl, h1, h2, z, hz, h3⟩, srcOk_ok h4⟩
        · cases h
      · cases h
    · cases h
  · cases h

theorem run_append_in {P : Program} {T ty : TypeId} {e sz : Nat} (hT : AppT P T ty e sz) (tt : TypeId) {base : Option Addr} {len cap n : Nat} {y : Value} {ys : List Value}
    (hn : (Builtin.lenOf y).run P w = .ok n w) (hy : (Builtin.firstCells sz n y).run P w = .ok ys.toArray w) (hroom : len + n ≤ cap) {w' : World}
    (hst : ∀ a, base = some a → (storeCells (a.add (len * sz)) ys).run P w = .ok () w') (hno : base = none → w' = w) :
    (Builtin.append_ #[T, ty] tt #[.slice base len cap, y]).run P w = .ok (.slice base (len + n) cap) w' := by
  obtain ⟨hu, ⟨i, hi, rfl, h1, h2, z, hz, h3⟩, d, hd, hk⟩ := hT
  have hz' : (d matches .int _) = false := by cases d <;> first | rfl | exact absurd rfl (hk _)
  simp only [Builtin.append_, List.size_toArray, List.length_cons, List.length_nil, Nat.reduceAdd, Sem.run_bind]
  simp [run_underlying hu, run_underlying hd, sizeOf, typeInfo, hi, hz', hn, hroom, hy]
  cases base with
  | none => simp [hno rfl]
  | some a => simp [hst a rfl]

theorem run_append_grow {P : Program} {T ty : TypeId} {e sz : Nat} (hT : AppT P T ty e sz) (tt : TypeId) {base : Option Addr} {len cap n : Nat} {y : Value} {xs ys : List Value}
    (hn : (Builtin.lenOf y).run P w = .ok n w) (hroom : cap < len + n) (hb : len + n ≤ 2 ^ 31)
    (hy : ∀ d, (Builtin.firstCells sz n y).run P { w with drawn := d } = .ok ys.toArray { w with drawn := d })
    (hx : ∀ d, (Builtin.firstCells sz len (.slice base len cap)).run P { w with drawn := d } = .ok xs.toArray { w with drawn := d }) :
    ∃ (c : Nat) (rest : List Value), (Builtin.append_ #[T, ty] tt #[.slice base len cap, y]).run P w = .ok (.slice (some ⟨w.heap.size, 0, none⟩) (len + n) c) (({ w with drawn := w.drawn + 1 } : World).alloc (.cells (xs ++ ys ++ rest).toArray e (0, 0))) ∧
      len + n ≤ c ∧ rest.length = (c - (len + n)) * sz := by
  obtain ⟨hu, ⟨i, hi, rfl, h1, h2, z, hz, h3⟩, d, hd, hk⟩ := hT
  have hz' : (d matches .int _) = false := by cases d <;> first | rfl | exact absurd rfl (hk _)
  have hle := next_le hroom
  have hmax : ¬ ((len + n : Nat) : Int) > IntKind.i64.max := by
    have : IntKind.i64.max = 9223372036854775807 := by decide
    rw [this]; omega
  have hbytes : ¬ Builtin.nextslicecap (len + n) cap * i.bytes > 2 ^ 48 := by
    have : Builtin.nextslicecap (len + n) cap * i.bytes ≤ (2 * 2 ^ 31 + 1024) * 4096 := Nat.mul_le_mul (by omega) h1
    omega
  refine ⟨(Question.appendCap (len + n) cap e).cut (w.tape w.drawn (.appendCap (len + n) cap e)), (Builtin.zeroCells z.cells ((Question.appendCap (len + n) cap e).cut (w.tape w.drawn (.appendCap (len + n) cap e)) - (len + n))).toList, ?_, by simp [Question.cut], by simp [Builtin.zeroCells, h3]⟩
  have hx' := hx (w.drawn + 1)
  have hy' := hy (w.drawn + 1)
  simp only [Builtin.append_, List.size_toArray, List.length_cons, List.length_nil, Nat.reduceAdd, Sem.run_bind]
  simp only [List.getElem?_toArray, List.getElem?_cons_zero, List.getElem?_cons_succ, run_underlying hu, run_underlying hd, sizeOf, typeInfo, hi, hz', hn, Sem.run_bind, run_program, Result.andThen_ok, Sem.run_pure, Sem.run_pure', Bool.false_eq_true, if_false, if_neg (show ¬ len + n ≤ cap by omega)]
  rw [if_neg (by rintro ⟨h, _⟩; exact hmax h)]
  simp only [Sem.run_bind, Sem.run_ite, if_neg hbytes, Sem.run_pure, Result.andThen_ok, run_choose, Question.forced, Bool.false_eq_true, if_false, run_askRoom, hx', Bool.not_false, if_true, hy', zeroValue, typeInfo, run_program, hi, hz, newRow, run_newObj]
  simp only [World.alloc]
  congr 3
  simp

def aappend (P : Program) (m : Md) (st : St) (T ty : TypeId) (x y : TV) : Option (TV × St) := match appT P T ty with
  | some (_, sz) => match rdS st sz y with
    | some (ys, n) => match x with
      | .v (.sc (.slice none 0 0)) => if n = 0 then some (x, st) else if n ≤ 2 ^ 31 then some (mkA m st ys n sz) else none
      | .v (.is cs len true) => if cs.length = len * sz then (if n = 0 then some (x, st) else if len + n ≤ 2 ^ 31 then some (mkA m st (cs ++ ys) (len + n) sz) else none) else none
      | .ls i off len sz' (some k) => if k = len then (if n = 0 then some (x, st) else match rdS st sz x with
        | some (cs, l) => if l = len ∧ len + n ≤ 2 ^ 31 then some (mkA m st (cs ++ ys) (len + n) sz) else none
        | none => none) else none
      | .v (.gs id off len sz' (some k)) => if k = len then (if n = 0 then some (x, st) else match rdS st sz x with
        | some (cs, l) => if l = len ∧ len + n ≤ 2 ^ 31 then some (mkA m st (cs ++ ys) (len + n) sz) else none
        | none => none) else none
      | .ls i 0 len sz' none => match st.loc[i]? with
        | some (some cs) => if cs.length = len * sz ∧ sz' = sz ∧ len + n ≤ 2 ^ 31 then
            if ys.all cellOk = true then some (mkA m { st with loc := st.loc.set i none } (cs ++ ys) (len + n) sz) else none
          else none
        | _ => none
      | .v (.gs id 0 len sz' none) => match st.σ[id]? with
        | some (some cs) => if cs.length = len * sz ∧ sz' = sz ∧ len + n ≤ 2 ^ 31 then
            if m = .glob ∧ ys.all cellOk = true then some (mkA m { st with σ := st.σ.set id none } (cs ++ ys) (len + n) sz) else none
          else none
        | _ => none
      | _ => none
    | none => none
  | none => none

theorem drawn_cell (w : World) (d : Nat) (a : Addr) : ({ w with drawn := d } : World).cell? a = w.cell? a := rfl

theorem Inv.drew (h : Inv σ0 g0 w0 st g lam w tm) (d : Nat) : Inv σ0 g0 w0 st g lam { w with drawn := d } tm := h.same rfl rfl rfl rfl

/-- The new array of an append that grows. -/
theorem grown_ok (h : Inv σ0 g0 w0 st g lam w tm) (m : Md) {cs : List AV} {us rest : List Value} (T : TypeId) (hc : VRL g cs us) (len sz c d : Nat) (hlen : us.length = len * sz) (hle : len ≤ c) (hrest : rest.length = (c - len) * sz) :
    ∃ g' lam', Ext g lam g' lam' ∧ Inv σ0 g0 w0 (mkA m st cs len sz).2 g' lam' (({ w with drawn := d } : World).alloc (.cells (us ++ rest).toArray T (0, 0))) tm ∧ TVR g' lam' (mkA m st cs len sz).1 (.slice (some ⟨w.heap.size, 0, none⟩) len c) := by
  have h' := h.drew d
  obtain ⟨h1, hu, ho, h0⟩ := h'.alloc (.cells (us ++ rest).toArray T (0, 0))
  have ha := alloc_at ({ w with drawn := d } : World) (.cells (us ++ rest).toArray T (0, 0))
  have hsz : c * sz ≤ (us ++ rest).toArray.size := by
    simp only [List.size_toArray, List.length_append, hlen, hrest]
    rw [← Nat.add_mul]
    exact Nat.mul_le_mul_right _ (by omega)
  have hobj : ObjAt g (({ w with drawn := d } : World).alloc (.cells (us ++ rest).toArray T (0, 0))) (w.heap.size, (us ++ rest).toArray.size) cs := by
    refine ⟨_, T, ha, rfl, ?_⟩
    simp only
    rw [VRL_length hc, List.take_left]
    exact hc
  exact mkA_ok h1 m (b := (w.heap.size, (us ++ rest).toArray.size)) hu ho (.inr h0) hobj len sz c hle hsz 0 (fun _ => rfl)

/-- There is room behind: what is appended is written there. -/
theorem room_ok {P : Program} (hinv : Inv σ0 g0 w0 st g lam w tm) {p : Nat × Nat} (hu : Untr st g lam p.1) (ho : Own σ0 g0 w0 p.1) {d0 : Array Value} {T' : TypeId} (hd : w.heap[p.1]? = some (.cells d0 T' (0, 0))) (hsz : d0.size = p.2)
    {cs ys : List AV} (hr0 : VRL g cs (d0.toList.take cs.length)) {len sz n : Nat} (hl : cs.length = len * sz) {vs : List Value} (hlen : vs.length = n * sz) (hcs : VRL g ys vs) (hcell : ys.all cellOk = true) {off' c : Nat}
    (he4 : 0 < c → off' = 0 ∧ c * sz ≤ p.2) (hroom : len + n ≤ c) :
    ∃ w', (storeCells ((⟨p.1, off', none⟩ : Addr).add (len * sz)) vs).run P w = .ok () w' ∧ Inv σ0 g0 w0 st g lam w' tm ∧ ObjAt g w' p (cs ++ ys) ∧ (0 < c → off' = 0) := by
  by_cases hc0 : 0 < c
  · obtain ⟨hoff, hsz2⟩ := he4 hc0
    subst hoff
    have h1 : (len + n) * sz ≤ c * sz := Nat.mul_le_mul_right _ hroom
    rw [Nat.add_mul] at h1
    have hfit : (0 + len * sz) + 0 + vs.length ≤ d0.size := by omega
    have hst := run_storeCells_at (P := P) p.1 (0 + len * sz) T' vs 0 d0 w hd hfit (VRL_oneCell hcs hcell)
    simp only [Nat.add_zero, Nat.zero_add] at hst
    refine ⟨_, by rw [add_mk, Nat.zero_add]; exact hst, hinv.world (hdiff_setRow w p.1 _) hu ho, ⟨_, T', setRow_heap w p.1 d0 _ T' (0, 0) hd, ?_, ?_⟩, fun _ => rfl⟩
    · simp; omega
    · have hlv := VRL_length hcs
      have hh : ((d0.toList.take (len * sz) ++ vs ++ d0.toList.drop (len * sz + vs.length)).toArray).toList.take (cs ++ ys).length = d0.toList.take cs.length ++ vs := by
        simp only
        rw [hl, show (cs ++ ys).length = (d0.toList.take (len * sz) ++ vs).length by simp; omega, List.take_left]
      rw [hh]
      exact VRL_append hr0 hcs
  · have e1 : len = 0 := by omega
    have e2 : n = 0 := by omega
    subst e1 e2
    have e3 : vs = [] := by simpa using hlen
    subst e3
    have e4 : ys = [] := by simpa using VRL_length hcs
    subst e4
    refine ⟨w, by simp [storeCells], hinv, ⟨d0, T', hd, hsz, by simpa using hr0⟩, fun h => absurd h hc0⟩

theorem aappend_ok {P : Program} (h : Inv σ0 g0 w0 st g lam w tm) {m : Md} {T ty : TypeId} {x y t : TV} {st' : St} (he : aappend P m st T ty x y = some (t, st')) {vx vy : Value} (hx : TVR g lam x vx) (hy : TVR g lam y vy) (tt : TypeId) :
    ∃ u w' g' lam', (Builtin.append_ #[T, ty] tt #[vx, vy]).run P w = .ok u w' ∧ Ext g lam g' lam' ∧ Inv σ0 g0 w0 st' g' lam' w' tm ∧ TVR g' lam' t u := by
  unfold aappend at he
  split at he
  · rename_i e sz hT
    have hA := appT_ok hT
    split at he
    · rename_i ys n hr
      obtain ⟨hn, vs, hvs, hcs, hlen⟩ := rdS_ok (P := P) h hy hr
      have hvs0 : (Builtin.firstCells sz n vy).run P w = .ok vs.toArray w := hvs w.drawn
      split at he
      · -- nil
        simp only [TVR, VR] at hx; subst hx
        split at he
        · rename_i h0
          subst h0
          simp only [Option.some.injEq, Prod.mk.injEq] at he
          obtain ⟨rfl, rfl⟩ := he
          refine ⟨_, w, g, lam, run_append_in hA tt hn hvs0 (by omega) (fun a ha => by cases ha) (fun _ => rfl), Ext.refl g lam, h, ?_⟩
          simp [TVR, VR]
        · rename_i h0
          split at he
          · rename_i hb
            simp only [Option.some.injEq] at he
            obtain ⟨c, rest, hrun, hc1, hc2⟩ := run_append_grow (xs := []) hA tt (base := none) (len := 0) (cap := 0) hn (by omega) (by omega) hvs (fun d => by simp [Builtin.firstCells])
            simp only [Nat.zero_add, List.nil_append] at hrun hc1 hc2
            obtain ⟨g', lam', hle, h1, h2⟩ := grown_ok h m e hcs n sz c (w.drawn + 1) hlen hc1 hc2
            rw [he] at h1 h2
            exact ⟨_, _, g', lam', hrun, hle, h1, h2⟩
          · cases he
      · -- frozen
        rename_i cs len
        simp only [TVR, VR] at hx
        obtain ⟨b, off, c, T', fz, cap, e1, rfl, e2, e3, e4⟩ := hx
        obtain rfl := (e3 trivial).symm
        split at he
        · rename_i hl
          split at he
          · rename_i h0
            subst h0
            simp only [Option.some.injEq, Prod.mk.injEq] at he
            obtain ⟨rfl, rfl⟩ := he
            have : vs = [] := by simpa using hlen
            subst this
            refine ⟨_, w, g, lam, run_append_in hA tt hn hvs0 (by omega) (fun a ha => by simp [storeCells]) (fun hh => by cases hh), Ext.refl g lam, h, ?_⟩
            simp only [TVR, VR]
            exact ⟨b, off, c, T', fz, len, e1, rfl, Nat.le_refl _, fun _ => rfl, e4⟩
          · rename_i h0
            split at he
            · rename_i hb
              simp only [Option.some.injEq] at he
              have hxs : ∀ d, (Builtin.firstCells sz len (.slice (some ⟨b, off, none⟩) len len)).run P { w with drawn := d } = .ok ((c.toList.drop off).take cs.length).toArray { w with drawn := d } := by
                intro d
                have := load_drawn (P := P) (cellsAt_of (h.wr.imm _ _ e1) off cs.length) d
                rw [← VRL_length e4, hl] at this
                rw [hl]
                exact this
              obtain ⟨c', rest, hrun, hc1, hc2⟩ := run_append_grow hA tt hn (by omega) hb hvs hxs
              obtain ⟨g', lam', hle, h1, h2⟩ := grown_ok h m e (VRL_append e4 hcs) (len + n) sz c' (w.drawn + 1) (by rw [List.length_append, ← VRL_length e4, hl, hlen, Nat.add_mul]) hc1 hc2
              rw [he] at h1 h2
              exact ⟨_, _, g', lam', hrun, hle, h1, h2⟩
            · cases he
        · cases he
      · -- known to be full
        rename_i i off len sz' k
        split at he
        · rename_i hkl
          subst hkl
          have hx0 := hx
          simp only [TVR, VR] at hx
          obtain ⟨p, c, off', e1, rfl, e2, e3, e4⟩ := hx
          have hck := e3 _ rfl
          subst hck
          split at he
          · rename_i h0n
            subst h0n
            simp only [Option.some.injEq, Prod.mk.injEq] at he
            obtain ⟨rfl, rfl⟩ := he
            have : vs = [] := by simpa using hlen
            subst this
            exact ⟨_, w, g, lam, run_append_in hA tt hn hvs0 (by omega) (fun a ha => by simp [storeCells]) (fun hh => by cases hh), Ext.refl g lam, h, hx0⟩
          · rename_i h0n
            split at he
            · rename_i cs l hr2
              split at he
              · rename_i hb
                obtain ⟨rfl, hb⟩ := hb
                simp only [Option.some.injEq] at he
                obtain ⟨_, us, hus, hr0, hlr⟩ := rdS_ok (P := P) h hx0 hr2
                obtain ⟨c', rest, hrun, hc1, hc2⟩ := run_append_grow hA tt hn (by omega) hb hvs hus
                obtain ⟨g', lam', hle, h1, h2⟩ := grown_ok h m e (VRL_append hr0 hcs) (l + n) sz c' (w.drawn + 1) (by rw [List.length_append, hlr, hlen, Nat.add_mul]) hc1 hc2
                rw [he] at h1 h2
                exact ⟨_, _, g', lam', hrun, hle, h1, h2⟩
              · cases he
            · cases he
        · cases he
      · -- known to be full
        rename_i id off len sz' k
        split at he
        · rename_i hkl
          subst hkl
          have hx0 := hx
          simp only [TVR, VR] at hx
          obtain ⟨p, c, off', e1, rfl, e2, e3, e4⟩ := hx
          have hck := e3 _ rfl
          subst hck
          split at he
          · rename_i h0n
            subst h0n
            simp only [Option.some.injEq, Prod.mk.injEq] at he
            obtain ⟨rfl, rfl⟩ := he
            have : vs = [] := by simpa using hlen
            subst this
            exact ⟨_, w, g, lam, run_append_in hA tt hn hvs0 (by omega) (fun a ha => by simp [storeCells]) (fun hh => by cases hh), Ext.refl g lam, h, hx0⟩
          · rename_i h0n
            split at he
            · rename_i cs l hr2
              split at he
              · rename_i hb
                obtain ⟨rfl, hb⟩ := hb
                simp only [Option.some.injEq] at he
                obtain ⟨_, us, hus, hr0, hlr⟩ := rdS_ok (P := P) h hx0 hr2
                obtain ⟨c', rest, hrun, hc1, hc2⟩ := run_append_grow hA tt hn (by omega) hb hvs hus
                obtain ⟨g', lam', hle, h1, h2⟩ := grown_ok h m e (VRL_append hr0 hcs) (l + n) sz c' (w.drawn + 1) (by rw [List.length_append, hlr, hlen, Nat.add_mul]) hc1 hc2
                rw [he] at h1 h2
                exact ⟨_, _, g', lam', hrun, hle, h1, h2⟩
              · cases he
            · cases he
        · cases he
      · -- the frame's own
        rename_i i len sz'
        split at he
        · rename_i cs hcs'
          split at he
          · rename_i hc
            obtain ⟨hl, rfl, hb⟩ := hc
            simp only [TVR] at hx
            obtain ⟨p, c, off', e1, rfl, e2, e3, e4⟩ := hx
            obtain ⟨hkill, hu, ho, ⟨d0, T', hd, hsz, hr0⟩, h0⟩ := h.killLoc hcs' e1
            have hlr : (d0.toList.take cs.length).length = len * sz' := by rw [← VRL_length hr0, hl]
            have hxs : ∀ d, (Builtin.firstCells sz' len (.slice (some ⟨p.1, off', none⟩) len c)).run P { w with drawn := d } = .ok (d0.toList.take cs.length).toArray { w with drawn := d } := by
              intro d
              by_cases hc0 : 0 < c
              · rw [(e4 hc0).1]
                have := load_drawn (P := P) (cellsAt_of hd 0 cs.length) d
                rw [List.drop_zero, hlr] at this
                exact this
              · have : len = 0 := by omega
                subst this
                have : (d0.toList.take cs.length) = [] := by simpa using hlr
                rw [this]
                simp [Builtin.firstCells, loadCells, loadCellsFrom]
            split at he
            · rename_i hcell
              simp only [Option.some.injEq] at he
              by_cases hroom : len + n ≤ c
              · -- there is room
                obtain ⟨w', hst, hinv, hobj, hoff⟩ := room_ok (P := P) hkill hu ho hd hsz hr0 hl hlen hcs hcell (off' := off') (n := n) (c := c) (fun h => ⟨(e4 h).1, by have := (e4 h).2; simpa using this⟩) hroom
                obtain ⟨g', lam', hle, h1, h2⟩ := mkA_ok hinv m hu ho (.inr h0) hobj (len + n) sz' c hroom (by
                  by_cases hc0 : 0 < c
                  · have := (e4 hc0).2; simpa using this
                  · have : c = 0 := by omega
                    subst this; simp) off' hoff
                rw [he] at h1 h2
                exact ⟨_, w', g', lam', run_append_in hA tt hn hvs0 hroom (fun a ha => by cases ha; exact hst) (fun hh => by cases hh), hle, h1, h2⟩
              · obtain ⟨c', rest, hrun, hc1, hc2⟩ := run_append_grow hA tt hn (by omega) hb hvs hxs
                obtain ⟨g', lam', hle, h1, h2⟩ := grown_ok hkill m e (VRL_append hr0 hcs) (len + n) sz' c' (w.drawn + 1) (by rw [List.length_append, hlr, hlen, Nat.add_mul]) hc1 hc2
                rw [he] at h1 h2
                exact ⟨_, _, g', lam', hrun, hle, h1, h2⟩
            · cases he
          · cases he
        · cases he
      · -- of all
        rename_i id len sz'
        split at he
        · rename_i cs hcs'
          split at he
          · rename_i hc
            obtain ⟨hl, rfl, hb⟩ := hc
            simp only [TVR, VR] at hx
            obtain ⟨p, c, off', e1, rfl, e2, e3, e4⟩ := hx
            obtain ⟨hkill, hu, ho, d0, T', hd, hsz, hr0⟩ := h.killGlob hcs' e1
            have hlr : (d0.toList.take cs.length).length = len * sz' := by rw [← VRL_length hr0, hl]
            have hxs : ∀ d, (Builtin.firstCells sz' len (.slice (some ⟨p.1, off', none⟩) len c)).run P { w with drawn := d } = .ok (d0.toList.take cs.length).toArray { w with drawn := d } := by
              intro d
              by_cases hc0 : 0 < c
              · rw [(e4 hc0).1]
                have := load_drawn (P := P) (cellsAt_of hd 0 cs.length) d
                rw [List.drop_zero, hlr] at this
                exact this
              · have : len = 0 := by omega
                subst this
                have : (d0.toList.take cs.length) = [] := by simpa using hlr
                rw [this]
                simp [Builtin.firstCells, loadCells, loadCellsFrom]
            split at he
            · rename_i hcell
              obtain ⟨hm, hcell⟩ := hcell
              simp only [Option.some.injEq] at he
              by_cases hroom : len + n ≤ c
              · -- there is room
                obtain ⟨w', hst, hinv, hobj, hoff⟩ := room_ok (P := P) hkill hu ho hd hsz hr0 hl hlen hcs hcell (off' := off') (n := n) (c := c) (fun h => ⟨(e4 h).1, by have := (e4 h).2; simpa using this⟩) hroom
                obtain ⟨g', lam', hle, h1, h2⟩ := mkA_ok hinv m hu ho (.inl hm) hobj (len + n) sz' c hroom (by
                  by_cases hc0 : 0 < c
                  · have := (e4 hc0).2; simpa using this
                  · have : c = 0 := by omega
                    subst this; simp) off' hoff
                rw [he] at h1 h2
                exact ⟨_, w', g', lam', run_append_in hA tt hn hvs0 hroom (fun a ha => by cases ha; exact hst) (fun hh => by cases hh), hle, h1, h2⟩
              · obtain ⟨c', rest, hrun, hc1, hc2⟩ := run_append_grow hA tt hn (by omega) hb hvs hxs
                obtain ⟨g', lam', hle, h1, h2⟩ := grown_ok hkill m e (VRL_append hr0 hcs) (len + n) sz' c' (w.drawn + 1) (by rw [List.length_append, hlr, hlen, Nat.add_mul]) hc1 hc2
                rw [he] at h1 h2
                exact ⟨_, _, g', lam', hrun, hle, h1, h2⟩
            · cases he
          · cases he
        · cases he
      · cases he
    · cases he
  · cases he
end
end Go.Abs
