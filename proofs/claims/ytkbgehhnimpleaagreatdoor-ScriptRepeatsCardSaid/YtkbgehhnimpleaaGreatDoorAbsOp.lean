/- An abstract reading of the program, and what it answers. By an AI agent. -/
import Derived.Test.YtkbgehhnimpleaaGreatDoorAbsPure
set_option linter.all false
namespace Go.Abs

inductive Md where
  | dflt | glob | loc
  deriving DecidableEq, Inhabited

inductive AR where
  | val (t : TV) (st : St)
  | skip (st : St)
  | call (f : FuncId) (args : List AV) (st : St)

section
variable {σ0 : Store} {g0 : Gh} {w0 : World} {st : St} {g : Gh} {lam : List (Nat × Nat)} {w : World} {tm : List Value}

/-! ### New blocks -/

theorem hdiff_alloc (w : World) (o : Obj) : HDiff w (w.alloc o) w.heap.size :=
  ⟨rfl, rfl, rfl, by show w.heap.size ≤ (w.heap.push o).size; simp, fun b _ hb => by show (w.heap.push o)[b]? = _; rw [Array.getElem?_push, if_neg (by omega)]⟩

theorem alloc_at (w : World) (o : Obj) : (w.alloc o).heap[w.heap.size]? = some o := by
  show (w.heap.push o)[w.heap.size]? = _
  simp

theorem Inv.alloc (h : Inv σ0 g0 w0 st g lam w tm) (o : Obj) :
    Inv σ0 g0 w0 st g lam (w.alloc o) tm ∧ Untr st g lam w.heap.size ∧ Own σ0 g0 w0 w.heap.size ∧ w0.heap.size ≤ w.heap.size := by
  obtain ⟨hu, ho⟩ := h.fresh (b := w.heap.size) (Nat.le_refl _)
  exact ⟨h.world (hdiff_alloc w o) hu ho, hu, ho, h.ev.size⟩

def mkP (m : Md) (frozen : Bool) (st : St) (cs : List AV) : TV × St := match m, frozen with
  | .glob, _ => (.v (.gp st.σ.length 0), { st with σ := st.σ ++ [some cs] })
  | .dflt, true => (.v (.ip cs), st)
  | _, _ => (.lp st.loc.length 0, { st with loc := st.loc ++ [some cs] })

def mkS (m : Md) (st : St) (cs : List AV) (len sz : Nat) : TV × St := match m with
  | .glob => (.v (.gs st.σ.length 0 len sz (some len)), { st with σ := st.σ ++ [some cs] })
  | .dflt => (.v (.is cs len true), st)
  | .loc => (.ls st.loc.length 0 len sz (some len), { st with loc := st.loc ++ [some cs] })

/-- Grown by append: how much more there is room for is not known. -/
def mkA (m : Md) (st : St) (cs : List AV) (len sz : Nat) : TV × St := match m with
  | .glob => (.v (.gs st.σ.length 0 len sz none), { st with σ := st.σ ++ [some cs] })
  | _ => (.ls st.loc.length 0 len sz none, { st with loc := st.loc ++ [some cs] })

theorem take_self {g : Gh} {cs : List AV} {c : List Value} (h : VRL g cs c) : VRL g cs (c.take cs.length) := by
  rw [VRL_length h, List.take_length]; exact h

theorem mkP_ok (h : Inv σ0 g0 w0 st g lam w tm) (m : Md) (frozen : Bool) {cs : List AV} {c : Array Value} (T : TypeId) (hc : VRL g cs c.toList) :
    ∃ g' lam', Ext g lam g' lam' ∧ Inv σ0 g0 w0 (mkP m frozen st cs).2 g' lam' (w.alloc (.cells c T (0, 0))) tm ∧ TVR g' lam' (mkP m frozen st cs).1 (.pointer (some ⟨w.heap.size, 0, none⟩)) := by
  obtain ⟨h1, hu, ho, h0⟩ := h.alloc (.cells c T (0, 0))
  have ha := alloc_at w (.cells c T (0, 0))
  have hobj : ObjAt g (w.alloc (.cells c T (0, 0))) (w.heap.size, c.size) cs := ⟨c, T, ha, rfl, take_self hc⟩
  have glob : ∃ g' lam', Ext g lam g' lam' ∧ Inv σ0 g0 w0 { st with σ := st.σ ++ [some cs] } g' lam' (w.alloc (.cells c T (0, 0))) tm ∧ TVR g' lam' (.v (.gp st.σ.length 0)) (.pointer (some ⟨w.heap.size, 0, none⟩)) := by
    obtain ⟨g', hle, hβ, _, h2⟩ := h1.addGlob hu ho hobj
    exact ⟨g', lam, Ext.of lam hle, h2, by simp only [TVR, VR]; exact ⟨_, hβ, rfl⟩⟩
  have loc : ∃ g' lam', Ext g lam g' lam' ∧ Inv σ0 g0 w0 { st with loc := st.loc ++ [some cs] } g' lam' (w.alloc (.cells c T (0, 0))) tm ∧ TVR g' lam' (.lp st.loc.length 0) (.pointer (some ⟨w.heap.size, 0, none⟩)) := by
    obtain ⟨h2, hl⟩ := h1.addLoc hu h0 hobj
    exact ⟨g, _, Ext.app lam _, h2, _, hl, rfl⟩
  have fro : ∃ g' lam', Ext g lam g' lam' ∧ Inv σ0 g0 w0 st g' lam' (w.alloc (.cells c T (0, 0))) tm ∧ TVR g' lam' (.v (.ip cs)) (.pointer (some ⟨w.heap.size, 0, none⟩)) := by
    obtain ⟨g', hle, hi, _, h2⟩ := h1.addImm hu h0 ha
    refine ⟨g', lam, Ext.of lam hle, h2, ?_⟩
    simp only [TVR, VR]
    exact ⟨_, 0, c, T, (0, 0), hi, rfl, by simpa using take_self (VRL_mono hle _ _ hc)⟩
  cases m <;> cases frozen <;> first | exact glob | exact loc | exact fro

theorem mkS_ok (h : Inv σ0 g0 w0 st g lam w tm) (m : Md) {cs : List AV} {c : Array Value} (T : TypeId) (hc : VRL g cs c.toList) (len sz : Nat) (hls : len * sz = c.size) :
    ∃ g' lam', Ext g lam g' lam' ∧ Inv σ0 g0 w0 (mkS m st cs len sz).2 g' lam' (w.alloc (.cells c T (0, 0))) tm ∧ TVR g' lam' (mkS m st cs len sz).1 (.slice (some ⟨w.heap.size, 0, none⟩) len len) := by
  obtain ⟨h1, hu, ho, h0⟩ := h.alloc (.cells c T (0, 0))
  have ha := alloc_at w (.cells c T (0, 0))
  have hobj : ObjAt g (w.alloc (.cells c T (0, 0))) (w.heap.size, c.size) cs := ⟨c, T, ha, rfl, take_self hc⟩
  cases m
  · obtain ⟨g', hle, hi, _, h2⟩ := h1.addImm hu h0 ha
    refine ⟨g', lam, Ext.of lam hle, h2, ?_⟩
    simp only [mkS, TVR, VR]
    exact ⟨_, 0, c, T, (0, 0), len, hi, rfl, Nat.le_refl _, fun _ => rfl, by simpa using take_self (VRL_mono hle _ _ hc)⟩
  · obtain ⟨g', hle, hβ, _, h2⟩ := h1.addGlob hu ho hobj
    refine ⟨g', lam, Ext.of lam hle, h2, ?_⟩
    simp only [mkS, TVR, VR]
    exact ⟨_, len, 0, hβ, rfl, Nat.le_refl _, fun k hk => (by cases hk; rfl), fun _ => ⟨rfl, by simp [hls]⟩⟩
  · obtain ⟨h2, hl⟩ := h1.addLoc hu h0 hobj
    exact ⟨g, _, Ext.app lam _, h2, _, len, 0, hl, rfl, Nat.le_refl _, fun k hk => (by cases hk; rfl), fun _ => ⟨rfl, by simp [hls]⟩⟩

theorem mkA_ok (h : Inv σ0 g0 w0 st g lam w tm) (m : Md) {b : Nat × Nat} {cs : List AV} (hu : Untr st g lam b.1) (h0 : Own σ0 g0 w0 b.1) (h0' : m = .glob ∨ w0.heap.size ≤ b.1) (ho : ObjAt g w b cs) (len sz cap : Nat) (hl : len ≤ cap) (hcap : cap * sz ≤ b.2) (off : Nat) (hoff : 0 < cap → off = 0) :
    ∃ g' lam', Ext g lam g' lam' ∧ Inv σ0 g0 w0 (mkA m st cs len sz).2 g' lam' w tm ∧ TVR g' lam' (mkA m st cs len sz).1 (.slice (some ⟨b.1, off, none⟩) len cap) := by
  have loc : w0.heap.size ≤ b.1 → ∃ g' lam', Ext g lam g' lam' ∧ Inv σ0 g0 w0 { st with loc := st.loc ++ [some cs] } g' lam' w tm ∧ TVR g' lam' (.ls st.loc.length 0 len sz none) (.slice (some ⟨b.1, off, none⟩) len cap) := by
    intro h0'
    obtain ⟨h2, hll⟩ := h.addLoc hu h0' ho
    exact ⟨g, _, Ext.app lam _, h2, _, cap, off, hll, rfl, hl, fun k hk => (by cases hk), fun hc => ⟨hoff hc, by omega⟩⟩
  cases m
  · exact loc (by rcases h0' with h | h; · cases h
                  · exact h)
  · obtain ⟨g', hle, hβ, _, h2⟩ := h.addGlob hu h0 ho
    refine ⟨g', lam, Ext.of lam hle, h2, ?_⟩
    simp only [mkA, TVR, VR]
    exact ⟨_, cap, off, hβ, rfl, hl, fun k hk => (by cases hk), fun hc => ⟨hoff hc, by omega⟩⟩
  · exact loc (by rcases h0' with h | h; · cases h
                  · exact h)

/-! ### Parts -/

def afill (place : Nat → Option (Nat × Nat)) (cells : List AV) : List (Nat × AV) → Option (List AV)
  | [] => some cells
  | (i, a) :: rest => match place i with
    | none => none
    | some (off, size) => if (cellsOf a).length = size ∧ off + (cellsOf a).length ≤ cells.length then
        afill place (cells.take off ++ cellsOf a ++ cells.drop (off + (cellsOf a).length)) rest else none

theorem foldl_set (off : Nat) : ∀ (l : List Value) (k : Nat) (cells : Array Value), off + k + l.length ≤ cells.size →
    ((l.zipIdx k).foldl (fun cs (p : Value × Nat) => cs.setIfInBounds (off + p.2) p.1) cells).toList = cells.toList.take (off + k) ++ l ++ cells.toList.drop (off + k + l.length)
  | [], k, cells, _ => by simp
  | v :: l, k, cells, h => by
    simp only [List.length_cons] at h
    rw [List.zipIdx_cons, List.foldl_cons, foldl_set off l (k + 1) _ (by simp; omega)]
    simp only [Array.toList_setIfInBounds, List.length_cons]
    apply List.ext_getElem?
    intro j
    rw [List.append_assoc, List.append_assoc]
    have hsz : cells.toList.length = cells.size := by simp
    have e1 : (List.take (off + (k + 1)) (cells.toList.set (off + k) v)) = List.take (off + k) cells.toList ++ [v] := by
      rw [show off + (k + 1) = off + k + 1 by omega, List.take_succ_eq_append_getElem (by simp; omega), List.take_set, List.set_eq_of_length_le (by simp; omega)]
      simp
    have e2 : (List.drop (off + (k + 1) + l.length) (cells.toList.set (off + k) v)) = List.drop (off + k + (l.length + 1)) cells.toList := by
      rw [List.drop_set]
      rw [if_pos (by omega)]
      congr 1
      omega
    rw [e1, e2]
    simp

theorem afill_ok {g : Gh} {place : Nat → Option (Nat × Nat)} : ∀ {parts : List (Nat × AV)} {vs : List Value} {cells : List AV} {cs : Array Value} {out : List AV},
    VRL g cells cs.toList → VRL g (parts.map (·.2)) vs → afill place cells parts = some out →
    ∃ o, Instr.fill place cs ((parts.map (·.1)).zip vs) = some o ∧ VRL g out o.toList
  | [], vs, cells, cs, out, hc, hv, h => by
    simp only [afill, Option.some.injEq] at h
    subst h
    simp only [List.map_nil, VRL] at hv
    subst hv
    exact ⟨cs, by simp [Instr.fill], hc⟩
  | (i, a) :: rest, vs, cells, cs, out, hc, hv, h => by
    simp only [List.map_cons, VRL] at hv
    obtain ⟨v, vs', rfl, h1, h2⟩ := hv
    simp only [afill] at h
    split at h
    · cases h
    · rename_i off size hp
      split at h
      · rename_i hle
        obtain ⟨he, hle⟩ := hle
        have hcell := VR_cells h1
        have hl1 : (cellsOf a).length = v.cells.size := by simpa using VRL_length hcell
        have hl2 : cells.length = cs.size := by simpa using VRL_length hc
        have hf := foldl_set off v.cells.toList 0 cs (by simp; omega)
        simp only [Nat.add_zero] at hf
        have hnew : VRL g (cells.take off ++ cellsOf a ++ cells.drop (off + (cellsOf a).length)) ((v.cells.toList.zipIdx 0).foldl (fun cs (p : Value × Nat) => cs.setIfInBounds (off + p.2) p.1) cs).toList := by
          rw [hf]
          have := VRL_drop (off + (cellsOf a).length) hc
          rw [hl1] at this
          rw [hl1]
          exact VRL_append (VRL_append (VRL_take off hc) hcell) (by simpa using this)
        obtain ⟨o, ho1, ho2⟩ := afill_ok hnew h2 h
        refine ⟨o, ?_, ho2⟩
        simp only [List.map_cons, List.zip_cons_cons, Instr.fill, hp]
        rw [if_neg (by simp; omega)]
        rw [← ho1]
        congr 1
        rw [← Array.foldl_toList, Array.toList_zipIdx]
      · cases h

def azero (P : Program) (T : TypeId) : Option (List AV) := match P.info? T with
  | some i => match i.zero with
    | some z => some (z.cells.toList.map .sc)
    | none => none
  | none => none

theorem azero_ok {P : Program} {T : TypeId} {cs : List AV} (h : azero P T = some cs) (g : Gh) (w : World) : ∃ z : Value, (zeroValue T).run P w = .ok z w ∧ VRL g cs z.cells.toList ∧ (∃ i, P.info? T = some i ∧ i.zero = some z) := by
  unfold azero at h
  split at h
  · rename_i i hi
    split at h
    · rename_i z hz
      cases h
      exact ⟨z, by simp [zeroValue, typeInfo, hi, hz], VRL_sc g _, i, hi, hz⟩
    · cases h
  · cases h

def abuild (P : Program) (T : TypeId) (parts : List (Nat × AV)) : Option (List AV) := match azero P T, P.underlying T with
  | some z, some (.array _ e) => match szOf P e with
    | some n => afill (fun i => some (i * n, n)) z parts
    | none => none
  | some z, some (.struct fields) => match fields.toList.mapM (fun f => (P.info? f.type).map fun i => (f.offset, i.size)) with
    | some places => afill (places.toArray[·]?) z parts
    | none => none
  | _, _ => none

theorem abuild_ok {P : Program} {g : Gh} {T : TypeId} {parts : List (Nat × AV)} {vs : List Value} (hv : VRL g (parts.map (·.2)) vs) {out : List AV} (h : abuild P T parts = some out) (w : World) :
    ∃ o : Array Value, (Instr.build T ((parts.map (·.1)).zip vs).toArray).run P w = .ok (.agg o) w ∧ VRL g out o.toList := by
  unfold abuild at h
  split at h
  · rename_i z e z' h1 h2
    obtain ⟨zv, _, hz, i, hi, hzi⟩ := azero_ok h1 g w
    split at h
    · rename_i n hn
      obtain ⟨o, ho1, ho2⟩ := afill_ok hz hv h
      refine ⟨o, run_build w T _ o ?_, ho2⟩
      unfold szOf at hn
      cases hie : P.info? z' with
      | none => simp [hie] at hn
      | some ie =>
        simp [hie] at hn
        subst hn
        simp only [Program.built, hi, h2, hzi, hie]
        exact ho1
    · cases h
  · rename_i z fields h1 h2
    obtain ⟨zv, _, hz, i, hi, hzi⟩ := azero_ok h1 g w
    split at h
    · rename_i places hp
      obtain ⟨o, ho1, ho2⟩ := afill_ok hz hv h
      refine ⟨o, run_build w T _ o ?_, ho2⟩
      simp only [Program.built, hi, h2, hzi, hp]
      exact ho1
    · cases h
  · cases h

def abuildS (P : Program) (T : TypeId) (len : Nat) (parts : List (Nat × AV)) : Option (List AV × Nat) := match P.underlying T with
  | some (.slice e) => match szOf P e, azero P e with
    | some n, some z => if len * n ≤ 2 ^ 24 ∧ (0 < len * n ∨ len = 0) ∧ z.length = n then
        (afill (fun i => some (i * n, n)) ((List.range (len * n)).map fun i => z.getD (i % n) (.tup [])) parts).map fun c => (c, n) else none
    | _, _ => none
  | _ => none

theorem VRL_range {g : Gh} {f : Nat → AV} {h : Nat → Value} (hf : ∀ i, VR g (f i) (h i)) : ∀ (l : List Nat), VRL g (l.map f) (l.map h)
  | [] => VRL_nil
  | i :: l => VRL_cons.2 ⟨hf i, VRL_range hf l⟩

theorem VRL_getD {g : Gh} {as : List AV} {vs : List Value} (h : VRL g as vs) {i : Nat} (hi : i < as.length) (a : AV) (v : Value) : VR g (as.getD i a) (vs.getD i v) := by
  obtain ⟨u, hu, hr⟩ := VRL_get h (List.getElem?_eq_getElem hi)
  have e1 : as.getD i a = as[i] := by simp [List.getD, List.getElem?_eq_getElem hi]
  have e2 : vs.getD i v = u := by simp [List.getD, hu]
  rw [e1, e2]
  exact hr

theorem abuildS_ok {P : Program} {g : Gh} {T : TypeId} {len : Nat} {parts : List (Nat × AV)} {vs : List Value} (hv : VRL g (parts.map (·.2)) vs) {out : List AV} {n : Nat} (h : abuildS P T len parts = some (out, n)) (w : World) :
    ∃ (o : Array Value) (e : TypeId), (Instr.buildSlice T len ((parts.map (·.1)).zip vs).toArray).run P w = .ok (.slice (some ⟨w.heap.size, 0, none⟩) len len) (w.alloc (.cells o e (0, 0))) ∧ VRL g out o.toList := by
  unfold abuildS at h
  split at h
  · rename_i e hu
    split at h
    · rename_i n' z hn hz
      split at h
      · rename_i hle
        obtain ⟨hle, hpos, hlen⟩ := hle
        simp only [Option.map_eq_some_iff, Prod.mk.injEq] at h
        obtain ⟨c, hf, rfl, rfl⟩ := h
        rcases hpos with hpos | rfl
        · obtain ⟨zv, hzr, hzc, i, hi, hzi⟩ := azero_ok hz g w
          have hn0 : 0 < n' := by
            rcases Nat.eq_zero_or_pos n' with h0 | h0
            · subst h0; simp at hpos
            · exact h0
          have hzs : z.length = zv.cells.size := by simpa using VRL_length hzc
          have hcells : VRL g ((List.range (len * n')).map fun i => z.getD (i % n') (.tup [])) (((Array.range (len * n')).map (fun i => zv.cells[i % zv.cells.size]!))).toList := by
            simp only [Array.toList_map, Array.toList_range]
            refine VRL_range (fun i => ?_) _
            have hm : i % n' < n' := Nat.mod_lt _ hn0
            have := VRL_getD hzc (i := i % n') (by omega) (.tup []) default
            rw [← hzs, hlen]
            have e2 : zv.cells[i % n']! = zv.cells.toList.getD (i % n') default := by
              rw [List.getD_eq_getElem?_getD, Array.getElem?_toList]
              rw [getElem!_def]
              cases zv.cells[i % n']? <;> rfl
            rw [e2]
            exact this
          obtain ⟨o, ho1, ho2⟩ := afill_ok hcells hv hf
          refine ⟨o, e, ?_, ho2⟩
          simp only [Instr.buildSlice, Sem.run_bind, run_underlying hu, Result.andThen_ok, run_sizeOf' hn]
          rw [if_neg (by omega)]
          simp only [Sem.run_bind, Sem.run_pure, Result.andThen_ok, if_neg (show ¬ len * n' = 0 by omega), hzr, ho1]
          simp [newRow]
        · have hcells : VRL g ((List.range (0 * n')).map fun i => z.getD (i % n') (.tup [])) (((Array.range (0 * n')).map (fun i => (#[] : Array Value)[i % (#[] : Array Value).size]!))).toList := by simp [VRL]
          obtain ⟨o, ho1, ho2⟩ := afill_ok hcells hv hf
          refine ⟨o, e, ?_, ho2⟩
          simp only [Instr.buildSlice, Sem.run_bind, run_underlying hu, Result.andThen_ok, run_sizeOf' hn]
          rw [if_neg (by omega)]
          simp only [Sem.run_bind, Sem.run_pure, Result.andThen_ok, if_pos (show 0 * n' = 0 by omega), ho1]
          simp [newRow]
      · cases h
    · cases h
  · cases h

end
end Go.Abs
