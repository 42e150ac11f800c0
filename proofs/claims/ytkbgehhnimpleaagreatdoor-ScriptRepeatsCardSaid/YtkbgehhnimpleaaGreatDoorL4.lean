/- The tied card of ScriptRepeats is proved here: whatever the input, the call returns true and the input reads as it did; for every start in which the listed package-level variables are as the program lays them. By an AI agent. -/
import Derived.Test.YtkbgehhnimpleaaGreatDoorL0
import Derived.Test.YtkbgehhnimpleaaGreatDoorS17
set_option linter.all false
set_option maxRecDepth 100000
namespace Go.Proofs.YtkbgehhnimpleaaGreatDoor
open Go.ChangeShapes Go.WideShapes Go.ChangeAt Go.RowKit Go.Abs

theorem scriptRepeats_lifted (os : Os) (started : os.Started) (H : Type) (enc : TypeId × Value → H) :
    ReturnsInHanded {} Tryz.checked os 6 .any (fun w args => (Rows.scriptRepeatsSpec.pre enc Tryz.prog Tryz.f6 [] false w args ∧ laidMetH Tryz.prog laidL w) ∧ sizedMet enc Tryz.prog Tryz.f6 (OpenSpec.ofChange Rows.scriptRepeatsSpec) false w args)
      (Rows.scriptRepeatsSpec.post enc Tryz.prog Tryz.f6 false true false false) := by
  refine returnsInHanded_of_change_and (C := Tryz.checked) (X := fun w _ => laidMetH Tryz.prog laidL w) (fun _ _ _ hh h => h.of_heap hh) own started (by kernel_rfl) n6
    (ChangeSpec.witness_shaped (enc := enc) (C := Tryz.checked) (os := os) (X := fun w _ => laidMetH Tryz.prog laidL w) false (World.doorLaid Tryz.prog 400 os) #[.agg #[.int .i64 0, .int .i64 0, .int .i64 0, .int .i64 0, .int .i64 0, .int .i64 0, .int .i64 0, .int .i64 0, .int .i64 0, .int .i64 0, .int .i64 0, .int .i64 0, .int .i64 0], .int .u8 0, .int .u8 0, .slice none 0 0] 8 rfl (World.shaped_of_RefB (by kernel_rfl) (by kernel_rfl)) (by kernel_rfl) (by kernel_rfl) (by kernel_rfl) (door_met os _)) ?_
  intro W base args ds gs before hval0 hW _ _ _ _
  have hval : ∀ (j : Nat) t v, Tryz.f6.params[j]? = some t → args[j]? = some v → Value.okWide Tryz.prog W .any base t v := hval0
  have hW' := hW
  obtain ⟨p, q, hA0, hV, rfl, hfz, hnd⟩ := hW
  have hA : DataW.TrodAll enc Tryz.prog W 0 (fun _ => true) true [23, 5, 5, 24] args.toList ds p := hA0
  obtain ⟨v0, v1, v2, v3, d0, d1, d2, d3, p0, p1, p2, p3, rfl, rfl, hps, h0, h1, h2, h3⟩ := trodAll_four hA
  subst hps
  obtain ⟨rfl, rfl⟩ := trodVars_none hV
  obtain ⟨cs0, hcl0, hvr0, -⟩ := arg_array ty23 ty3 ce3 ce23 (hval 0 23 v0 rfl rfl) h0
  obtain ⟨n1', rfl, rfl, rfl, hn1⟩ := open_int ty5 (hval 1 5 v1 rfl rfl) h1
  obtain ⟨n2', rfl, rfl, rfl, hn2⟩ := open_int ty5 (hval 2 5 v2 rfl rfl) h2
  obtain ⟨bs3, a3, hvr3, hsl3, hwf3⟩ := arg_nums ty24 ty5 ce5 (hval 3 24 v3 rfl rfl) h3
  clear hA0 hval0
  simp only [List.append_nil] at hW'
  have hlt := fun (x : MemPlace) hx => (by simpa using hW'.lt x hx : x.block < W.heap.size)
  have g0' : ∀ (W' : World), Below W.heap.size W W' → DataW.Trod enc Tryz.prog W' 0 (fun b => decide (b < W.heap.size)) true 23 v0 d0 p0 :=
    fun W' hn => Below.trod laidOut (by kernel_rfl) (of_decide_eq_true (by kernel_rfl)) h0 hn (fun x hx => hlt x (by simp [hx]))
  have g3' : ∀ (W' : World), Below W.heap.size W W' → DataW.Trod enc Tryz.prog W' 0 (fun b => decide (b < W.heap.size)) true 24 v3 d3 p3 :=
    fun W' hn => Below.trod laidOut (by kernel_rfl) (of_decide_eq_true (by kernel_rfl)) h3 hn (fun x hx => hlt x (by simp [hx]))
  refine (law_calls (E := ES) ES_calls (repeats_ok hsl3 hcl0 (u8_of hn1).1 (u8_of hn1).2 (u8_of hn2).1 (u8_of hn2).2) (VRL_cons.2 ⟨hvr0, (VRL_cons.2 ⟨(VR_sc _ _), (VRL_cons.2 ⟨(VR_sc _ _), (VRL_cons.2 ⟨hvr3, VRL_nil⟩)⟩)⟩)⟩)).mono fun e W' ⟨he, hnx⟩ => ?_
  subst he
  refine ⟨_, rfl, _, _, _, [], _, [], hW', trodAll_mk1 (shut_bool ty4 _), trodAll_mk4 (g0' _ hnx) (shut_int ty5 hn1) (shut_int ty5 hn2) (g3' _ hnx), rfl, hnx.frame _, fun h => by cases h⟩

theorem scriptRepeats_holds : Rows.ScriptRepeatsSaid :=
  OpenClaim.holds_of_wide 6 Tryz.f6 rfl rfl rfl rfl rfl rfl rfl ⟨rfl, rfl, rfl, rfl, rfl⟩ rfl rfl rfl rfl rfl (by kernel_rfl) n6 (by kernel_rfl)
    (of_decide_eq_true (by kernel_rfl)) (by unfold Func.isWrapper; first | (rw [if_pos (by decide +kernel)]; kernel_rfl) | (rw [if_neg (by decide +kernel)]; exact ⟨rfl, rfl⟩))
    (fun os started H enc _ => scriptRepeats_lifted os started H enc)

theorem scriptRepeats_card : Rows.ScriptRepeatsCardSaid :=
  Claim7.holds_tied_plain_at .later [] [.data, .data, .data] true (true, "7ee59cfadd85b9d8d77ffc91b184254bf60d5ace98b6cf4c77b288a6fe9ad314") false
    scriptRepeats_holds (fun _ h => by cases h) (by kernel_rfl) (fun _ h => by cases h) scriptRepeats_row_tie rfl ⟨rfl, rfl⟩ (by kernel_rfl) rfl
    (fun f fn hf hfn => by
      obtain rfl : f = 6 := Option.some.inj ((show Tryz.prog.funcNamed "knell/knelllaw22.ScriptRepeats" = some 6 by kernel_rfl).symm.trans hf) |>.symm
      obtain rfl : fn = Tryz.f6 := (Option.some.inj (n6.symm.trans hfn)).symm
      exact ⟨by kernel_rfl, fun j t ht => by
        have ht' : (#[23, 5, 5, 24] : Array TypeId)[j]? = some t := ht
        have hm : t ∈ [23, 5, 5, 24] := by simpa using Array.mem_of_getElem? ht'
        have hall : ([23, 5, 5, 24].all fun u => !Tryz.prog.wantsStandIn u) = true := by kernel_rfl
        exact (show Tryz.prog.wantsStandIn t = false by simpa using List.all_eq_true.1 hall t hm)⟩)
    (by kernel_rfl)
#print axioms scriptRepeats_card
end Go.Proofs.YtkbgehhnimpleaaGreatDoor
