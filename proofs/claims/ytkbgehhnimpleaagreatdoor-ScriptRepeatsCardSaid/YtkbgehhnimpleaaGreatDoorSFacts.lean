/- An abstract reading of the program, and what it answers. By an AI agent. -/
import Derived.Test.YtkbgehhnimpleaaGreatDoorEvalS
set_option linter.all false
namespace Go.Abs
open Go.Proofs
def mdT : List (Nat × Nat × Md) := [(3, 35, .glob), (5, 36, .glob), (8, 13, .glob), (9, 27, .glob), (9, 46, .glob), (25, 9, .glob), (29, 3, .loc), (31, 19, .glob), (31, 17, .glob), (40, 25, .glob), (41, 25, .glob), (41, 40, .glob), (41, 66, .glob), (41, 3, .glob), (47, 18, .glob), (48, 4, .glob), (62, 20, .loc), (63, 10, .glob), (70, 2, .glob), (89, 5, .glob), (91, 3, .loc), (100, 13, .glob), (100, 11, .glob), (105, 15, .glob), (114, 11, .glob), (165, 6, .glob), (273, 6, .glob), (304, 12, .glob)]
def atT : List (Nat × AtK) := [(127, .store), (130, .add .u64), (176, .add .i64), (221, .load .u64), (264, .cas .u64), (336, .swap .u64)]
def kpT : List (Nat × List Nat) := [(6, [9, 10, 13, 14, 59, 60, 71, 72]), (9, [1, 2, 6, 7, 8]), (10, [0, 2, 5, 7, 10, 18]), (11, [0, 2, 5, 6, 7, 8, 9, 12, 13, 16, 17, 18, 20]), (13, [0, 1, 5]), (14, [3, 7, 8, 9]), (15, [7, 8, 32, 33, 34]), (20, [0, 1, 5, 6]), (22, [0, 1, 7, 8]), (24, [4, 22, 23]), (25, [0, 8, 9, 57, 58, 59]), (26, [0, 1, 8, 9]), (37, [1, 4]), (45, [2, 5, 6, 7])]
noncomputable def ES : Env := { P := Tryz.prog, md := lookup mdT, at_ := lookupA atT, prim := fun _ => none, eqb := beqAV, keep := lookupK kpT }
theorem ES_P : ES.P = Tryz.prog := rfl
theorem ES_prim (f : FuncId) : ES.prim f = none := rfl
theorem ES_at : ES.at_ = lookupA atT := rfl
theorem n3 : Tryz.prog.funcs[3]? = some Tryz.f3 := by kernel_rfl -- knell/knelllaw22.ScriptReads
theorem t3 : ES.at_ 3 = none := by rfl
theorem c3 : acallable Tryz.prog 3 = true := by kernel_rfl
theorem m3_3 : ES.md 3 3 = .dflt := by rfl
theorem c8 : acallable Tryz.prog 8 = true := by kernel_rfl
theorem u24 : Tryz.prog.underlying 24 = some (.slice 5) := by kernel_rfl
theorem m3_19 : ES.md 3 19 = .dflt := by rfl
theorem s23 : szOf Tryz.prog 23 = some 13 := by kernel_rfl
theorem g23 : isAggB Tryz.prog 23 = some true := by kernel_rfl
theorem c9 : acallable Tryz.prog 9 = true := by kernel_rfl
theorem u3 : Tryz.prog.underlying 3 = some (.int .i64) := by kernel_rfl
theorem a24_24 : appT Tryz.prog 24 24 = some (5, 1) := by kernel_rfl
theorem m3_35 : ES.md 3 35 = .glob := by rfl
theorem c10 : acallable Tryz.prog 10 = true := by kernel_rfl
theorem z29 : azero Tryz.prog 29 = some [.sc (.int .i64 0), .sc (.int .i64 0), .sc (.int .i64 0), .sc (.int .i64 0), .sc (.int .i64 0), .sc (.int .i64 0), .sc (.int .i64 0), .sc (.int .i64 0), .sc (.int .i64 0), .sc (.int .i64 0), .sc (.int .i64 0), .sc (.int .i64 0), .sc (.int .i64 0)] := by kernel_rfl
theorem m3_9 : ES.md 3 9 = .dflt := by rfl
theorem s29 : szOf Tryz.prog 29 = some 13 := by kernel_rfl
theorem c11 : acallable Tryz.prog 11 = true := by kernel_rfl
theorem z23 : azero Tryz.prog 23 = some [.sc (.int .i64 0), .sc (.int .i64 0), .sc (.int .i64 0), .sc (.int .i64 0), .sc (.int .i64 0), .sc (.int .i64 0), .sc (.int .i64 0), .sc (.int .i64 0), .sc (.int .i64 0), .sc (.int .i64 0), .sc (.int .i64 0), .sc (.int .i64 0), .sc (.int .i64 0)] := by kernel_rfl
theorem m3_12 : ES.md 3 12 = .dflt := by rfl
theorem g29 : isAggB Tryz.prog 29 = some true := by kernel_rfl
theorem c12 : acallable Tryz.prog 12 = true := by kernel_rfl
theorem q29 (cs : List AV) : eqKind Tryz.prog 29 (.agg cs) = true := by kernel_rfl
theorem hh29 : Tryz.prog.stoodInHeld 29 = false := by kernel_rfl
theorem s3 : szOf Tryz.prog 3 = some 1 := by kernel_rfl
theorem g3 : isAggB Tryz.prog 3 = some false := by kernel_rfl
theorem c14 : acallable Tryz.prog 14 = true := by kernel_rfl
theorem c13 : acallable Tryz.prog 13 = true := by kernel_rfl
theorem w3 {a0 a1 a2 : AV} {σ : Store} {R : AV → Store → Prop} (n : Nat) (h : WP ES 3 n [.code (bodyOf Tryz.f3)] .normal ⟨σ, [], .v a0 :: .v a1 :: .v a2 :: undefT :: undefT :: undefT :: undefT :: undefT :: undefT :: undefT :: undefT :: undefT :: undefT :: undefT :: undefT :: undefT :: undefT :: undefT :: undefT :: undefT :: undefT :: undefT :: undefT :: undefT :: undefT :: undefT :: undefT :: undefT :: undefT :: undefT :: undefT :: undefT :: undefT :: undefT :: undefT :: undefT :: undefT :: undefT :: undefT :: undefT :: undefT :: undefT :: undefT :: undefT :: undefT :: undefT :: undefT :: undefT :: undefT :: undefT :: undefT :: undefT :: undefT :: undefT :: undefT :: undefT :: undefT :: undefT :: undefT :: undefT :: undefT :: undefT :: undefT :: []⟩ (Fin ES [.tmp 6] R)) : Ans ES 3 [a0, a1, a2] σ R := Ans_body (fn := Tryz.f3) n (ES_prim _) n3 (by rfl) rfl rfl h
theorem t8 : ES.at_ 8 = none := by rfl
theorem t9 : ES.at_ 9 = none := by rfl
theorem t10 : ES.at_ 10 = none := by rfl
theorem t11 : ES.at_ 11 = none := by rfl
theorem t12 : ES.at_ 12 = none := by rfl
theorem t13 : ES.at_ 13 = none := by rfl
theorem t14 : ES.at_ 14 = none := by rfl
theorem n4 : Tryz.prog.funcs[4]? = some Tryz.f4 := by kernel_rfl -- knell/knelllaw22.ScriptErrs
theorem t4 : ES.at_ 4 = none := by rfl
theorem c4 : acallable Tryz.prog 4 = true := by kernel_rfl
theorem m4_15 : ES.md 4 15 = .dflt := by rfl
theorem m4_3 : ES.md 4 3 = .dflt := by rfl
theorem c15 : acallable Tryz.prog 15 = true := by kernel_rfl
theorem m4_8 : ES.md 4 8 = .dflt := by rfl
theorem u31 : Tryz.prog.underlying 31 = some (.int .i64) := by kernel_rfl
theorem u41 : Tryz.prog.underlying 41 = some (.slice 9) := by kernel_rfl
theorem m4_48 : ES.md 4 48 = .dflt := by rfl
theorem u30 : Tryz.prog.underlying 30 = some (.slice 56) := by kernel_rfl
theorem m4_53 : ES.md 4 53 = .dflt := by rfl
theorem bb29_  : abuild Tryz.prog 29 [] = some [.sc (.int .i64 0), .sc (.int .i64 0), .sc (.int .i64 0), .sc (.int .i64 0), .sc (.int .i64 0), .sc (.int .i64 0), .sc (.int .i64 0), .sc (.int .i64 0), .sc (.int .i64 0), .sc (.int .i64 0), .sc (.int .i64 0), .sc (.int .i64 0), .sc (.int .i64 0)] := by kernel_rfl
theorem w4 {a0 : AV} {σ : Store} {R : AV → Store → Prop} (n : Nat) (h : WP ES 4 n [.code (bodyOf Tryz.f4)] .normal ⟨σ, [], .v a0 :: undefT :: undefT :: undefT :: undefT :: undefT :: undefT :: undefT :: undefT :: undefT :: undefT :: undefT :: undefT :: undefT :: undefT :: undefT :: undefT :: undefT :: undefT :: undefT :: undefT :: undefT :: undefT :: undefT :: undefT :: undefT :: undefT :: undefT :: undefT :: undefT :: undefT :: undefT :: undefT :: undefT :: undefT :: undefT :: undefT :: undefT :: undefT :: undefT :: undefT :: undefT :: undefT :: undefT :: undefT :: undefT :: undefT :: undefT :: undefT :: undefT :: undefT :: undefT :: undefT :: undefT :: undefT :: undefT :: undefT :: undefT :: undefT :: undefT :: undefT :: []⟩ (Fin ES [.tmp 2] R)) : Ans ES 4 [a0] σ R := Ans_body (fn := Tryz.f4) n (ES_prim _) n4 (by rfl) rfl rfl h
theorem t15 : ES.at_ 15 = none := by rfl
theorem n5 : Tryz.prog.funcs[5]? = some Tryz.f5 := by kernel_rfl -- knell/knelllaw22.ScriptCuts
theorem t5 : ES.at_ 5 = none := by rfl
theorem c5 : acallable Tryz.prog 5 = true := by kernel_rfl
theorem m5_3 : ES.md 5 3 = .dflt := by rfl
theorem m5_20 : ES.md 5 20 = .dflt := by rfl
theorem c16 : acallable Tryz.prog 16 = true := by kernel_rfl
theorem m5_36 : ES.md 5 36 = .glob := by rfl
theorem m5_10 : ES.md 5 10 = .dflt := by rfl
theorem u45 : Tryz.prog.underlying 45 = some (.int .u16) := by kernel_rfl
theorem m5_50 : ES.md 5 50 = .dflt := by rfl
theorem s5 : szOf Tryz.prog 5 = some 1 := by kernel_rfl
theorem z5 : azero Tryz.prog 5 = some [.sc (.int .u8 0)] := by kernel_rfl
theorem g5 : isAggB Tryz.prog 5 = some false := by kernel_rfl
theorem m5_13 : ES.md 5 13 = .dflt := by rfl
theorem m5_73 : ES.md 5 73 = .dflt := by rfl
theorem m5_75 : ES.md 5 75 = .dflt := by rfl
theorem m5_83 : ES.md 5 83 = .dflt := by rfl
theorem s56 : szOf Tryz.prog 56 = some 8 := by kernel_rfl
theorem z56 : azero Tryz.prog 56 = some [.sc (.int .i64 0), .sc (.int .i64 0), .sc (.int .i64 0), .sc (.int .i64 0), .sc (.int .i64 0), .sc (.int .i64 0), .sc (.int .i64 0), .sc (.int .i64 0)] := by kernel_rfl
theorem g56 : isAggB Tryz.prog 56 = some true := by kernel_rfl
theorem w5 {a0 a1 a2 : AV} {σ : Store} {R : AV → Store → Prop} (n : Nat) (h : WP ES 5 n [.code (bodyOf Tryz.f5)] .normal ⟨σ, [], .v a0 :: .v a1 :: .v a2 :: undefT :: undefT :: undefT :: undefT :: undefT :: undefT :: undefT :: undefT :: undefT :: undefT :: undefT :: undefT :: undefT :: undefT :: undefT :: undefT :: undefT :: undefT :: undefT :: undefT :: undefT :: undefT :: undefT :: undefT :: undefT :: undefT :: undefT :: undefT :: undefT :: undefT :: undefT :: undefT :: undefT :: undefT :: undefT :: undefT :: undefT :: undefT :: undefT :: undefT :: undefT :: undefT :: undefT :: undefT :: undefT :: undefT :: undefT :: undefT :: undefT :: undefT :: undefT :: undefT :: undefT :: undefT :: undefT :: undefT :: undefT :: undefT :: undefT :: undefT :: undefT :: undefT :: undefT :: undefT :: undefT :: undefT :: undefT :: undefT :: undefT :: undefT :: undefT :: undefT :: undefT :: undefT :: undefT :: undefT :: undefT :: undefT :: undefT :: undefT :: undefT :: undefT :: undefT :: undefT :: undefT :: []⟩ (Fin ES [.tmp 6] R)) : Ans ES 5 [a0, a1, a2] σ R := Ans_body (fn := Tryz.f5) n (ES_prim _) n5 (by rfl) rfl rfl h
theorem t16 : ES.at_ 16 = none := by rfl
theorem n6 : Tryz.prog.funcs[6]? = some Tryz.f6 := by kernel_rfl -- knell/knelllaw22.ScriptRepeats
theorem t6 : ES.at_ 6 = none := by rfl
theorem c6 : acallable Tryz.prog 6 = true := by kernel_rfl
theorem m6_4 : ES.md 6 4 = .dflt := by rfl
theorem m6_30 : ES.md 6 30 = .dflt := by rfl
theorem m6_43 : ES.md 6 43 = .dflt := by rfl
theorem bs24_0_  : abuildS Tryz.prog 24 0 [] = some ([], 1) := by kernel_rfl
theorem m6_45 : ES.md 6 45 = .dflt := by rfl
theorem m6_52 : ES.md 6 52 = .dflt := by rfl
theorem bs24_3_0_1_2 (x0 : Int) (x1 : Int) (x2 : Int) : abuildS Tryz.prog 24 3 [(0, .sc (.int .u8 x0)), (1, .sc (.int .u8 x1)), (2, .sc (.int .u8 x2))] = some ([.sc (.int .u8 x0), .sc (.int .u8 x1), .sc (.int .u8 x2)], 1) := by kernel_rfl
theorem m6_53 : ES.md 6 53 = .dflt := by rfl
theorem m6_54 : ES.md 6 54 = .dflt := by rfl
theorem m6_56 : ES.md 6 56 = .dflt := by rfl
theorem u5 : Tryz.prog.underlying 5 = some (.int .u8) := by kernel_rfl
theorem m6_66 : ES.md 6 66 = .dflt := by rfl
theorem sl24 (x : Int) : abuildS Tryz.prog 24 1 [(0, .sc (.int .u8 x))] = some ([.sc (.int .u8 x)], 1) := by kernel_rfl
theorem m6_67 : ES.md 6 67 = .dflt := by rfl
theorem m6_75 : ES.md 6 75 = .dflt := by rfl
theorem m6_76 : ES.md 6 76 = .dflt := by rfl
theorem m6_15 : ES.md 6 15 = .dflt := by rfl
theorem m6_18 : ES.md 6 18 = .dflt := by rfl
theorem m6_98 : ES.md 6 98 = .dflt := by rfl
theorem w6 {a0 a1 a2 a3 : AV} {σ : Store} {R : AV → Store → Prop} (n : Nat) (h : WP ES 6 n [.code (bodyOf Tryz.f6)] .normal ⟨σ, [], .v a0 :: .v a1 :: .v a2 :: .v a3 :: undefT :: undefT :: undefT :: undefT :: undefT :: undefT :: undefT :: undefT :: undefT :: undefT :: undefT :: undefT :: undefT :: undefT :: undefT :: undefT :: undefT :: undefT :: undefT :: undefT :: undefT :: undefT :: undefT :: undefT :: undefT :: undefT :: undefT :: undefT :: undefT :: undefT :: undefT :: undefT :: undefT :: undefT :: undefT :: undefT :: undefT :: undefT :: undefT :: undefT :: undefT :: undefT :: undefT :: undefT :: undefT :: undefT :: undefT :: undefT :: undefT :: undefT :: undefT :: undefT :: undefT :: undefT :: undefT :: undefT :: undefT :: undefT :: undefT :: undefT :: undefT :: undefT :: undefT :: undefT :: undefT :: undefT :: undefT :: undefT :: undefT :: undefT :: undefT :: undefT :: undefT :: undefT :: undefT :: undefT :: undefT :: undefT :: undefT :: undefT :: undefT :: undefT :: undefT :: undefT :: undefT :: undefT :: undefT :: undefT :: undefT :: undefT :: undefT :: undefT :: undefT :: undefT :: undefT :: undefT :: undefT :: undefT :: undefT :: undefT :: undefT :: undefT :: undefT :: undefT :: undefT :: undefT :: undefT :: undefT :: []⟩ (Fin ES [.tmp 8] R)) : Ans ES 6 [a0, a1, a2, a3] σ R := Ans_body (fn := Tryz.f6) n (ES_prim _) n6 (by rfl) rfl rfl h
def h6 (σ loc : Store) (t9 t10 t13 t14 t59 t60 t71 t72 : TV) : St := ⟨σ, loc, .top :: .top :: .top :: .top :: .top :: .top :: .top :: .top :: .top :: t9 :: t10 :: .top :: .top :: t13 :: t14 :: .top :: .top :: .top :: .top :: .top :: .top :: .top :: .top :: .top :: .top :: .top :: .top :: .top :: .top :: .top :: .top :: .top :: .top :: .top :: .top :: .top :: .top :: .top :: .top :: .top :: .top :: .top :: .top :: .top :: .top :: .top :: .top :: .top :: .top :: .top :: .top :: .top :: .top :: .top :: .top :: .top :: .top :: .top :: .top :: t59 :: t60 :: .top :: .top :: .top :: .top :: .top :: .top :: .top :: .top :: .top :: .top :: t71 :: t72 :: .top :: .top :: .top :: .top :: .top :: .top :: .top :: .top :: .top :: .top :: .top :: .top :: .top :: .top :: .top :: .top :: .top :: .top :: .top :: .top :: .top :: .top :: .top :: .top :: .top :: .top :: .top :: .top :: .top :: .top :: .top :: .top :: .top :: .top :: .top :: .top :: .top :: .top :: .top :: []⟩
theorem k6 (σ loc : Store) (t0 t1 t2 t3 t4 t5 t6 t7 t8 t9 t10 t11 t12 t13 t14 t15 t16 t17 t18 t19 t20 t21 t22 t23 t24 t25 t26 t27 t28 t29 t30 t31 t32 t33 t34 t35 t36 t37 t38 t39 t40 t41 t42 t43 t44 t45 t46 t47 t48 t49 t50 t51 t52 t53 t54 t55 t56 t57 t58 t59 t60 t61 t62 t63 t64 t65 t66 t67 t68 t69 t70 t71 t72 t73 t74 t75 t76 t77 t78 t79 t80 t81 t82 t83 t84 t85 t86 t87 t88 t89 t90 t91 t92 t93 t94 t95 t96 t97 t98 t99 t100 t101 t102 t103 t104 t105 t106 t107 t108 t109 t110 t111 : TV) : forget ES 6 ⟨σ, loc, t0 :: t1 :: t2 :: t3 :: t4 :: t5 :: t6 :: t7 :: t8 :: t9 :: t10 :: t11 :: t12 :: t13 :: t14 :: t15 :: t16 :: t17 :: t18 :: t19 :: t20 :: t21 :: t22 :: t23 :: t24 :: t25 :: t26 :: t27 :: t28 :: t29 :: t30 :: t31 :: t32 :: t33 :: t34 :: t35 :: t36 :: t37 :: t38 :: t39 :: t40 :: t41 :: t42 :: t43 :: t44 :: t45 :: t46 :: t47 :: t48 :: t49 :: t50 :: t51 :: t52 :: t53 :: t54 :: t55 :: t56 :: t57 :: t58 :: t59 :: t60 :: t61 :: t62 :: t63 :: t64 :: t65 :: t66 :: t67 :: t68 :: t69 :: t70 :: t71 :: t72 :: t73 :: t74 :: t75 :: t76 :: t77 :: t78 :: t79 :: t80 :: t81 :: t82 :: t83 :: t84 :: t85 :: t86 :: t87 :: t88 :: t89 :: t90 :: t91 :: t92 :: t93 :: t94 :: t95 :: t96 :: t97 :: t98 :: t99 :: t100 :: t101 :: t102 :: t103 :: t104 :: t105 :: t106 :: t107 :: t108 :: t109 :: t110 :: t111 :: []⟩ = h6 σ loc t9 t10 t13 t14 t59 t60 t71 t72 := by rfl
theorem n8 : Tryz.prog.funcs[8]? = some Tryz.f8 := by kernel_rfl -- knell/knelllaw22.speaks
theorem c19 : acallable Tryz.prog 19 = true := by kernel_rfl
theorem m8_12 : ES.md 8 12 = .dflt := by rfl
theorem m8_13 : ES.md 8 13 = .glob := by rfl
theorem m8_21 : ES.md 8 21 = .dflt := by rfl
theorem s9 : szOf Tryz.prog 9 = some 1 := by kernel_rfl
theorem z9 : azero Tryz.prog 9 = some [.sc (.string ⟨#[]⟩)] := by kernel_rfl
theorem g9 : isAggB Tryz.prog 9 = some false := by kernel_rfl
theorem u9 : Tryz.prog.underlying 9 = some .string := by kernel_rfl
theorem w8  {σ : Store} {R : AV → Store → Prop} (n : Nat) (h : WP ES 8 n [.code (bodyOf Tryz.f8)] .normal ⟨σ, [], undefT :: undefT :: undefT :: undefT :: undefT :: undefT :: undefT :: undefT :: undefT :: undefT :: undefT :: undefT :: undefT :: undefT :: undefT :: undefT :: undefT :: undefT :: undefT :: undefT :: undefT :: undefT :: undefT :: undefT :: undefT :: undefT :: undefT :: undefT :: undefT :: undefT :: undefT :: undefT :: undefT :: undefT :: undefT :: undefT :: undefT :: undefT :: undefT :: undefT :: undefT :: undefT :: []⟩ (Fin ES [.tmp 0] R)) : Ans ES 8 [] σ R := Ans_body (fn := Tryz.f8) n (ES_prim _) n8 (by rfl) rfl rfl h
theorem t19 : ES.at_ 19 = none := by rfl
theorem n9 : Tryz.prog.funcs[9]? = some Tryz.f9 := by kernel_rfl -- knell/knellref22.Encode
theorem m9_2 : ES.md 9 2 = .dflt := by rfl
theorem u34 : Tryz.prog.underlying 34 = some (.slice 53) := by kernel_rfl
theorem m9_15 : ES.md 9 15 = .dflt := by rfl
theorem m9_17 : ES.md 9 17 = .dflt := by rfl
theorem u23 : Tryz.prog.underlying 23 = some (.array 13 3) := by kernel_rfl
theorem z3 : azero Tryz.prog 3 = some [.sc (.int .i64 0)] := by kernel_rfl
theorem c20 : acallable Tryz.prog 20 = true := by kernel_rfl
theorem m9_27 : ES.md 9 27 = .glob := by rfl
theorem m9_30 : ES.md 9 30 = .dflt := by rfl
theorem s53 : szOf Tryz.prog 53 = some 8 := by kernel_rfl
theorem z53 : azero Tryz.prog 53 = some [.sc (.int .i64 0), .sc (.int .i64 0), .sc (.int .i64 0), .sc (.int .i64 0), .sc (.int .i64 0), .sc (.int .i64 0), .sc (.int .i64 0), .sc (.int .i64 0)] := by kernel_rfl
theorem g53 : isAggB Tryz.prog 53 = some true := by kernel_rfl
theorem c21 : acallable Tryz.prog 21 = true := by kernel_rfl
theorem m9_46 : ES.md 9 46 = .glob := by rfl
theorem w9 {a0 a1 : AV} {σ : Store} {R : AV → Store → Prop} (n : Nat) (h : WP ES 9 n [.code (bodyOf Tryz.f9)] .normal ⟨σ, [], .v a0 :: .v a1 :: undefT :: undefT :: undefT :: undefT :: undefT :: undefT :: undefT :: undefT :: undefT :: undefT :: undefT :: undefT :: undefT :: undefT :: undefT :: undefT :: undefT :: undefT :: undefT :: undefT :: undefT :: undefT :: undefT :: undefT :: undefT :: undefT :: undefT :: undefT :: undefT :: undefT :: undefT :: undefT :: undefT :: undefT :: undefT :: undefT :: undefT :: undefT :: undefT :: undefT :: undefT :: undefT :: undefT :: undefT :: undefT :: undefT :: []⟩ (Fin ES [.tmp 4, .tmp 5] R)) : Ans ES 9 [a0, a1] σ R := Ans_body (fn := Tryz.f9) n (ES_prim _) n9 (by rfl) rfl rfl h
def h9 (σ loc : Store) (t1 t2 t6 t7 t8 : TV) : St := ⟨σ, loc, .top :: t1 :: t2 :: .top :: .top :: .top :: t6 :: t7 :: t8 :: .top :: .top :: .top :: .top :: .top :: .top :: .top :: .top :: .top :: .top :: .top :: .top :: .top :: .top :: .top :: .top :: .top :: .top :: .top :: .top :: .top :: .top :: .top :: .top :: .top :: .top :: .top :: .top :: .top :: .top :: .top :: .top :: .top :: .top :: .top :: .top :: .top :: .top :: .top :: []⟩
theorem k9 (σ loc : Store) (t0 t1 t2 t3 t4 t5 t6 t7 t8 t9 t10 t11 t12 t13 t14 t15 t16 t17 t18 t19 t20 t21 t22 t23 t24 t25 t26 t27 t28 t29 t30 t31 t32 t33 t34 t35 t36 t37 t38 t39 t40 t41 t42 t43 t44 t45 t46 t47 : TV) : forget ES 9 ⟨σ, loc, t0 :: t1 :: t2 :: t3 :: t4 :: t5 :: t6 :: t7 :: t8 :: t9 :: t10 :: t11 :: t12 :: t13 :: t14 :: t15 :: t16 :: t17 :: t18 :: t19 :: t20 :: t21 :: t22 :: t23 :: t24 :: t25 :: t26 :: t27 :: t28 :: t29 :: t30 :: t31 :: t32 :: t33 :: t34 :: t35 :: t36 :: t37 :: t38 :: t39 :: t40 :: t41 :: t42 :: t43 :: t44 :: t45 :: t46 :: t47 :: []⟩ = h9 σ loc t1 t2 t6 t7 t8 := by rfl
theorem t20 : ES.at_ 20 = none := by rfl
theorem t21 : ES.at_ 21 = none := by rfl
theorem n10 : Tryz.prog.funcs[10]? = some Tryz.f10 := by kernel_rfl -- knell/script.Decode
theorem m10_2 : ES.md 10 2 = .dflt := by rfl
theorem m10_15 : ES.md 10 15 = .dflt := by rfl
theorem z22 : azero Tryz.prog 22 = some [.sc (.int .i64 0), .sc (.int .i64 0), .sc (.int .i64 0), .sc (.int .i64 0), .sc (.int .i64 0), .sc (.int .i64 0), .sc (.int .i64 0), .sc (.int .i64 0), .sc (.int .i64 0), .sc (.int .i64 0), .sc (.int .i64 0), .sc (.int .i64 0), .sc (.int .i64 0)] := by kernel_rfl
theorem m10_5 : ES.md 10 5 = .dflt := by rfl
theorem c22 : acallable Tryz.prog 22 = true := by kernel_rfl
theorem u22 : Tryz.prog.underlying 22 = some (.array 13 3) := by kernel_rfl
theorem s22 : szOf Tryz.prog 22 = some 13 := by kernel_rfl
theorem g22 : isAggB Tryz.prog 22 = some true := by kernel_rfl
theorem c23 : acallable Tryz.prog 23 = true := by kernel_rfl
theorem m10_7 : ES.md 10 7 = .dflt := by rfl
theorem c24 : acallable Tryz.prog 24 = true := by kernel_rfl
theorem m10_42 : ES.md 10 42 = .dflt := by rfl
theorem c25 : acallable Tryz.prog 25 = true := by kernel_rfl
theorem m10_55 : ES.md 10 55 = .dflt := by rfl
theorem m10_57 : ES.md 10 57 = .dflt := by rfl
theorem a30_30 : appT Tryz.prog 30 30 = some (56, 8) := by kernel_rfl
theorem m10_64 : ES.md 10 64 = .dflt := by rfl
theorem w10 {a0 : AV} {σ : Store} {R : AV → Store → Prop} (n : Nat) (h : WP ES 10 n [.code (bodyOf Tryz.f10)] .normal ⟨σ, [], .v a0 :: undefT :: undefT :: undefT :: undefT :: undefT :: undefT :: undefT :: undefT :: undefT :: undefT :: undefT :: undefT :: undefT :: undefT :: undefT :: undefT :: undefT :: undefT :: undefT :: undefT :: undefT :: undefT :: undefT :: undefT :: undefT :: undefT :: undefT :: undefT :: undefT :: undefT :: undefT :: undefT :: undefT :: undefT :: undefT :: undefT :: undefT :: undefT :: undefT :: undefT :: undefT :: undefT :: undefT :: undefT :: undefT :: undefT :: undefT :: undefT :: undefT :: undefT :: undefT :: undefT :: undefT :: undefT :: undefT :: undefT :: undefT :: undefT :: undefT :: undefT :: undefT :: undefT :: undefT :: undefT :: undefT :: undefT :: []⟩ (Fin ES [.cell 2 29, .tmp 3, .tmp 4] R)) : Ans ES 10 [a0] σ R := Ans_body (fn := Tryz.f10) n (ES_prim _) n10 (by rfl) rfl rfl h
def h10 (σ loc : Store) (t0 t2 t5 t7 t10 t18 : TV) : St := ⟨σ, loc, t0 :: .top :: t2 :: .top :: .top :: t5 :: .top :: t7 :: .top :: .top :: t10 :: .top :: .top :: .top :: .top :: .top :: .top :: .top :: t18 :: .top :: .top :: .top :: .top :: .top :: .top :: .top :: .top :: .top :: .top :: .top :: .top :: .top :: .top :: .top :: .top :: .top :: .top :: .top :: .top :: .top :: .top :: .top :: .top :: .top :: .top :: .top :: .top :: .top :: .top :: .top :: .top :: .top :: .top :: .top :: .top :: .top :: .top :: .top :: .top :: .top :: .top :: .top :: .top :: .top :: .top :: .top :: .top :: []⟩
theorem k10 (σ loc : Store) (t0 t1 t2 t3 t4 t5 t6 t7 t8 t9 t10 t11 t12 t13 t14 t15 t16 t17 t18 t19 t20 t21 t22 t23 t24 t25 t26 t27 t28 t29 t30 t31 t32 t33 t34 t35 t36 t37 t38 t39 t40 t41 t42 t43 t44 t45 t46 t47 t48 t49 t50 t51 t52 t53 t54 t55 t56 t57 t58 t59 t60 t61 t62 t63 t64 t65 t66 : TV) : forget ES 10 ⟨σ, loc, t0 :: t1 :: t2 :: t3 :: t4 :: t5 :: t6 :: t7 :: t8 :: t9 :: t10 :: t11 :: t12 :: t13 :: t14 :: t15 :: t16 :: t17 :: t18 :: t19 :: t20 :: t21 :: t22 :: t23 :: t24 :: t25 :: t26 :: t27 :: t28 :: t29 :: t30 :: t31 :: t32 :: t33 :: t34 :: t35 :: t36 :: t37 :: t38 :: t39 :: t40 :: t41 :: t42 :: t43 :: t44 :: t45 :: t46 :: t47 :: t48 :: t49 :: t50 :: t51 :: t52 :: t53 :: t54 :: t55 :: t56 :: t57 :: t58 :: t59 :: t60 :: t61 :: t62 :: t63 :: t64 :: t65 :: t66 :: []⟩ = h10 σ loc t0 t2 t5 t7 t10 t18 := by rfl
theorem t22 : ES.at_ 22 = none := by rfl
theorem t23 : ES.at_ 23 = none := by rfl
theorem t24 : ES.at_ 24 = none := by rfl
theorem t25 : ES.at_ 25 = none := by rfl
theorem n11 : Tryz.prog.funcs[11]? = some Tryz.f11 := by kernel_rfl -- knell/knellref22.Decode
theorem m11_2 : ES.md 11 2 = .dflt := by rfl
theorem bb23_  : abuild Tryz.prog 23 [] = some [.sc (.int .i64 0), .sc (.int .i64 0), .sc (.int .i64 0), .sc (.int .i64 0), .sc (.int .i64 0), .sc (.int .i64 0), .sc (.int .i64 0), .sc (.int .i64 0), .sc (.int .i64 0), .sc (.int .i64 0), .sc (.int .i64 0), .sc (.int .i64 0), .sc (.int .i64 0)] := by kernel_rfl
theorem m11_5 : ES.md 11 5 = .dflt := by rfl
theorem m11_23 : ES.md 11 23 = .dflt := by rfl
theorem m11_6 : ES.md 11 6 = .dflt := by rfl
theorem c26 : acallable Tryz.prog 26 = true := by kernel_rfl
theorem m11_44 : ES.md 11 44 = .dflt := by rfl
theorem bs34_0_  : abuildS Tryz.prog 34 0 [] = some ([], 8) := by kernel_rfl
theorem m11_47 : ES.md 11 47 = .dflt := by rfl
theorem bb53_0 (x0 : Int) : abuild Tryz.prog 53 [(0, .sc (.int .i64 x0))] = some [.sc (.int .i64 x0), .sc (.int .i64 0), .sc (.int .i64 0), .sc (.int .i64 0), .sc (.int .i64 0), .sc (.int .i64 0), .sc (.int .i64 0), .sc (.int .i64 0)] := by kernel_rfl
theorem m11_12 : ES.md 11 12 = .dflt := by rfl
theorem bb53_0_1 (x0 : Int) (x1 : Int) : abuild Tryz.prog 53 [(0, .sc (.int .i64 x0)), (1, .sc (.int .i64 x1))] = some [.sc (.int .i64 x0), .sc (.int .i64 x1), .sc (.int .i64 0), .sc (.int .i64 0), .sc (.int .i64 0), .sc (.int .i64 0), .sc (.int .i64 0), .sc (.int .i64 0)] := by kernel_rfl
theorem bb53_0_1_2 (x0 : Int) (x1 : Int) (x2 : Int) : abuild Tryz.prog 53 [(0, .sc (.int .i64 x0)), (1, .sc (.int .i64 x1)), (2, .sc (.int .i64 x2))] = some [.sc (.int .i64 x0), .sc (.int .i64 x1), .sc (.int .i64 x2), .sc (.int .i64 0), .sc (.int .i64 0), .sc (.int .i64 0), .sc (.int .i64 0), .sc (.int .i64 0)] := by kernel_rfl
theorem c27 : acallable Tryz.prog 27 = true := by kernel_rfl
theorem m11_96 : ES.md 11 96 = .dflt := by rfl
theorem c28 : acallable Tryz.prog 28 = true := by kernel_rfl
theorem c29 : acallable Tryz.prog 29 = true := by kernel_rfl
theorem m11_134 : ES.md 11 134 = .dflt := by rfl
theorem sl34 {l : List AV} (h : l.length = 8) : abuildS Tryz.prog 34 1 [(0, .agg l)] = some (l, 8) := abuildS_one u34 s53 z53 (by decide) (by decide) rfl h
theorem a34_34 : appT Tryz.prog 34 34 = some (53, 8) := by kernel_rfl
theorem m11_135 : ES.md 11 135 = .dflt := by rfl
theorem m11_137 : ES.md 11 137 = .dflt := by rfl
theorem w11 {a0 : AV} {σ : Store} {R : AV → Store → Prop} (n : Nat) (h : WP ES 11 n [.code (bodyOf Tryz.f11)] .normal ⟨σ, [], .v a0 :: undefT :: undefT :: undefT :: undefT :: undefT :: undefT :: undefT :: undefT :: undefT :: undefT :: undefT :: undefT :: undefT :: undefT :: undefT :: undefT :: undefT :: undefT :: undefT :: undefT :: undefT :: undefT :: undefT :: undefT :: undefT :: undefT :: undefT :: undefT :: undefT :: undefT :: undefT :: undefT :: undefT :: undefT :: undefT :: undefT :: undefT :: undefT :: undefT :: undefT :: undefT :: undefT :: undefT :: undefT :: undefT :: undefT :: undefT :: undefT :: undefT :: undefT :: undefT :: undefT :: undefT :: undefT :: undefT :: undefT :: undefT :: undefT :: undefT :: undefT :: undefT :: undefT :: undefT :: undefT :: undefT :: undefT :: undefT :: undefT :: undefT :: undefT :: undefT :: undefT :: undefT :: undefT :: undefT :: undefT :: undefT :: undefT :: undefT :: undefT :: undefT :: undefT :: undefT :: undefT :: undefT :: undefT :: undefT :: undefT :: undefT :: undefT :: undefT :: undefT :: undefT :: undefT :: undefT :: undefT :: undefT :: undefT :: undefT :: undefT :: undefT :: undefT :: undefT :: undefT :: undefT :: undefT :: undefT :: undefT :: undefT :: undefT :: undefT :: undefT :: undefT :: undefT :: undefT :: undefT :: undefT :: undefT :: undefT :: undefT :: undefT :: undefT :: undefT :: undefT :: undefT :: undefT :: undefT :: undefT :: undefT :: undefT :: undefT :: undefT :: undefT :: undefT :: undefT :: undefT :: undefT :: undefT :: undefT :: undefT :: undefT :: []⟩ (Fin ES [.cell 2 23, .tmp 3, .tmp 4] R)) : Ans ES 11 [a0] σ R := Ans_body (fn := Tryz.f11) n (ES_prim _) n11 (by rfl) rfl rfl h
def h11 (σ loc : Store) (t0 t2 t5 t6 t7 t8 t9 t12 t13 t16 t17 t18 t20 : TV) : St := ⟨σ, loc, t0 :: .top :: t2 :: .top :: .top :: t5 :: t6 :: t7 :: t8 :: t9 :: .top :: .top :: t12 :: t13 :: .top :: .top :: t16 :: t17 :: t18 :: .top :: t20 :: .top :: .top :: .top :: .top :: .top :: .top :: .top :: .top :: .top :: .top :: .top :: .top :: .top :: .top :: .top :: .top :: .top :: .top :: .top :: .top :: .top :: .top :: .top :: .top :: .top :: .top :: .top :: .top :: .top :: .top :: .top :: .top :: .top :: .top :: .top :: .top :: .top :: .top :: .top :: .top :: .top :: .top :: .top :: .top :: .top :: .top :: .top :: .top :: .top :: .top :: .top :: .top :: .top :: .top :: .top :: .top :: .top :: .top :: .top :: .top :: .top :: .top :: .top :: .top :: .top :: .top :: .top :: .top :: .top :: .top :: .top :: .top :: .top :: .top :: .top :: .top :: .top :: .top :: .top :: .top :: .top :: .top :: .top :: .top :: .top :: .top :: .top :: .top :: .top :: .top :: .top :: .top :: .top :: .top :: .top :: .top :: .top :: .top :: .top :: .top :: .top :: .top :: .top :: .top :: .top :: .top :: .top :: .top :: .top :: .top :: .top :: .top :: .top :: .top :: .top :: .top :: .top :: .top :: .top :: .top :: .top :: []⟩
theorem k11 (σ loc : Store) (t0 t1 t2 t3 t4 t5 t6 t7 t8 t9 t10 t11 t12 t13 t14 t15 t16 t17 t18 t19 t20 t21 t22 t23 t24 t25 t26 t27 t28 t29 t30 t31 t32 t33 t34 t35 t36 t37 t38 t39 t40 t41 t42 t43 t44 t45 t46 t47 t48 t49 t50 t51 t52 t53 t54 t55 t56 t57 t58 t59 t60 t61 t62 t63 t64 t65 t66 t67 t68 t69 t70 t71 t72 t73 t74 t75 t76 t77 t78 t79 t80 t81 t82 t83 t84 t85 t86 t87 t88 t89 t90 t91 t92 t93 t94 t95 t96 t97 t98 t99 t100 t101 t102 t103 t104 t105 t106 t107 t108 t109 t110 t111 t112 t113 t114 t115 t116 t117 t118 t119 t120 t121 t122 t123 t124 t125 t126 t127 t128 t129 t130 t131 t132 t133 t134 t135 t136 t137 t138 t139 t140 t141 : TV) : forget ES 11 ⟨σ, loc, t0 :: t1 :: t2 :: t3 :: t4 :: t5 :: t6 :: t7 :: t8 :: t9 :: t10 :: t11 :: t12 :: t13 :: t14 :: t15 :: t16 :: t17 :: t18 :: t19 :: t20 :: t21 :: t22 :: t23 :: t24 :: t25 :: t26 :: t27 :: t28 :: t29 :: t30 :: t31 :: t32 :: t33 :: t34 :: t35 :: t36 :: t37 :: t38 :: t39 :: t40 :: t41 :: t42 :: t43 :: t44 :: t45 :: t46 :: t47 :: t48 :: t49 :: t50 :: t51 :: t52 :: t53 :: t54 :: t55 :: t56 :: t57 :: t58 :: t59 :: t60 :: t61 :: t62 :: t63 :: t64 :: t65 :: t66 :: t67 :: t68 :: t69 :: t70 :: t71 :: t72 :: t73 :: t74 :: t75 :: t76 :: t77 :: t78 :: t79 :: t80 :: t81 :: t82 :: t83 :: t84 :: t85 :: t86 :: t87 :: t88 :: t89 :: t90 :: t91 :: t92 :: t93 :: t94 :: t95 :: t96 :: t97 :: t98 :: t99 :: t100 :: t101 :: t102 :: t103 :: t104 :: t105 :: t106 :: t107 :: t108 :: t109 :: t110 :: t111 :: t112 :: t113 :: t114 :: t115 :: t116 :: t117 :: t118 :: t119 :: t120 :: t121 :: t122 :: t123 :: t124 :: t125 :: t126 :: t127 :: t128 :: t129 :: t130 :: t131 :: t132 :: t133 :: t134 :: t135 :: t136 :: t137 :: t138 :: t139 :: t140 :: t141 :: []⟩ = h11 σ loc t0 t2 t5 t6 t7 t8 t9 t12 t13 t16 t17 t18 t20 := by rfl
theorem t26 : ES.at_ 26 = none := by rfl
theorem t27 : ES.at_ 27 = none := by rfl
theorem t28 : ES.at_ 28 = none := by rfl
theorem t29 : ES.at_ 29 = none := by rfl
theorem n12 : Tryz.prog.funcs[12]? = some Tryz.f12 := by kernel_rfl -- knell/knelllaw03.Of
theorem m12_1 : ES.md 12 1 = .dflt := by rfl
theorem m12_2 : ES.md 12 2 = .dflt := by rfl
theorem bb29_0_1_2_3_4_5_6_7_8_9_10_11_12 (x0 : Int) (x1 : Int) (x2 : Int) (x3 : Int) (x4 : Int) (x5 : Int) (x6 : Int) (x7 : Int) (x8 : Int) (x9 : Int) (x10 : Int) (x11 : Int) (x12 : Int) : abuild Tryz.prog 29 [(0, .sc (.int .i64 x0)), (1, .sc (.int .i64 x1)), (2, .sc (.int .i64 x2)), (3, .sc (.int .i64 x3)), (4, .sc (.int .i64 x4)), (5, .sc (.int .i64 x5)), (6, .sc (.int .i64 x6)), (7, .sc (.int .i64 x7)), (8, .sc (.int .i64 x8)), (9, .sc (.int .i64 x9)), (10, .sc (.int .i64 x10)), (11, .sc (.int .i64 x11)), (12, .sc (.int .i64 x12))] = some [.sc (.int .i64 x0), .sc (.int .i64 x1), .sc (.int .i64 x2), .sc (.int .i64 x3), .sc (.int .i64 x4), .sc (.int .i64 x5), .sc (.int .i64 x6), .sc (.int .i64 x7), .sc (.int .i64 x8), .sc (.int .i64 x9), .sc (.int .i64 x10), .sc (.int .i64 x11), .sc (.int .i64 x12)] := by kernel_rfl
theorem w12 {a0 : AV} {σ : Store} {R : AV → Store → Prop} (n : Nat) (h : WP ES 12 n [.code (bodyOf Tryz.f12)] .normal ⟨σ, [], .v a0 :: undefT :: undefT :: undefT :: undefT :: undefT :: undefT :: undefT :: undefT :: undefT :: undefT :: undefT :: undefT :: undefT :: undefT :: undefT :: undefT :: undefT :: undefT :: undefT :: undefT :: undefT :: undefT :: undefT :: undefT :: undefT :: undefT :: undefT :: undefT :: undefT :: []⟩ (Fin ES [.cell 2 29] R)) : Ans ES 12 [a0] σ R := Ans_body (fn := Tryz.f12) n (ES_prim _) n12 (by rfl) rfl rfl h
theorem n13 : Tryz.prog.funcs[13]? = some Tryz.f13 := by kernel_rfl -- knell/knellref22.Same
theorem m13_7 : ES.md 13 7 = .dflt := by rfl
theorem m13_9 : ES.md 13 9 = .dflt := by rfl
theorem m13_13 : ES.md 13 13 = .dflt := by rfl
theorem q53 (cs : List AV) : eqKind Tryz.prog 53 (.agg cs) = true := by kernel_rfl
theorem hh53 : Tryz.prog.stoodInHeld 53 = false := by kernel_rfl
theorem q51 (cs : List AV) : eqKind Tryz.prog 51 (.agg cs) = true := by kernel_rfl
theorem hh51 : Tryz.prog.stoodInHeld 51 = false := by kernel_rfl
theorem s51 : szOf Tryz.prog 51 = some 2 := by kernel_rfl
theorem g51 : isAggB Tryz.prog 51 = some true := by kernel_rfl
theorem w13 {a0 a1 : AV} {σ : Store} {R : AV → Store → Prop} (n : Nat) (h : WP ES 13 n [.code (bodyOf Tryz.f13)] .normal ⟨σ, [], .v a0 :: .v a1 :: undefT :: undefT :: undefT :: undefT :: undefT :: undefT :: undefT :: undefT :: undefT :: undefT :: undefT :: undefT :: undefT :: undefT :: undefT :: undefT :: undefT :: undefT :: undefT :: undefT :: undefT :: undefT :: undefT :: undefT :: []⟩ (Fin ES [.tmp 4] R)) : Ans ES 13 [a0, a1] σ R := Ans_body (fn := Tryz.f13) n (ES_prim _) n13 (by rfl) rfl rfl h
def h13 (σ loc : Store) (t0 t1 t5 : TV) : St := ⟨σ, loc, t0 :: t1 :: .top :: .top :: .top :: t5 :: .top :: .top :: .top :: .top :: .top :: .top :: .top :: .top :: .top :: .top :: .top :: .top :: .top :: .top :: .top :: .top :: .top :: .top :: .top :: .top :: []⟩
theorem k13 (σ loc : Store) (t0 t1 t2 t3 t4 t5 t6 t7 t8 t9 t10 t11 t12 t13 t14 t15 t16 t17 t18 t19 t20 t21 t22 t23 t24 t25 : TV) : forget ES 13 ⟨σ, loc, t0 :: t1 :: t2 :: t3 :: t4 :: t5 :: t6 :: t7 :: t8 :: t9 :: t10 :: t11 :: t12 :: t13 :: t14 :: t15 :: t16 :: t17 :: t18 :: t19 :: t20 :: t21 :: t22 :: t23 :: t24 :: t25 :: []⟩ = h13 σ loc t0 t1 t5 := by rfl
theorem n14 : Tryz.prog.funcs[14]? = some Tryz.f14 := by kernel_rfl -- knell/knelllaw22.tos
theorem m14_6 : ES.md 14 6 = .dflt := by rfl
theorem m14_8 : ES.md 14 8 = .dflt := by rfl
theorem m14_5 : ES.md 14 5 = .dflt := by rfl
theorem c30 : acallable Tryz.prog 30 = true := by kernel_rfl
theorem m14_16 : ES.md 14 16 = .dflt := by rfl
theorem m14_17 : ES.md 14 17 = .dflt := by rfl
theorem w14 {a0 : AV} {σ : Store} {R : AV → Store → Prop} (n : Nat) (h : WP ES 14 n [.code (bodyOf Tryz.f14)] .normal ⟨σ, [], .v a0 :: undefT :: undefT :: undefT :: undefT :: undefT :: undefT :: undefT :: undefT :: undefT :: undefT :: undefT :: undefT :: undefT :: undefT :: undefT :: undefT :: undefT :: undefT :: undefT :: []⟩ (Fin ES [.tmp 2] R)) : Ans ES 14 [a0] σ R := Ans_body (fn := Tryz.f14) n (ES_prim _) n14 (by rfl) rfl rfl h
def h14 (σ loc : Store) (t3 t7 t8 t9 : TV) : St := ⟨σ, loc, .top :: .top :: .top :: t3 :: .top :: .top :: .top :: t7 :: t8 :: t9 :: .top :: .top :: .top :: .top :: .top :: .top :: .top :: .top :: .top :: .top :: []⟩
theorem k14 (σ loc : Store) (t0 t1 t2 t3 t4 t5 t6 t7 t8 t9 t10 t11 t12 t13 t14 t15 t16 t17 t18 t19 : TV) : forget ES 14 ⟨σ, loc, t0 :: t1 :: t2 :: t3 :: t4 :: t5 :: t6 :: t7 :: t8 :: t9 :: t10 :: t11 :: t12 :: t13 :: t14 :: t15 :: t16 :: t17 :: t18 :: t19 :: []⟩ = h14 σ loc t3 t7 t8 t9 := by rfl
theorem t30 : ES.at_ 30 = none := by rfl
theorem n15 : Tryz.prog.funcs[15]? = some Tryz.f15 := by kernel_rfl -- knell/script.Run
theorem m15_4 : ES.md 15 4 = .dflt := by rfl
theorem c31 : acallable Tryz.prog 31 = true := by kernel_rfl
theorem c32 : acallable Tryz.prog 32 = true := by kernel_rfl
theorem c33 : acallable Tryz.prog 33 = true := by kernel_rfl
theorem u82 : Tryz.prog.underlying 82 = some (.slice 85) := by kernel_rfl
theorem m15_33 : ES.md 15 33 = .dflt := by rfl
theorem s85 : szOf Tryz.prog 85 = some 12 := by kernel_rfl
theorem z85 : azero Tryz.prog 85 = some [.sc (.int .i64 0), .sc (.int .i64 0), .sc (.int .i64 0), .sc (.int .i64 0), .sc (.int .i64 0), .sc (.int .i64 0), .sc (.int .i64 0), .sc (.int .i64 0), .sc (.int .i64 0), .sc (.int .i64 0), .sc (.bool false), .sc (.int .i64 0)] := by kernel_rfl
theorem g85 : isAggB Tryz.prog 85 = some true := by kernel_rfl
theorem m15_10 : ES.md 15 10 = .dflt := by rfl
theorem c34 : acallable Tryz.prog 34 = true := by kernel_rfl
theorem m15_41 : ES.md 15 41 = .dflt := by rfl
theorem sl41 (x : ByteArray) : abuildS Tryz.prog 41 1 [(0, .sc (.string x))] = some ([.sc (.string x)], 1) := by kernel_rfl
theorem a41_41 : appT Tryz.prog 41 41 = some (9, 1) := by kernel_rfl
theorem m15_42 : ES.md 15 42 = .dflt := by rfl
theorem c36 : acallable Tryz.prog 36 = true := by kernel_rfl
theorem c35 : acallable Tryz.prog 35 = true := by kernel_rfl
theorem m15_49 : ES.md 15 49 = .dflt := by rfl
theorem m15_50 : ES.md 15 50 = .dflt := by rfl
theorem w15 {a0 : AV} {σ : Store} {R : AV → Store → Prop} (n : Nat) (h : WP ES 15 n [.code (bodyOf Tryz.f15)] .normal ⟨σ, [], .v a0 :: undefT :: undefT :: undefT :: undefT :: undefT :: undefT :: undefT :: undefT :: undefT :: undefT :: undefT :: undefT :: undefT :: undefT :: undefT :: undefT :: undefT :: undefT :: undefT :: undefT :: undefT :: undefT :: undefT :: undefT :: undefT :: undefT :: undefT :: undefT :: undefT :: undefT :: undefT :: undefT :: undefT :: undefT :: undefT :: undefT :: undefT :: undefT :: undefT :: undefT :: undefT :: undefT :: undefT :: undefT :: undefT :: undefT :: undefT :: undefT :: undefT :: undefT :: []⟩ (Fin ES [.tmp 2, .tmp 3] R)) : Ans ES 15 [a0] σ R := Ans_body (fn := Tryz.f15) n (ES_prim _) n15 (by rfl) rfl rfl h
def h15 (σ loc : Store) (t7 t8 t32 t33 t34 : TV) : St := ⟨σ, loc, .top :: .top :: .top :: .top :: .top :: .top :: .top :: t7 :: t8 :: .top :: .top :: .top :: .top :: .top :: .top :: .top :: .top :: .top :: .top :: .top :: .top :: .top :: .top :: .top :: .top :: .top :: .top :: .top :: .top :: .top :: .top :: .top :: t32 :: t33 :: t34 :: .top :: .top :: .top :: .top :: .top :: .top :: .top :: .top :: .top :: .top :: .top :: .top :: .top :: .top :: .top :: .top :: []⟩
theorem k15 (σ loc : Store) (t0 t1 t2 t3 t4 t5 t6 t7 t8 t9 t10 t11 t12 t13 t14 t15 t16 t17 t18 t19 t20 t21 t22 t23 t24 t25 t26 t27 t28 t29 t30 t31 t32 t33 t34 t35 t36 t37 t38 t39 t40 t41 t42 t43 t44 t45 t46 t47 t48 t49 t50 : TV) : forget ES 15 ⟨σ, loc, t0 :: t1 :: t2 :: t3 :: t4 :: t5 :: t6 :: t7 :: t8 :: t9 :: t10 :: t11 :: t12 :: t13 :: t14 :: t15 :: t16 :: t17 :: t18 :: t19 :: t20 :: t21 :: t22 :: t23 :: t24 :: t25 :: t26 :: t27 :: t28 :: t29 :: t30 :: t31 :: t32 :: t33 :: t34 :: t35 :: t36 :: t37 :: t38 :: t39 :: t40 :: t41 :: t42 :: t43 :: t44 :: t45 :: t46 :: t47 :: t48 :: t49 :: t50 :: []⟩ = h15 σ loc t7 t8 t32 t33 t34 := by rfl
theorem t31 : ES.at_ 31 = none := by rfl
theorem t32 : ES.at_ 32 = none := by rfl
theorem t33 : ES.at_ 33 = none := by rfl
theorem t34 : ES.at_ 34 = none := by rfl
theorem t35 : ES.at_ 35 = none := by rfl
theorem t36 : ES.at_ 36 = none := by rfl
theorem n16 : Tryz.prog.funcs[16]? = some Tryz.f16 := by kernel_rfl -- knell/knellref03.Right
theorem m16_1 : ES.md 16 1 = .dflt := by rfl
theorem c37 : acallable Tryz.prog 37 = true := by kernel_rfl
theorem w16 {a0 : AV} {σ : Store} {R : AV → Store → Prop} (n : Nat) (h : WP ES 16 n [.code (bodyOf Tryz.f16)] .normal ⟨σ, [], .v a0 :: undefT :: undefT :: undefT :: undefT :: undefT :: undefT :: undefT :: undefT :: undefT :: undefT :: undefT :: []⟩ (Fin ES [.tmp 2] R)) : Ans ES 16 [a0] σ R := Ans_body (fn := Tryz.f16) n (ES_prim _) n16 (by rfl) rfl rfl h
theorem t37 : ES.at_ 37 = none := by rfl
theorem n19 : Tryz.prog.funcs[19]? = some Tryz.f19 := by kernel_rfl -- knell/knelllaw22.first
theorem m19_0 : ES.md 19 0 = .dflt := by rfl
theorem bb23_0_1_2_3_4_5_6_7_8_9_10_11_12 (x0 : Int) (x1 : Int) (x2 : Int) (x3 : Int) (x4 : Int) (x5 : Int) (x6 : Int) (x7 : Int) (x8 : Int) (x9 : Int) (x10 : Int) (x11 : Int) (x12 : Int) : abuild Tryz.prog 23 [(0, .sc (.int .i64 x0)), (1, .sc (.int .i64 x1)), (2, .sc (.int .i64 x2)), (3, .sc (.int .i64 x3)), (4, .sc (.int .i64 x4)), (5, .sc (.int .i64 x5)), (6, .sc (.int .i64 x6)), (7, .sc (.int .i64 x7)), (8, .sc (.int .i64 x8)), (9, .sc (.int .i64 x9)), (10, .sc (.int .i64 x10)), (11, .sc (.int .i64 x11)), (12, .sc (.int .i64 x12))] = some [.sc (.int .i64 x0), .sc (.int .i64 x1), .sc (.int .i64 x2), .sc (.int .i64 x3), .sc (.int .i64 x4), .sc (.int .i64 x5), .sc (.int .i64 x6), .sc (.int .i64 x7), .sc (.int .i64 x8), .sc (.int .i64 x9), .sc (.int .i64 x10), .sc (.int .i64 x11), .sc (.int .i64 x12)] := by kernel_rfl
theorem w19  {σ : Store} {R : AV → Store → Prop} (n : Nat) (h : WP ES 19 n [.code (bodyOf Tryz.f19)] .normal ⟨σ, [], undefT :: undefT :: []⟩ (Fin ES [.cell 0 23] R)) : Ans ES 19 [] σ R := Ans_body (fn := Tryz.f19) n (ES_prim _) n19 (by rfl) rfl rfl h
theorem n20 : Tryz.prog.funcs[20]? = some Tryz.f20 := by kernel_rfl -- knell/knellref22.Bytes
theorem m20_7 : ES.md 20 7 = .dflt := by rfl
theorem m20_17 : ES.md 20 17 = .dflt := by rfl
theorem m20_18 : ES.md 20 18 = .dflt := by rfl
theorem w20 {a0 a1 : AV} {σ : Store} {R : AV → Store → Prop} (n : Nat) (h : WP ES 20 n [.code (bodyOf Tryz.f20)] .normal ⟨σ, [], .v a0 :: .v a1 :: undefT :: undefT :: undefT :: undefT :: undefT :: undefT :: undefT :: undefT :: undefT :: undefT :: undefT :: undefT :: undefT :: undefT :: undefT :: undefT :: undefT :: undefT :: undefT :: undefT :: []⟩ (Fin ES [.tmp 4] R)) : Ans ES 20 [a0, a1] σ R := Ans_body (fn := Tryz.f20) n (ES_prim _) n20 (by rfl) rfl rfl h
def h20 (σ loc : Store) (t0 t1 t5 t6 : TV) : St := ⟨σ, loc, t0 :: t1 :: .top :: .top :: .top :: t5 :: t6 :: .top :: .top :: .top :: .top :: .top :: .top :: .top :: .top :: .top :: .top :: .top :: .top :: .top :: .top :: .top :: []⟩
theorem k20 (σ loc : Store) (t0 t1 t2 t3 t4 t5 t6 t7 t8 t9 t10 t11 t12 t13 t14 t15 t16 t17 t18 t19 t20 t21 : TV) : forget ES 20 ⟨σ, loc, t0 :: t1 :: t2 :: t3 :: t4 :: t5 :: t6 :: t7 :: t8 :: t9 :: t10 :: t11 :: t12 :: t13 :: t14 :: t15 :: t16 :: t17 :: t18 :: t19 :: t20 :: t21 :: []⟩ = h20 σ loc t0 t1 t5 t6 := by rfl
theorem n22 : Tryz.prog.funcs[22]? = some Tryz.f22 := by kernel_rfl -- knell/script.take
theorem m22_10 : ES.md 22 10 = .dflt := by rfl
theorem w22 {a0 a1 : AV} {σ : Store} {R : AV → Store → Prop} (n : Nat) (h : WP ES 22 n [.code (bodyOf Tryz.f22)] .normal ⟨σ, [], .v a0 :: .v a1 :: undefT :: undefT :: undefT :: undefT :: undefT :: undefT :: undefT :: undefT :: undefT :: undefT :: undefT :: undefT :: undefT :: undefT :: undefT :: undefT :: undefT :: undefT :: undefT :: undefT :: undefT :: undefT :: undefT :: undefT :: undefT :: undefT :: undefT :: undefT :: undefT :: []⟩ (Fin ES [.tmp 4, .tmp 5, .tmp 6] R)) : Ans ES 22 [a0, a1] σ R := Ans_body (fn := Tryz.f22) n (ES_prim _) n22 (by rfl) rfl rfl h
def h22 (σ loc : Store) (t0 t1 t7 t8 : TV) : St := ⟨σ, loc, t0 :: t1 :: .top :: .top :: .top :: .top :: .top :: t7 :: t8 :: .top :: .top :: .top :: .top :: .top :: .top :: .top :: .top :: .top :: .top :: .top :: .top :: .top :: .top :: .top :: .top :: .top :: .top :: .top :: .top :: .top :: .top :: []⟩
theorem k22 (σ loc : Store) (t0 t1 t2 t3 t4 t5 t6 t7 t8 t9 t10 t11 t12 t13 t14 t15 t16 t17 t18 t19 t20 t21 t22 t23 t24 t25 t26 t27 t28 t29 t30 : TV) : forget ES 22 ⟨σ, loc, t0 :: t1 :: t2 :: t3 :: t4 :: t5 :: t6 :: t7 :: t8 :: t9 :: t10 :: t11 :: t12 :: t13 :: t14 :: t15 :: t16 :: t17 :: t18 :: t19 :: t20 :: t21 :: t22 :: t23 :: t24 :: t25 :: t26 :: t27 :: t28 :: t29 :: t30 :: []⟩ = h22 σ loc t0 t1 t7 t8 := by rfl
theorem n23 : Tryz.prog.funcs[23]? = some Tryz.f23 := by kernel_rfl -- knell/plan.Of
theorem m23_1 : ES.md 23 1 = .dflt := by rfl
theorem m23_2 : ES.md 23 2 = .dflt := by rfl
theorem w23 {a0 : AV} {σ : Store} {R : AV → Store → Prop} (n : Nat) (h : WP ES 23 n [.code (bodyOf Tryz.f23)] .normal ⟨σ, [], .v a0 :: undefT :: undefT :: undefT :: undefT :: undefT :: undefT :: undefT :: undefT :: undefT :: undefT :: undefT :: undefT :: undefT :: undefT :: undefT :: undefT :: undefT :: undefT :: undefT :: undefT :: undefT :: undefT :: undefT :: undefT :: undefT :: undefT :: undefT :: undefT :: undefT :: []⟩ (Fin ES [.cell 2 29] R)) : Ans ES 23 [a0] σ R := Ans_body (fn := Tryz.f23) n (ES_prim _) n23 (by rfl) rfl rfl h
theorem n24 : Tryz.prog.funcs[24]? = some Tryz.f24 := by kernel_rfl -- knell/plan.Check
theorem m24_1 : ES.md 24 1 = .dflt := by rfl
theorem bb98_0_1 (x0 : Int) (x1 : Int) : abuild Tryz.prog 98 [(0, .sc (.int .i64 x0)), (1, .sc (.int .i64 x1))] = some [.sc (.int .i64 x0), .sc (.int .i64 x1)] := by kernel_rfl
theorem bb99_0_1_2_3_4_5_6_7_8_9_10_11_12 (x0_0 : Int) (x0_1 : Int) (x1_0 : Int) (x1_1 : Int) (x2_0 : Int) (x2_1 : Int) (x3_0 : Int) (x3_1 : Int) (x4_0 : Int) (x4_1 : Int) (x5_0 : Int) (x5_1 : Int) (x6_0 : Int) (x6_1 : Int) (x7_0 : Int) (x7_1 : Int) (x8_0 : Int) (x8_1 : Int) (x9_0 : Int) (x9_1 : Int) (x10_0 : Int) (x10_1 : Int) (x11_0 : Int) (x11_1 : Int) (x12_0 : Int) (x12_1 : Int) : abuild Tryz.prog 99 [(0, .agg [.sc (.int .i64 x0_0), .sc (.int .i64 x0_1)]), (1, .agg [.sc (.int .i64 x1_0), .sc (.int .i64 x1_1)]), (2, .agg [.sc (.int .i64 x2_0), .sc (.int .i64 x2_1)]), (3, .agg [.sc (.int .i64 x3_0), .sc (.int .i64 x3_1)]), (4, .agg [.sc (.int .i64 x4_0), .sc (.int .i64 x4_1)]), (5, .agg [.sc (.int .i64 x5_0), .sc (.int .i64 x5_1)]), (6, .agg [.sc (.int .i64 x6_0), .sc (.int .i64 x6_1)]), (7, .agg [.sc (.int .i64 x7_0), .sc (.int .i64 x7_1)]), (8, .agg [.sc (.int .i64 x8_0), .sc (.int .i64 x8_1)]), (9, .agg [.sc (.int .i64 x9_0), .sc (.int .i64 x9_1)]), (10, .agg [.sc (.int .i64 x10_0), .sc (.int .i64 x10_1)]), (11, .agg [.sc (.int .i64 x11_0), .sc (.int .i64 x11_1)]), (12, .agg [.sc (.int .i64 x12_0), .sc (.int .i64 x12_1)])] = some [.sc (.int .i64 x0_0), .sc (.int .i64 x0_1), .sc (.int .i64 x1_0), .sc (.int .i64 x1_1), .sc (.int .i64 x2_0), .sc (.int .i64 x2_1), .sc (.int .i64 x3_0), .sc (.int .i64 x3_1), .sc (.int .i64 x4_0), .sc (.int .i64 x4_1), .sc (.int .i64 x5_0), .sc (.int .i64 x5_1), .sc (.int .i64 x6_0), .sc (.int .i64 x6_1), .sc (.int .i64 x7_0), .sc (.int .i64 x7_1), .sc (.int .i64 x8_0), .sc (.int .i64 x8_1), .sc (.int .i64 x9_0), .sc (.int .i64 x9_1), .sc (.int .i64 x10_0), .sc (.int .i64 x10_1), .sc (.int .i64 x11_0), .sc (.int .i64 x11_1), .sc (.int .i64 x12_0), .sc (.int .i64 x12_1)] := by kernel_rfl
theorem z99 : azero Tryz.prog 99 = some [.sc (.int .i64 0), .sc (.int .i64 0), .sc (.int .i64 0), .sc (.int .i64 0), .sc (.int .i64 0), .sc (.int .i64 0), .sc (.int .i64 0), .sc (.int .i64 0), .sc (.int .i64 0), .sc (.int .i64 0), .sc (.int .i64 0), .sc (.int .i64 0), .sc (.int .i64 0), .sc (.int .i64 0), .sc (.int .i64 0), .sc (.int .i64 0), .sc (.int .i64 0), .sc (.int .i64 0), .sc (.int .i64 0), .sc (.int .i64 0), .sc (.int .i64 0), .sc (.int .i64 0), .sc (.int .i64 0), .sc (.int .i64 0), .sc (.int .i64 0), .sc (.int .i64 0)] := by kernel_rfl
theorem m24_4 : ES.md 24 4 = .dflt := by rfl
theorem s99 : szOf Tryz.prog 99 = some 26 := by kernel_rfl
theorem c39 : acallable Tryz.prog 39 = true := by kernel_rfl
theorem u99 : Tryz.prog.underlying 99 = some (.array 13 98) := by kernel_rfl
theorem s98 : szOf Tryz.prog 98 = some 2 := by kernel_rfl
theorem z98 : azero Tryz.prog 98 = some [.sc (.int .i64 0), .sc (.int .i64 0)] := by kernel_rfl
theorem g98 : isAggB Tryz.prog 98 = some true := by kernel_rfl
theorem f98_0 (t : TV) : afield Tryz.prog 98 t 0 = addP t 0 := by kernel_rfl
theorem f98_1 (t : TV) : afield Tryz.prog 98 t 1 = addP t 1 := by kernel_rfl
theorem w24 {a0 : AV} {σ : Store} {R : AV → Store → Prop} (n : Nat) (h : WP ES 24 n [.code (bodyOf Tryz.f24)] .normal ⟨σ, [], .v a0 :: undefT :: undefT :: undefT :: undefT :: undefT :: undefT :: undefT :: undefT :: undefT :: undefT :: undefT :: undefT :: undefT :: undefT :: undefT :: undefT :: undefT :: undefT :: undefT :: undefT :: undefT :: undefT :: undefT :: undefT :: undefT :: undefT :: undefT :: undefT :: undefT :: undefT :: undefT :: undefT :: undefT :: undefT :: undefT :: undefT :: undefT :: undefT :: undefT :: undefT :: undefT :: undefT :: []⟩ (Fin ES [.tmp 2, .tmp 3] R)) : Ans ES 24 [a0] σ R := Ans_body (fn := Tryz.f24) n (ES_prim _) n24 (by rfl) rfl rfl h
def h24 (σ loc : Store) (t4 t22 t23 : TV) : St := ⟨σ, loc, .top :: .top :: .top :: .top :: t4 :: .top :: .top :: .top :: .top :: .top :: .top :: .top :: .top :: .top :: .top :: .top :: .top :: .top :: .top :: .top :: .top :: .top :: t22 :: t23 :: .top :: .top :: .top :: .top :: .top :: .top :: .top :: .top :: .top :: .top :: .top :: .top :: .top :: .top :: .top :: .top :: .top :: .top :: .top :: []⟩
theorem k24 (σ loc : Store) (t0 t1 t2 t3 t4 t5 t6 t7 t8 t9 t10 t11 t12 t13 t14 t15 t16 t17 t18 t19 t20 t21 t22 t23 t24 t25 t26 t27 t28 t29 t30 t31 t32 t33 t34 t35 t36 t37 t38 t39 t40 t41 t42 : TV) : forget ES 24 ⟨σ, loc, t0 :: t1 :: t2 :: t3 :: t4 :: t5 :: t6 :: t7 :: t8 :: t9 :: t10 :: t11 :: t12 :: t13 :: t14 :: t15 :: t16 :: t17 :: t18 :: t19 :: t20 :: t21 :: t22 :: t23 :: t24 :: t25 :: t26 :: t27 :: t28 :: t29 :: t30 :: t31 :: t32 :: t33 :: t34 :: t35 :: t36 :: t37 :: t38 :: t39 :: t40 :: t41 :: t42 :: []⟩ = h24 σ loc t4 t22 t23 := by rfl
theorem t39 : ES.at_ 39 = none := by rfl
theorem n25 : Tryz.prog.funcs[25]? = some Tryz.f25 := by kernel_rfl -- knell/script.entry
theorem bb56_0 (x0 : Int) : abuild Tryz.prog 56 [(0, .sc (.int .i64 x0))] = some [.sc (.int .i64 x0), .sc (.int .i64 0), .sc (.int .i64 0), .sc (.int .i64 0), .sc (.int .i64 0), .sc (.int .i64 0), .sc (.int .i64 0), .sc (.int .i64 0)] := by kernel_rfl
theorem c45 : acallable Tryz.prog 45 = true := by kernel_rfl
theorem bb56_0_1 (x0 : Int) (x1 : Int) : abuild Tryz.prog 56 [(0, .sc (.int .i64 x0)), (1, .sc (.int .i64 x1))] = some [.sc (.int .i64 x0), .sc (.int .i64 x1), .sc (.int .i64 0), .sc (.int .i64 0), .sc (.int .i64 0), .sc (.int .i64 0), .sc (.int .i64 0), .sc (.int .i64 0)] := by kernel_rfl
theorem bb56_0_1_2 (x0 : Int) (x1 : Int) (x2 : Int) : abuild Tryz.prog 56 [(0, .sc (.int .i64 x0)), (1, .sc (.int .i64 x1)), (2, .sc (.int .i64 x2))] = some [.sc (.int .i64 x0), .sc (.int .i64 x1), .sc (.int .i64 x2), .sc (.int .i64 0), .sc (.int .i64 0), .sc (.int .i64 0), .sc (.int .i64 0), .sc (.int .i64 0)] := by kernel_rfl
theorem m25_9 : ES.md 25 9 = .glob := by rfl
theorem c46 : acallable Tryz.prog 46 = true := by kernel_rfl
theorem u101 : Tryz.prog.underlying 101 = some (.slice 105) := by kernel_rfl
theorem m25_58 : ES.md 25 58 = .dflt := by rfl
theorem s105 : szOf Tryz.prog 105 = some 2 := by kernel_rfl
theorem z105 : azero Tryz.prog 105 = some [.sc .nilFunc, .sc (.int .i64 0)] := by kernel_rfl
theorem g105 : isAggB Tryz.prog 105 = some true := by kernel_rfl
theorem m25_11 : ES.md 25 11 = .dflt := by rfl
theorem f105_0 (t : TV) : afield Tryz.prog 105 t 0 = addP t 0 := by kernel_rfl
theorem s103 : szOf Tryz.prog 103 = some 1 := by kernel_rfl
theorem g103 : isAggB Tryz.prog 103 = some false := by kernel_rfl
theorem f105_1 (t : TV) : afield Tryz.prog 105 t 1 = addP t 1 := by kernel_rfl
theorem m25_80 : ES.md 25 80 = .dflt := by rfl
theorem sl30 {l : List AV} (h : l.length = 8) : abuildS Tryz.prog 30 1 [(0, .agg l)] = some (l, 8) := abuildS_one u30 s56 z56 (by decide) (by decide) rfl h
theorem w25 {a0 : AV} {σ : Store} {R : AV → Store → Prop} (n : Nat) (h : WP ES 25 n [.code (bodyOf Tryz.f25)] .normal ⟨σ, [], .v a0 :: undefT :: undefT :: undefT :: undefT :: undefT :: undefT :: undefT :: undefT :: undefT :: undefT :: undefT :: undefT :: undefT :: undefT :: undefT :: undefT :: undefT :: undefT :: undefT :: undefT :: undefT :: undefT :: undefT :: undefT :: undefT :: undefT :: undefT :: undefT :: undefT :: undefT :: undefT :: undefT :: undefT :: undefT :: undefT :: undefT :: undefT :: undefT :: undefT :: undefT :: undefT :: undefT :: undefT :: undefT :: undefT :: undefT :: undefT :: undefT :: undefT :: undefT :: undefT :: undefT :: undefT :: undefT :: undefT :: undefT :: undefT :: undefT :: undefT :: undefT :: undefT :: undefT :: undefT :: undefT :: undefT :: undefT :: undefT :: undefT :: undefT :: undefT :: undefT :: undefT :: undefT :: undefT :: undefT :: undefT :: undefT :: undefT :: undefT :: undefT :: undefT :: []⟩ (Fin ES [.tmp 2, .tmp 3, .tmp 4] R)) : Ans ES 25 [a0] σ R := Ans_body (fn := Tryz.f25) n (ES_prim _) n25 (by rfl) rfl rfl h
def h25 (σ loc : Store) (t0 t8 t9 t57 t58 t59 : TV) : St := ⟨σ, loc, t0 :: .top :: .top :: .top :: .top :: .top :: .top :: .top :: t8 :: t9 :: .top :: .top :: .top :: .top :: .top :: .top :: .top :: .top :: .top :: .top :: .top :: .top :: .top :: .top :: .top :: .top :: .top :: .top :: .top :: .top :: .top :: .top :: .top :: .top :: .top :: .top :: .top :: .top :: .top :: .top :: .top :: .top :: .top :: .top :: .top :: .top :: .top :: .top :: .top :: .top :: .top :: .top :: .top :: .top :: .top :: .top :: .top :: t57 :: t58 :: t59 :: .top :: .top :: .top :: .top :: .top :: .top :: .top :: .top :: .top :: .top :: .top :: .top :: .top :: .top :: .top :: .top :: .top :: .top :: .top :: .top :: .top :: .top :: []⟩
theorem k25 (σ loc : Store) (t0 t1 t2 t3 t4 t5 t6 t7 t8 t9 t10 t11 t12 t13 t14 t15 t16 t17 t18 t19 t20 t21 t22 t23 t24 t25 t26 t27 t28 t29 t30 t31 t32 t33 t34 t35 t36 t37 t38 t39 t40 t41 t42 t43 t44 t45 t46 t47 t48 t49 t50 t51 t52 t53 t54 t55 t56 t57 t58 t59 t60 t61 t62 t63 t64 t65 t66 t67 t68 t69 t70 t71 t72 t73 t74 t75 t76 t77 t78 t79 t80 t81 : TV) : forget ES 25 ⟨σ, loc, t0 :: t1 :: t2 :: t3 :: t4 :: t5 :: t6 :: t7 :: t8 :: t9 :: t10 :: t11 :: t12 :: t13 :: t14 :: t15 :: t16 :: t17 :: t18 :: t19 :: t20 :: t21 :: t22 :: t23 :: t24 :: t25 :: t26 :: t27 :: t28 :: t29 :: t30 :: t31 :: t32 :: t33 :: t34 :: t35 :: t36 :: t37 :: t38 :: t39 :: t40 :: t41 :: t42 :: t43 :: t44 :: t45 :: t46 :: t47 :: t48 :: t49 :: t50 :: t51 :: t52 :: t53 :: t54 :: t55 :: t56 :: t57 :: t58 :: t59 :: t60 :: t61 :: t62 :: t63 :: t64 :: t65 :: t66 :: t67 :: t68 :: t69 :: t70 :: t71 :: t72 :: t73 :: t74 :: t75 :: t76 :: t77 :: t78 :: t79 :: t80 :: t81 :: []⟩ = h25 σ loc t0 t8 t9 t57 t58 t59 := by rfl
theorem t45 : ES.at_ 45 = none := by rfl
theorem t46 : ES.at_ 46 = none := by rfl
theorem n26 : Tryz.prog.funcs[26]? = some Tryz.f26 := by kernel_rfl -- knell/knellref22.number
theorem m26_14 : ES.md 26 14 = .dflt := by rfl
theorem w26 {a0 a1 a2 : AV} {σ : Store} {R : AV → Store → Prop} (n : Nat) (h : WP ES 26 n [.code (bodyOf Tryz.f26)] .normal ⟨σ, [], .v a0 :: .v a1 :: .v a2 :: undefT :: undefT :: undefT :: undefT :: undefT :: undefT :: undefT :: undefT :: undefT :: undefT :: undefT :: undefT :: undefT :: undefT :: undefT :: undefT :: undefT :: undefT :: undefT :: undefT :: undefT :: undefT :: undefT :: undefT :: undefT :: undefT :: undefT :: undefT :: undefT :: undefT :: []⟩ (Fin ES [.tmp 6, .tmp 7] R)) : Ans ES 26 [a0, a1, a2] σ R := Ans_body (fn := Tryz.f26) n (ES_prim _) n26 (by rfl) rfl rfl h
def h26 (σ loc : Store) (t0 t1 t8 t9 : TV) : St := ⟨σ, loc, t0 :: t1 :: .top :: .top :: .top :: .top :: .top :: .top :: t8 :: t9 :: .top :: .top :: .top :: .top :: .top :: .top :: .top :: .top :: .top :: .top :: .top :: .top :: .top :: .top :: .top :: .top :: .top :: .top :: .top :: .top :: .top :: .top :: .top :: []⟩
theorem k26 (σ loc : Store) (t0 t1 t2 t3 t4 t5 t6 t7 t8 t9 t10 t11 t12 t13 t14 t15 t16 t17 t18 t19 t20 t21 t22 t23 t24 t25 t26 t27 t28 t29 t30 t31 t32 : TV) : forget ES 26 ⟨σ, loc, t0 :: t1 :: t2 :: t3 :: t4 :: t5 :: t6 :: t7 :: t8 :: t9 :: t10 :: t11 :: t12 :: t13 :: t14 :: t15 :: t16 :: t17 :: t18 :: t19 :: t20 :: t21 :: t22 :: t23 :: t24 :: t25 :: t26 :: t27 :: t28 :: t29 :: t30 :: t31 :: t32 :: []⟩ = h26 σ loc t0 t1 t8 t9 := by rfl
theorem n27 : Tryz.prog.funcs[27]? = some Tryz.f27 := by kernel_rfl -- knell/knellref22.Shape
theorem w27 {a0 : AV} {σ : Store} {R : AV → Store → Prop} (n : Nat) (h : WP ES 27 n [.code (bodyOf Tryz.f27)] .normal ⟨σ, [], .v a0 :: undefT :: undefT :: undefT :: undefT :: undefT :: undefT :: undefT :: undefT :: undefT :: undefT :: undefT :: []⟩ (Fin ES [.tmp 2] R)) : Ans ES 27 [a0] σ R := Ans_body (fn := Tryz.f27) n (ES_prim _) n27 (by rfl) rfl rfl h
theorem n28 : Tryz.prog.funcs[28]? = some Tryz.f28 := by kernel_rfl -- knell/knellref22.width
theorem w28 {a0 : AV} {σ : Store} {R : AV → Store → Prop} (n : Nat) (h : WP ES 28 n [.code (bodyOf Tryz.f28)] .normal ⟨σ, [], .v a0 :: undefT :: undefT :: undefT :: undefT :: undefT :: undefT :: undefT :: []⟩ (Fin ES [.tmp 2] R)) : Ans ES 28 [a0] σ R := Ans_body (fn := Tryz.f28) n (ES_prim _) n28 (by rfl) rfl rfl h
theorem n29 : Tryz.prog.funcs[29]? = some Tryz.f29 := by kernel_rfl -- knell/knellref22.set
theorem m29_3 : ES.md 29 3 = .loc := by rfl
theorem m29_6 : ES.md 29 6 = .dflt := by rfl
theorem f53_3 (t : TV) : afield Tryz.prog 53 t 3 = addP t 3 := by kernel_rfl
theorem f51_0 (t : TV) : afield Tryz.prog 51 t 0 = addP t 0 := by kernel_rfl
theorem f51_1 (t : TV) : afield Tryz.prog 51 t 1 = addP t 1 := by kernel_rfl
theorem f53_4 (t : TV) : afield Tryz.prog 53 t 4 = addP t 5 := by kernel_rfl
theorem f53_5 (t : TV) : afield Tryz.prog 53 t 5 = addP t 6 := by kernel_rfl
theorem f53_6 (t : TV) : afield Tryz.prog 53 t 6 = addP t 7 := by kernel_rfl
theorem w29 {a0 a1 a2 : AV} {σ : Store} {R : AV → Store → Prop} (n : Nat) (h : WP ES 29 n [.code (bodyOf Tryz.f29)] .normal ⟨σ, [], .v a0 :: .v a1 :: .v a2 :: undefT :: undefT :: undefT :: undefT :: undefT :: undefT :: undefT :: undefT :: undefT :: undefT :: undefT :: undefT :: undefT :: undefT :: undefT :: undefT :: undefT :: undefT :: undefT :: undefT :: undefT :: undefT :: undefT :: undefT :: undefT :: undefT :: []⟩ (Fin ES [.cell 6 53] R)) : Ans ES 29 [a0, a1, a2] σ R := Ans_body (fn := Tryz.f29) n (ES_prim _) n29 (by rfl) rfl rfl h
theorem n30 : Tryz.prog.funcs[30]? = some Tryz.f30 := by kernel_rfl -- knell/knelllaw22.to
theorem m30_1 : ES.md 30 1 = .dflt := by rfl
theorem m30_2 : ES.md 30 2 = .dflt := by rfl
theorem f56_0 (t : TV) : afield Tryz.prog 56 t 0 = addP t 0 := by kernel_rfl
theorem f56_1 (t : TV) : afield Tryz.prog 56 t 1 = addP t 1 := by kernel_rfl
theorem f56_2 (t : TV) : afield Tryz.prog 56 t 2 = addP t 2 := by kernel_rfl
theorem f56_3 (t : TV) : afield Tryz.prog 56 t 3 = addP t 3 := by kernel_rfl
theorem f54_0 (t : TV) : afield Tryz.prog 54 t 0 = addP t 0 := by kernel_rfl
theorem f54_1 (t : TV) : afield Tryz.prog 54 t 1 = addP t 1 := by kernel_rfl
theorem bb51_0_1 (x0 : Int) (x1 : Int) : abuild Tryz.prog 51 [(0, .sc (.int .i64 x0)), (1, .sc (.int .i64 x1))] = some [.sc (.int .i64 x0), .sc (.int .i64 x1)] := by kernel_rfl
theorem f56_4 (t : TV) : afield Tryz.prog 56 t 4 = addP t 5 := by kernel_rfl
theorem f56_5 (t : TV) : afield Tryz.prog 56 t 5 = addP t 6 := by kernel_rfl
theorem f56_6 (t : TV) : afield Tryz.prog 56 t 6 = addP t 7 := by kernel_rfl
theorem bb53_0_1_2_3_4_5_6 (x0 : Int) (x1 : Int) (x2 : Int) (x3_0 : Int) (x3_1 : Int) (x4 : Int) (x5 : Int) (x6 : Int) : abuild Tryz.prog 53 [(0, .sc (.int .i64 x0)), (1, .sc (.int .i64 x1)), (2, .sc (.int .i64 x2)), (3, .agg [.sc (.int .i64 x3_0), .sc (.int .i64 x3_1)]), (4, .sc (.int .i64 x4)), (5, .sc (.int .i64 x5)), (6, .sc (.int .i64 x6))] = some [.sc (.int .i64 x0), .sc (.int .i64 x1), .sc (.int .i64 x2), .sc (.int .i64 x3_0), .sc (.int .i64 x3_1), .sc (.int .i64 x4), .sc (.int .i64 x5), .sc (.int .i64 x6)] := by kernel_rfl
theorem w30 {a0 : AV} {σ : Store} {R : AV → Store → Prop} (n : Nat) (h : WP ES 30 n [.code (bodyOf Tryz.f30)] .normal ⟨σ, [], .v a0 :: undefT :: undefT :: undefT :: undefT :: undefT :: undefT :: undefT :: undefT :: undefT :: undefT :: undefT :: undefT :: undefT :: undefT :: undefT :: undefT :: undefT :: undefT :: undefT :: undefT :: undefT :: undefT :: []⟩ (Fin ES [.cell 2 53] R)) : Ans ES 30 [a0] σ R := Ans_body (fn := Tryz.f30) n (ES_prim _) n30 (by rfl) rfl rfl h
theorem n37 : Tryz.prog.funcs[37]? = some Tryz.f37 := by kernel_rfl -- knell/knellref03.Check
theorem m37_1 : ES.md 37 1 = .dflt := by rfl
theorem c55 : acallable Tryz.prog 55 = true := by kernel_rfl
theorem c56 : acallable Tryz.prog 56 = true := by kernel_rfl
theorem w37 {a0 : AV} {σ : Store} {R : AV → Store → Prop} (n : Nat) (h : WP ES 37 n [.code (bodyOf Tryz.f37)] .normal ⟨σ, [], .v a0 :: undefT :: undefT :: undefT :: undefT :: undefT :: undefT :: undefT :: undefT :: undefT :: undefT :: undefT :: undefT :: undefT :: undefT :: undefT :: undefT :: undefT :: undefT :: undefT :: undefT :: undefT :: undefT :: undefT :: []⟩ (Fin ES [.tmp 2, .tmp 3] R)) : Ans ES 37 [a0] σ R := Ans_body (fn := Tryz.f37) n (ES_prim _) n37 (by rfl) rfl rfl h
def h37 (σ loc : Store) (t1 t4 : TV) : St := ⟨σ, loc, .top :: t1 :: .top :: .top :: t4 :: .top :: .top :: .top :: .top :: .top :: .top :: .top :: .top :: .top :: .top :: .top :: .top :: .top :: .top :: .top :: .top :: .top :: .top :: .top :: []⟩
theorem k37 (σ loc : Store) (t0 t1 t2 t3 t4 t5 t6 t7 t8 t9 t10 t11 t12 t13 t14 t15 t16 t17 t18 t19 t20 t21 t22 t23 : TV) : forget ES 37 ⟨σ, loc, t0 :: t1 :: t2 :: t3 :: t4 :: t5 :: t6 :: t7 :: t8 :: t9 :: t10 :: t11 :: t12 :: t13 :: t14 :: t15 :: t16 :: t17 :: t18 :: t19 :: t20 :: t21 :: t22 :: t23 :: []⟩ = h37 σ loc t1 t4 := by rfl
theorem t55 : ES.at_ 55 = none := by rfl
theorem t56 : ES.at_ 56 = none := by rfl
theorem n39 : Tryz.prog.funcs[39]? = some Tryz.f39 := by kernel_rfl -- knell/plan.List
theorem m39_1 : ES.md 39 1 = .dflt := by rfl
theorem m39_2 : ES.md 39 2 = .dflt := by rfl
theorem f29_0 (t : TV) : afield Tryz.prog 29 t 0 = addP t 0 := by kernel_rfl
theorem f29_1 (t : TV) : afield Tryz.prog 29 t 1 = addP t 1 := by kernel_rfl
theorem f29_2 (t : TV) : afield Tryz.prog 29 t 2 = addP t 2 := by kernel_rfl
theorem f29_3 (t : TV) : afield Tryz.prog 29 t 3 = addP t 3 := by kernel_rfl
theorem f29_4 (t : TV) : afield Tryz.prog 29 t 4 = addP t 4 := by kernel_rfl
theorem f29_5 (t : TV) : afield Tryz.prog 29 t 5 = addP t 5 := by kernel_rfl
theorem f29_6 (t : TV) : afield Tryz.prog 29 t 6 = addP t 6 := by kernel_rfl
theorem f29_7 (t : TV) : afield Tryz.prog 29 t 7 = addP t 7 := by kernel_rfl
theorem f29_8 (t : TV) : afield Tryz.prog 29 t 8 = addP t 8 := by kernel_rfl
theorem f29_9 (t : TV) : afield Tryz.prog 29 t 9 = addP t 9 := by kernel_rfl
theorem f29_10 (t : TV) : afield Tryz.prog 29 t 10 = addP t 10 := by kernel_rfl
theorem f29_11 (t : TV) : afield Tryz.prog 29 t 11 = addP t 11 := by kernel_rfl
theorem f29_12 (t : TV) : afield Tryz.prog 29 t 12 = addP t 12 := by kernel_rfl
theorem bb22_0_1_2_3_4_5_6_7_8_9_10_11_12 (x0 : Int) (x1 : Int) (x2 : Int) (x3 : Int) (x4 : Int) (x5 : Int) (x6 : Int) (x7 : Int) (x8 : Int) (x9 : Int) (x10 : Int) (x11 : Int) (x12 : Int) : abuild Tryz.prog 22 [(0, .sc (.int .i64 x0)), (1, .sc (.int .i64 x1)), (2, .sc (.int .i64 x2)), (3, .sc (.int .i64 x3)), (4, .sc (.int .i64 x4)), (5, .sc (.int .i64 x5)), (6, .sc (.int .i64 x6)), (7, .sc (.int .i64 x7)), (8, .sc (.int .i64 x8)), (9, .sc (.int .i64 x9)), (10, .sc (.int .i64 x10)), (11, .sc (.int .i64 x11)), (12, .sc (.int .i64 x12))] = some [.sc (.int .i64 x0), .sc (.int .i64 x1), .sc (.int .i64 x2), .sc (.int .i64 x3), .sc (.int .i64 x4), .sc (.int .i64 x5), .sc (.int .i64 x6), .sc (.int .i64 x7), .sc (.int .i64 x8), .sc (.int .i64 x9), .sc (.int .i64 x10), .sc (.int .i64 x11), .sc (.int .i64 x12)] := by kernel_rfl
theorem w39 {a0 : AV} {σ : Store} {R : AV → Store → Prop} (n : Nat) (h : WP ES 39 n [.code (bodyOf Tryz.f39)] .normal ⟨σ, [], .v a0 :: undefT :: undefT :: undefT :: undefT :: undefT :: undefT :: undefT :: undefT :: undefT :: undefT :: undefT :: undefT :: undefT :: undefT :: undefT :: undefT :: undefT :: undefT :: undefT :: undefT :: undefT :: undefT :: undefT :: undefT :: undefT :: undefT :: undefT :: undefT :: undefT :: []⟩ (Fin ES [.cell 2 22] R)) : Ans ES 39 [a0] σ R := Ans_body (fn := Tryz.f39) n (ES_prim _) n39 (by rfl) rfl rfl h
theorem n45 : Tryz.prog.funcs[45]? = some Tryz.f45 := by kernel_rfl -- knell/script.repeat
theorem m45_2 : ES.md 45 2 = .dflt := by rfl
theorem m45_11 : ES.md 45 11 = .dflt := by rfl
theorem m45_12 : ES.md 45 12 = .dflt := by rfl
theorem w45 {a0 a1 : AV} {σ : Store} {R : AV → Store → Prop} (n : Nat) (h : WP ES 45 n [.code (bodyOf Tryz.f45)] .normal ⟨σ, [], .v a0 :: .v a1 :: undefT :: undefT :: undefT :: undefT :: undefT :: undefT :: undefT :: undefT :: undefT :: undefT :: undefT :: undefT :: undefT :: []⟩ (Fin ES [.tmp 4] R)) : Ans ES 45 [a0, a1] σ R := Ans_body (fn := Tryz.f45) n (ES_prim _) n45 (by rfl) rfl rfl h
def h45 (σ loc : Store) (t2 t5 t6 t7 : TV) : St := ⟨σ, loc, .top :: .top :: t2 :: .top :: .top :: t5 :: t6 :: t7 :: .top :: .top :: .top :: .top :: .top :: .top :: .top :: []⟩
theorem k45 (σ loc : Store) (t0 t1 t2 t3 t4 t5 t6 t7 t8 t9 t10 t11 t12 t13 t14 : TV) : forget ES 45 ⟨σ, loc, t0 :: t1 :: t2 :: t3 :: t4 :: t5 :: t6 :: t7 :: t8 :: t9 :: t10 :: t11 :: t12 :: t13 :: t14 :: []⟩ = h45 σ loc t2 t5 t6 t7 := by rfl
theorem n46 : Tryz.prog.funcs[46]? = some Tryz.f46 := by kernel_rfl -- knell/script.parts
theorem bb105_0_1 (x0f : FuncId) (x0a x0b : List AV) (x1 : Int) : abuild Tryz.prog 105 [(0, .fn x0f x0a x0b), (1, .sc (.int .i64 x1))] = some [.fn x0f x0a x0b, .sc (.int .i64 x1)] := by kernel_rfl
theorem m46_3 : ES.md 46 3 = .dflt := by rfl
theorem m46_4 : ES.md 46 4 = .dflt := by rfl
theorem m46_5 : ES.md 46 5 = .dflt := by rfl
theorem m46_6 : ES.md 46 6 = .dflt := by rfl
theorem m46_7 : ES.md 46 7 = .dflt := by rfl
theorem m46_19 : ES.md 46 19 = .dflt := by rfl
theorem bs101_3_0_1_2 (x0_0f : FuncId) (x0_0a x0_0b : List AV) (x0_1 : Int) (x1_0f : FuncId) (x1_0a x1_0b : List AV) (x1_1 : Int) (x2_0f : FuncId) (x2_0a x2_0b : List AV) (x2_1 : Int) : abuildS Tryz.prog 101 3 [(0, .agg [.fn x0_0f x0_0a x0_0b, .sc (.int .i64 x0_1)]), (1, .agg [.fn x1_0f x1_0a x1_0b, .sc (.int .i64 x1_1)]), (2, .agg [.fn x2_0f x2_0a x2_0b, .sc (.int .i64 x2_1)])] = some ([.fn x0_0f x0_0a x0_0b, .sc (.int .i64 x0_1), .fn x1_0f x1_0a x1_0b, .sc (.int .i64 x1_1), .fn x2_0f x2_0a x2_0b, .sc (.int .i64 x2_1)], 2) := by kernel_rfl
theorem m46_24 : ES.md 46 24 = .dflt := by rfl
theorem bs101_2_0_1 (x0_0f : FuncId) (x0_0a x0_0b : List AV) (x0_1 : Int) (x1_0f : FuncId) (x1_0a x1_0b : List AV) (x1_1 : Int) : abuildS Tryz.prog 101 2 [(0, .agg [.fn x0_0f x0_0a x0_0b, .sc (.int .i64 x0_1)]), (1, .agg [.fn x1_0f x1_0a x1_0b, .sc (.int .i64 x1_1)])] = some ([.fn x0_0f x0_0a x0_0b, .sc (.int .i64 x0_1), .fn x1_0f x1_0a x1_0b, .sc (.int .i64 x1_1)], 2) := by kernel_rfl
theorem m46_30 : ES.md 46 30 = .dflt := by rfl
theorem m46_36 : ES.md 46 36 = .dflt := by rfl
theorem w46 {a0 : AV} {σ : Store} {R : AV → Store → Prop} (n : Nat) (h : WP ES 46 n [.code (bodyOf Tryz.f46)] .normal ⟨σ, [], .v a0 :: undefT :: undefT :: undefT :: undefT :: undefT :: undefT :: undefT :: undefT :: undefT :: undefT :: undefT :: undefT :: undefT :: undefT :: undefT :: undefT :: undefT :: undefT :: undefT :: undefT :: undefT :: undefT :: undefT :: undefT :: undefT :: undefT :: undefT :: undefT :: undefT :: undefT :: undefT :: undefT :: undefT :: undefT :: undefT :: undefT :: []⟩ (Fin ES [.tmp 2] R)) : Ans ES 46 [a0] σ R := Ans_body (fn := Tryz.f46) n (ES_prim _) n46 (by rfl) rfl rfl h
theorem n55 : Tryz.prog.funcs[55]? = some Tryz.f55 := by kernel_rfl -- knell/knellref03.least
theorem w55 {a0 : AV} {σ : Store} {R : AV → Store → Prop} (n : Nat) (h : WP ES 55 n [.code (bodyOf Tryz.f55)] .normal ⟨σ, [], .v a0 :: undefT :: undefT :: undefT :: undefT :: undefT :: undefT :: undefT :: undefT :: undefT :: []⟩ (Fin ES [.tmp 2] R)) : Ans ES 55 [a0] σ R := Ans_body (fn := Tryz.f55) n (ES_prim _) n55 (by rfl) rfl rfl h
theorem n56 : Tryz.prog.funcs[56]? = some Tryz.f56 := by kernel_rfl -- knell/knellref03.most
theorem w56 {a0 : AV} {σ : Store} {R : AV → Store → Prop} (n : Nat) (h : WP ES 56 n [.code (bodyOf Tryz.f56)] .normal ⟨σ, [], .v a0 :: undefT :: undefT :: undefT :: undefT :: undefT :: undefT :: undefT :: undefT :: undefT :: undefT :: undefT :: undefT :: undefT :: undefT :: undefT :: undefT :: undefT :: undefT :: undefT :: []⟩ (Fin ES [.tmp 2] R)) : Ans ES 56 [a0] σ R := Ans_body (fn := Tryz.f56) n (ES_prim _) n56 (by rfl) rfl rfl h
theorem n57 : Tryz.prog.funcs[57]? = some Tryz.f57 := by kernel_rfl -- knell/script.parts$1
theorem t57 : ES.at_ 57 = none := by rfl
theorem c57 : acallable Tryz.prog 57 = true := by kernel_rfl
theorem w57 {a0 : AV} {σ : Store} {R : AV → Store → Prop} (n : Nat) (h : WP ES 57 n [.code (bodyOf Tryz.f57)] .normal ⟨σ, [], .v a0 :: undefT :: undefT :: undefT :: undefT :: undefT :: undefT :: []⟩ (Fin ES [.tmp 2] R)) : Ans ES 57 [a0] σ R := Ans_body (fn := Tryz.f57) n (ES_prim _) n57 (by rfl) rfl rfl h
theorem n58 : Tryz.prog.funcs[58]? = some Tryz.f58 := by kernel_rfl -- knell/script.parts$2
theorem t58 : ES.at_ 58 = none := by rfl
theorem c58 : acallable Tryz.prog 58 = true := by kernel_rfl
theorem w58 {a0 : AV} {σ : Store} {R : AV → Store → Prop} (n : Nat) (h : WP ES 58 n [.code (bodyOf Tryz.f58)] .normal ⟨σ, [], .v a0 :: undefT :: undefT :: undefT :: undefT :: undefT :: undefT :: []⟩ (Fin ES [.tmp 2] R)) : Ans ES 58 [a0] σ R := Ans_body (fn := Tryz.f58) n (ES_prim _) n58 (by rfl) rfl rfl h
theorem n59 : Tryz.prog.funcs[59]? = some Tryz.f59 := by kernel_rfl -- knell/script.parts$3
theorem t59 : ES.at_ 59 = none := by rfl
theorem c59 : acallable Tryz.prog 59 = true := by kernel_rfl
theorem w59 {a0 : AV} {σ : Store} {R : AV → Store → Prop} (n : Nat) (h : WP ES 59 n [.code (bodyOf Tryz.f59)] .normal ⟨σ, [], .v a0 :: undefT :: undefT :: undefT :: undefT :: undefT :: []⟩ (Fin ES [.tmp 2] R)) : Ans ES 59 [a0] σ R := Ans_body (fn := Tryz.f59) n (ES_prim _) n59 (by rfl) rfl rfl h
theorem n60 : Tryz.prog.funcs[60]? = some Tryz.f60 := by kernel_rfl -- knell/script.parts$4
theorem t60 : ES.at_ 60 = none := by rfl
theorem c60 : acallable Tryz.prog 60 = true := by kernel_rfl
theorem w60 {a0 : AV} {σ : Store} {R : AV → Store → Prop} (n : Nat) (h : WP ES 60 n [.code (bodyOf Tryz.f60)] .normal ⟨σ, [], .v a0 :: undefT :: undefT :: undefT :: undefT :: undefT :: []⟩ (Fin ES [.tmp 2] R)) : Ans ES 60 [a0] σ R := Ans_body (fn := Tryz.f60) n (ES_prim _) n60 (by rfl) rfl rfl h
theorem n61 : Tryz.prog.funcs[61]? = some Tryz.f61 := by kernel_rfl -- knell/script.parts$5
theorem t61 : ES.at_ 61 = none := by rfl
theorem c61 : acallable Tryz.prog 61 = true := by kernel_rfl
theorem w61 {a0 : AV} {σ : Store} {R : AV → Store → Prop} (n : Nat) (h : WP ES 61 n [.code (bodyOf Tryz.f61)] .normal ⟨σ, [], .v a0 :: undefT :: undefT :: undefT :: undefT :: undefT :: []⟩ (Fin ES [.tmp 2] R)) : Ans ES 61 [a0] σ R := Ans_body (fn := Tryz.f61) n (ES_prim _) n61 (by rfl) rfl rfl h
end Go.Abs
-- FACTS n3 t3 c3 m3_3 c8 u24 m3_19 s23 g23 c9 u3 a24_24 m3_35 c10 z29 m3_9 s29 c11 z23 m3_12 g29 c12 q29 hh29 s3 g3 c14 c13 t8 t9 t10 t11 t12 t13 t14 n4 t4 c4 m4_15 m4_3 c15 m4_8 u31 u41 m4_48 u30 m4_53 bb29_ t15 n5 t5 c5 m5_3 m5_20 c16 m5_36 m5_10 u45 m5_50 s5 z5 g5 m5_13 m5_73 m5_75 m5_83 s56 z56 g56 t16 n6 t6 c6 m6_4 m6_30 m6_43 bs24_0_ m6_45 m6_52 bs24_3_0_1_2 m6_53 m6_54 m6_56 u5 m6_66 sl24 m6_67 m6_75 m6_76 m6_15 m6_18 m6_98 h6 k6 n8 c19 m8_12 m8_13 m8_21 s9 z9 g9 u9 t19 n9 m9_2 u34 m9_15 m9_17 u23 z3 c20 m9_27 m9_30 s53 z53 g53 c21 m9_46 h9 k9 t20 t21 n10 m10_2 m10_15 z22 m10_5 c22 u22 s22 g22 c23 m10_7 c24 m10_42 c25 m10_55 m10_57 a30_30 m10_64 h10 k10 t22 t23 t24 t25 n11 m11_2 bb23_ m11_5 m11_23 m11_6 c26 m11_44 bs34_0_ m11_47 bb53_0 m11_12 bb53_0_1 bb53_0_1_2 c27 m11_96 c28 c29 m11_134 sl34 a34_34 m11_135 m11_137 h11 k11 t26 t27 t28 t29 n12 m12_1 m12_2 bb29_0_1_2_3_4_5_6_7_8_9_10_11_12 n13 m13_7 m13_9 m13_13 q53 hh53 q51 hh51 s51 g51 h13 k13 n14 m14_6 m14_8 m14_5 c30 m14_16 m14_17 h14 k14 t30 n15 m15_4 c31 c32 c33 u82 m15_33 s85 z85 g85 m15_10 c34 m15_41 sl41 a41_41 m15_42 c36 c35 m15_49 m15_50 h15 k15 t31 t32 t33 t34 t35 t36 n16 m16_1 c37 t37 n19 m19_0 bb23_0_1_2_3_4_5_6_7_8_9_10_11_12 n20 m20_7 m20_17 m20_18 h20 k20 n22 m22_10 h22 k22 n23 m23_1 m23_2 n24 m24_1 bb98_0_1 bb99_0_1_2_3_4_5_6_7_8_9_10_11_12 z99 m24_4 s99 c39 u99 s98 z98 g98 f98_0 f98_1 h24 k24 t39 n25 bb56_0 c45 bb56_0_1 bb56_0_1_2 m25_9 c46 u101 m25_58 s105 z105 g105 m25_11 f105_0 s103 g103 f105_1 m25_80 sl30 h25 k25 t45 t46 n26 m26_14 h26 k26 n27 n28 n29 m29_3 m29_6 f53_3 f51_0 f51_1 f53_4 f53_5 f53_6 n30 m30_1 m30_2 f56_0 f56_1 f56_2 f56_3 f54_0 f54_1 bb51_0_1 f56_4 f56_5 f56_6 bb53_0_1_2_3_4_5_6 n37 m37_1 c55 c56 h37 k37 t55 t56 n39 m39_1 m39_2 f29_0 f29_1 f29_2 f29_3 f29_4 f29_5 f29_6 f29_7 f29_8 f29_9 f29_10 f29_11 f29_12 bb22_0_1_2_3_4_5_6_7_8_9_10_11_12 n45 m45_2 m45_11 m45_12 h45 k45 n46 bb105_0_1 m46_3 m46_4 m46_5 m46_6 m46_7 m46_19 bs101_3_0_1_2 m46_24 bs101_2_0_1 m46_30 m46_36 n55 n56 n57 t57 c57 n58 t58 c58 n59 t59 c59 n60 t60 c60 n61 t61 c61
