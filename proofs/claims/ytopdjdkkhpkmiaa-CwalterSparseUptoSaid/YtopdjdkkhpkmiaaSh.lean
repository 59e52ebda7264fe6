import Derived.Test.YtopdjdkkhpkmiaaLib
import Derived.Test.YtopdjdkkhpkmiaaProg
import Derived.KernelRfl
set_option linter.unusedVariables false
set_option linter.unusedSimpArgs false
set_option linter.unusedVariables false
set_option maxRecDepth 100000
namespace Go.Proofs.Ytopdjdkkhpkmiaa.Y
open Go Go.Sx
def sh_seinelaw10_DfaClasses (l_1 state_2 a_3 b_4 : Value) (E : List PanicEntry → World → Prop) (R : Value → World → Prop) (w : World) : Prop :=
 CALL Try.prog 9 [] w E fun v5 w =>
 PURE Try.prog (Op.unary .not v5) fun v6 =>
 COND v6 (
 R (.bool false) w) (
 CALL Try.prog 10 [l_1] w E fun v7 w =>
 PURE Try.prog (Instr.extract v7 0) fun v8 =>
 PURE Try.prog (Instr.extract v7 1) fun v9 =>
 PURE Try.prog (Op.unary .not v9) fun v10 =>
 COND v10 (
 R (.bool true) w) (
 CALL Try.prog 11 [l_1] w E fun v11 w =>
 PURE Try.prog (Instr.extract v11 0) fun v12 =>
 PURE Try.prog (Instr.extract v11 1) fun v13 =>
 PURE Try.prog (BINS .neq 28 (.tmp 32) (.const (.int .i64 0)) v13 (.int .i64 0)) fun v14 =>
 COND v14 (
 PURE Try.prog (BINS .eql 27 (.tmp 34) (.const (.pointer Option.none)) v12 (.pointer Option.none)) fun v15 =>
 R v15 w) (
 CALL Try.prog 12 [l_1] w E fun v16 w =>
 RUN Try.prog (Instr.alloc 33 true (.tuple #[])) w fun c_17 w =>
 RUNU Try.prog (Instr.storeAt 33 c_17 v16) w fun w =>
 CALL Try.prog 13 [v12, state_2, a_3] w E fun v18 w =>
 CALL Try.prog 13 [v12, state_2, b_4] w E fun v19 w =>
 JOIN0 (fun J1 =>
 PURE Try.prog (BINS .lss 3 (.tmp 46) (.const (.int .i64 0)) state_2 (.int .i64 0)) fun v20 =>
 COND v20 (
 COND (.bool true) (
 PURE Try.prog (BINS .eql 3 (.tmp 54) (.const (.int .i64 (-1))) v18 (.int .i64 (-1))) fun v21 =>
 COND v21 (
 PURE Try.prog (BINS .eql 3 (.tmp 57) (.const (.int .i64 (-1))) v19 (.int .i64 (-1))) fun v22 =>
 R v22 w) (
 R (.bool false) w)) (
 J1 w)) (
 CALL Try.prog 14 [v12] w E fun v23 w =>
 PURE Try.prog (BINS .geq 3 (.tmp 49) (.tmp 51) state_2 v23) fun v24 =>
 COND v24 (
 PURE Try.prog (BINS .eql 3 (.tmp 54) (.const (.int .i64 (-1))) v18 (.int .i64 (-1))) fun v25 =>
 COND v25 (
 PURE Try.prog (BINS .eql 3 (.tmp 57) (.const (.int .i64 (-1))) v19 (.int .i64 (-1))) fun v26 =>
 R v26 w) (
 R (.bool false) w)) (
 J1 w))) (fun w =>
 DRAW w fun S w =>
 READ Try.prog S (Instr.loadAt 33 c_17) w fun v27 =>
 READ Try.prog S (Instr.loadAt 33 c_17) w fun v28 =>
 CALL Try.prog 15 [v27, a_3] w E fun v29 w =>
 KEEPS S w fun S =>
 CALL Try.prog 15 [v28, b_4] w E fun v30 w =>
 KEEPS S w fun S =>
 PURE Try.prog (BINS .neq 3 (.tmp 62) (.tmp 65) v29 v30) fun v31 =>
 COND v31 (
 READ Try.prog S (Instr.loadAt 33 c_17) w fun v32 =>
 CALL Try.prog 15 [v32, a_3] w E fun v33 w =>
 KEEPS S w fun S =>
 PURE Try.prog (BINS .neq 3 (.tmp 75) (.const (.int .i64 0)) v33 (.int .i64 0)) fun v34 =>
 COND v34 (
 PURE Try.prog (BINS .geq 3 (.tmp 83) (.const (.int .i64 0)) v18 (.int .i64 0)) fun v35 =>
 COND v35 (
 CALL Try.prog 14 [v12] w E fun v36 w =>
 KEEPS S w fun S =>
 PURE Try.prog (BINS .lss 3 (.tmp 87) (.tmp 89) v18 v36) fun v37 =>
 COND v37 (
 READ Try.prog S (Instr.loadAt 33 c_17) w fun v38 =>
 CALL Try.prog 16 [v12] w E fun v39 w =>
 KEEPS S w fun S =>
 CALL Try.prog 17 [v38] w E fun v40 w =>
 KEEPS S w fun S =>
 PURE Try.prog (BINS .eql 3 (.tmp 94) (.tmp 96) v39 v40) fun v41 =>
 R v41 w) (
 R (.bool false) w)) (
 R (.bool false) w)) (
 PURE Try.prog (BINS .eql 3 (.tmp 78) (.const (.int .i64 0)) v18 (.int .i64 0)) fun v42 =>
 COND v42 (
 PURE Try.prog (BINS .geq 3 (.tmp 83) (.const (.int .i64 0)) v18 (.int .i64 0)) fun v43 =>
 COND v43 (
 CALL Try.prog 14 [v12] w E fun v44 w =>
 KEEPS S w fun S =>
 PURE Try.prog (BINS .lss 3 (.tmp 87) (.tmp 89) v18 v44) fun v45 =>
 COND v45 (
 READ Try.prog S (Instr.loadAt 33 c_17) w fun v46 =>
 CALL Try.prog 16 [v12] w E fun v47 w =>
 KEEPS S w fun S =>
 CALL Try.prog 17 [v46] w E fun v48 w =>
 KEEPS S w fun S =>
 PURE Try.prog (BINS .eql 3 (.tmp 94) (.tmp 96) v47 v48) fun v49 =>
 R v49 w) (
 R (.bool false) w)) (
 R (.bool false) w)) (
 R (.bool false) w))) (
 PURE Try.prog (BINS .eql 3 (.tmp 68) (.tmp 69) v18 v19) fun v50 =>
 COND v50 (
 READ Try.prog S (Instr.loadAt 33 c_17) w fun v51 =>
 CALL Try.prog 15 [v51, a_3] w E fun v52 w =>
 KEEPS S w fun S =>
 PURE Try.prog (BINS .neq 3 (.tmp 75) (.const (.int .i64 0)) v52 (.int .i64 0)) fun v53 =>
 COND v53 (
 PURE Try.prog (BINS .geq 3 (.tmp 83) (.const (.int .i64 0)) v18 (.int .i64 0)) fun v54 =>
 COND v54 (
 CALL Try.prog 14 [v12] w E fun v55 w =>
 KEEPS S w fun S =>
 PURE Try.prog (BINS .lss 3 (.tmp 87) (.tmp 89) v18 v55) fun v56 =>
 COND v56 (
 READ Try.prog S (Instr.loadAt 33 c_17) w fun v57 =>
 CALL Try.prog 16 [v12] w E fun v58 w =>
 KEEPS S w fun S =>
 CALL Try.prog 17 [v57] w E fun v59 w =>
 KEEPS S w fun S =>
 PURE Try.prog (BINS .eql 3 (.tmp 94) (.tmp 96) v58 v59) fun v60 =>
 R v60 w) (
 R (.bool false) w)) (
 R (.bool false) w)) (
 PURE Try.prog (BINS .eql 3 (.tmp 78) (.const (.int .i64 0)) v18 (.int .i64 0)) fun v61 =>
 COND v61 (
 PURE Try.prog (BINS .geq 3 (.tmp 83) (.const (.int .i64 0)) v18 (.int .i64 0)) fun v62 =>
 COND v62 (
 CALL Try.prog 14 [v12] w E fun v63 w =>
 KEEPS S w fun S =>
 PURE Try.prog (BINS .lss 3 (.tmp 87) (.tmp 89) v18 v63) fun v64 =>
 COND v64 (
 READ Try.prog S (Instr.loadAt 33 c_17) w fun v65 =>
 CALL Try.prog 16 [v12] w E fun v66 w =>
 KEEPS S w fun S =>
 CALL Try.prog 17 [v65] w E fun v67 w =>
 KEEPS S w fun S =>
 PURE Try.prog (BINS .eql 3 (.tmp 94) (.tmp 96) v66 v67) fun v68 =>
 R v68 w) (
 R (.bool false) w)) (
 R (.bool false) w)) (
 R (.bool false) w))) (
 R (.bool false) w))))))
theorem by_seinelaw10_DfaClasses {l_1 state_2 a_3 b_4 : Value} {R : Value → World → Prop} {w : World} (h : sh_seinelaw10_DfaClasses l_1 state_2 a_3 b_4 NOPE R w) : RET Try.prog 3 [l_1, state_2, a_3, b_4] w R :=
  ⟨by kernel_rfl, calls_by [(23015, [])] Try.func3 (by kernel_rfl) (by kernel_rfl) (by kernel_rfl) h⟩

def sh_seinelaw10_DfaNext (l_1 state_2 c_3 : Value) (E : List PanicEntry → World → Prop) (R : Value → World → Prop) (w : World) : Prop :=
 CALL Try.prog 9 [] w E fun v4 w =>
 PURE Try.prog (Op.unary .not v4) fun v5 =>
 COND v5 (
 R (.bool false) w) (
 CALL Try.prog 10 [l_1] w E fun v6 w =>
 PURE Try.prog (Instr.extract v6 0) fun v7 =>
 PURE Try.prog (Instr.extract v6 1) fun v8 =>
 CALL Try.prog 18 [v7] w E fun v9 w =>
 JOIN0 (fun J1 =>
 PURE Try.prog (Op.unary .not v8) fun v10 =>
 COND v10 (
 COND (.bool true) (
 R (.bool true) w) (
 J1 w)) (
 PURE Try.prog (Builtin.len_ #[24] 3 #[v9]) fun v11 =>
 PURE Try.prog (BINS .gtr 3 (.tmp 27) (.const (.int .i64 160)) v11 (.int .i64 160)) fun v12 =>
 COND v12 (
 R (.bool true) w) (
 J1 w))) (fun w =>
 CALL Try.prog 11 [l_1] w E fun v13 w =>
 PURE Try.prog (Instr.extract v13 0) fun v14 =>
 PURE Try.prog (Instr.extract v13 1) fun v15 =>
 JOIN0 (fun J2 =>
 PURE Try.prog (BINS .neq 28 (.tmp 35) (.const (.int .i64 0)) v15 (.int .i64 0)) fun v16 =>
 COND v16 (
 COND (.bool true) (
 R (.bool false) w) (
 J2 w)) (
 CALL Try.prog 14 [v14] w E fun v17 w =>
 PURE Try.prog (Builtin.len_ #[24] 3 #[v9]) fun v18 =>
 PURE Try.prog (BINS .neq 3 (.tmp 39) (.tmp 41) v17 v18) fun v19 =>
 COND v19 (
 COND (.bool true) (
 R (.bool false) w) (
 J2 w)) (
 CALL Try.prog 16 [v14] w E fun v20 w =>
 CALL Try.prog 19 [v7] w E fun v21 w =>
 PURE Try.prog (BINS .neq 3 (.tmp 46) (.tmp 48) v20 v21) fun v22 =>
 COND v22 (
 COND (.bool true) (
 R (.bool false) w) (
 J2 w)) (
 CALL Try.prog 13 [v14, state_2, c_3] w E fun v23 w =>
 CALL Try.prog 20 [v9, state_2, c_3] w E fun v24 w =>
 PURE Try.prog (BINS .neq 3 (.tmp 55) (.tmp 59) v23 v24) fun v25 =>
 COND v25 (
 R (.bool false) w) (
 J2 w))))) (fun w =>
 JOIN0 (fun J3 =>
 PURE Try.prog (BINS .lss 3 (.tmp 62) (.const (.int .i64 0)) state_2 (.int .i64 0)) fun v26 =>
 COND v26 (
 COND (.bool true) (
 CALL Try.prog 21 [v14, state_2] w E fun v27 w =>
 PURE Try.prog (Builtin.len_ #[42] 3 #[v27]) fun v28 =>
 PURE Try.prog (BINS .eql 3 (.tmp 73) (.const (.int .i64 0)) v28 (.int .i64 0)) fun v29 =>
 R v29 w) (
 J3 w)) (
 PURE Try.prog (Builtin.len_ #[24] 3 #[v9]) fun v30 =>
 PURE Try.prog (BINS .geq 3 (.tmp 65) (.tmp 67) state_2 v30) fun v31 =>
 COND v31 (
 CALL Try.prog 21 [v14, state_2] w E fun v32 w =>
 PURE Try.prog (Builtin.len_ #[42] 3 #[v32]) fun v33 =>
 PURE Try.prog (BINS .eql 3 (.tmp 73) (.const (.int .i64 0)) v33 (.int .i64 0)) fun v34 =>
 R v34 w) (
 J3 w))) (fun w =>
 DRAW w fun S w =>
 PURE Try.prog (Instr.indexAt 24 v9 state_2) fun v35 =>
 READ Try.prog S (Instr.loadAt 9 v35) w fun v36 =>
 CALL Try.prog 21 [v14, state_2] w E fun v37 w =>
 KEEPS S w fun S =>
 READ Try.prog S (convert 42 9 v37) w fun v38 =>
 PURE Try.prog (BINS .eql 9 (.tmp 78) (.tmp 82) v38 v36) fun v39 =>
 R v39 w))))
theorem by_seinelaw10_DfaNext {l_1 state_2 c_3 : Value} {R : Value → World → Prop} {w : World} (h : sh_seinelaw10_DfaNext l_1 state_2 c_3 NOPE R w) : RET Try.prog 4 [l_1, state_2, c_3] w R :=
  ⟨by kernel_rfl, calls_by [(16008, []), (19011, []), (21013, [])] Try.func4 (by kernel_rfl) (by kernel_rfl) (by kernel_rfl) h⟩

def sh_seinelaw10_DfaCap (b_1 n_2 : Value) (E : List PanicEntry → World → Prop) (R : Value → World → Prop) (w : World) : Prop :=
 CALL Try.prog 9 [] w E fun v3 w =>
 PURE Try.prog (Op.unary .not v3) fun v4 =>
 COND v4 (
 R (.bool false) w) (
 PURE Try.prog (Builtin.len_ #[42] 3 #[b_1]) fun v5 =>
 PURE Try.prog (BINS .gtr 3 (.tmp 16) (.const (.int .i64 400)) v5 (.int .i64 400)) fun v6 =>
 COND v6 (
 R (.bool true) w) (
 RUN Try.prog (Builtin.append_ #[42, 42] 42 #[(.slice Option.none 0 0), b_1]) w fun v7 w =>
 LOOP2 (fun t_8 i_9 w next1 =>
 PURE Try.prog (convert 5 3 n_2) fun v10 =>
 PURE Try.prog (BINS .lss 3 (.tmp 21) (.tmp 23) i_9 v10) fun v11 =>
 COND v11 (
 RUN Try.prog (Instr.buildSlice 42 1 #[(0, (.int .u8 97))]) w fun v12 w =>
 RUN Try.prog (Builtin.append_ #[42, 42] 42 #[t_8, v12]) w fun v13 w =>
 PURE Try.prog (BINS .add 3 (.tmp 25) (.const (.int .i64 1)) i_9 (.int .i64 1)) fun v14 =>
 next1 v13 v14 w) (
 RUN Try.prog (Instr.buildSlice 22 1 #[(0, t_8)]) w fun v15 w =>
 CALL Try.prog 11 [v15] w E fun v16 w =>
 PURE Try.prog (Instr.extract v16 0) fun v17 =>
 PURE Try.prog (Instr.extract v16 1) fun v18 =>
 PURE Try.prog (Builtin.len_ #[42] 3 #[t_8]) fun v19 =>
 PURE Try.prog (BINS .add 3 (.tmp 37) (.const (.int .i64 1)) v19 (.int .i64 1)) fun v20 =>
 PURE Try.prog (BINS .gtr 3 (.tmp 38) (.const (.int .i64 160)) v20 (.int .i64 160)) fun v21 =>
 JOIN0 (fun J2 =>
 RUN Try.prog (Instr.buildSlice 22 1 #[(0, t_8)]) w fun v22 w =>
 CALL Try.prog 22 [v22] w E fun v23 w =>
 CALL Try.prog 23 [v23] w E fun v24 w =>
 PURE Try.prog (Builtin.len_ #[42] 3 #[t_8]) fun v25 =>
 PURE Try.prog (BINS .add 3 (.tmp 45) (.const (.int .i64 1)) v25 (.int .i64 1)) fun v26 =>
 PURE Try.prog (BINS .neq 3 (.tmp 43) (.tmp 46) v24 v26) fun v27 =>
 COND v27 (
 COND (.bool true) (
 R (.bool false) w) (
 J2 w)) (
 PURE Try.prog (BINS .eql 28 (.tmp 49) (.const (.int .i64 14)) v18 (.int .i64 14)) fun v28 =>
 PURE Try.prog (BINS .neq 4 (.tmp 50) (.tmp 51) v28 v21) fun v29 =>
 COND v29 (
 COND (.bool true) (
 R (.bool false) w) (
 J2 w)) (
 PURE Try.prog (BINS .eql 27 (.tmp 55) (.const (.pointer Option.none)) v17 (.pointer Option.none)) fun v30 =>
 PURE Try.prog (BINS .neq 4 (.tmp 56) (.tmp 57) v30 v21) fun v31 =>
 COND v31 (
 R (.bool false) w) (
 J2 w)))) (fun w =>
 CALL Try.prog 24 [] w E fun v32 w =>
 COND v21 (
 CALL Try.prog 25 [v17, v32, t_8] w E fun v33 w =>
 PURE Try.prog (Builtin.len_ #[49] 3 #[v33]) fun v34 =>
 PURE Try.prog (BINS .eql 3 (.tmp 66) (.const (.int .i64 0)) v34 (.int .i64 0)) fun v35 =>
 COND v35 (
 CALL Try.prog 26 [v32] w E fun v36 w =>
 PURE Try.prog (Instr.build 52 #[]) fun v37 =>
 PURE Try.prog (BINS .eql 52 (.tmp 70) (.tmp 71) v36 v37) fun v38 =>
 COND v38 (
 CALL Try.prog 14 [v17] w E fun v39 w =>
 PURE Try.prog (BINS .eql 3 (.tmp 76) (.const (.int .i64 0)) v39 (.int .i64 0)) fun v40 =>
 COND v40 (
 CALL Try.prog 16 [v17] w E fun v41 w =>
 PURE Try.prog (BINS .eql 3 (.tmp 81) (.const (.int .i64 0)) v41 (.int .i64 0)) fun v42 =>
 COND v42 (
 CALL Try.prog 13 [v17, (.int .i64 0), (.int .u8 97)] w E fun v43 w =>
 PURE Try.prog (BINS .eql 3 (.tmp 86) (.const (.int .i64 (-1))) v43 (.int .i64 (-1))) fun v44 =>
 COND v44 (
 CALL Try.prog 21 [v17, (.int .i64 0)] w E fun v45 w =>
 PURE Try.prog (Builtin.len_ #[42] 3 #[v45]) fun v46 =>
 PURE Try.prog (BINS .eql 3 (.tmp 92) (.const (.int .i64 0)) v46 (.int .i64 0)) fun v47 =>
 R v47 w) (
 R (.bool false) w)) (
 R (.bool false) w)) (
 R (.bool false) w)) (
 R (.bool false) w)) (
 R (.bool false) w)) (
 PURE Try.prog (BINS .eql 28 (.tmp 95) (.const (.int .i64 0)) v18 (.int .i64 0)) fun v48 =>
 COND v48 (
 CALL Try.prog 14 [v17] w E fun v49 w =>
 PURE Try.prog (Builtin.len_ #[42] 3 #[t_8]) fun v50 =>
 PURE Try.prog (BINS .add 3 (.tmp 101) (.const (.int .i64 1)) v50 (.int .i64 1)) fun v51 =>
 PURE Try.prog (BINS .eql 3 (.tmp 99) (.tmp 102) v49 v51) fun v52 =>
 R v52 w) (
 R (.bool false) w))))) v7 (.int .i64 0) w))
theorem by_seinelaw10_DfaCap {b_1 n_2 : Value} {R : Value → World → Prop} {w : World} (h : sh_seinelaw10_DfaCap b_1 n_2 NOPE R w) : RET Try.prog 5 [b_1, n_2] w R :=
  ⟨by kernel_rfl, calls_by [(9, [6, 7]), (24016, [])] Try.func5 (by kernel_rfl) (by kernel_rfl) (by kernel_rfl) h⟩

def sh_seinelaw13_TwowaySparse (b_1 line_2 : Value) (E : List PanicEntry → World → Prop) (R : Value → World → Prop) (w : World) : Prop :=
 CALL Try.prog 27 [] w E fun v3 w =>
 PURE Try.prog (Op.unary .not v3) fun v4 =>
 COND v4 (
 R (.bool false) w) (
 CALL Try.prog 28 [b_1, line_2] w E fun v5 w =>
 JOIN0 (fun J1 =>
 PURE Try.prog (Op.unary .not v5) fun v6 =>
 COND v6 (
 COND (.bool true) (
 R (.bool true) w) (
 J1 w)) (
 PURE Try.prog (Builtin.len_ #[42] 3 #[b_1]) fun v7 =>
 PURE Try.prog (BINS .eql 3 (.tmp 19) (.const (.int .i64 0)) v7 (.int .i64 0)) fun v8 =>
 COND v8 (
 R (.bool true) w) (
 J1 w))) (fun w =>
 CALL Try.prog 29 [b_1] w E fun v9 w =>
 PURE Try.prog (Instr.extract v9 0) fun v10 =>
 PURE Try.prog (Instr.extract v9 1) fun v11 =>
 PURE Try.prog (BINS .eql 28 (.tmp 27) (.const (.int .i64 0)) v11 (.int .i64 0)) fun v12 =>
 COND v12 (
 CALL Try.prog 31 [v10, line_2] w E fun v13 w =>
 RUN Try.prog (Instr.buildSlice 22 1 #[(0, b_1)]) w fun v14 w =>
 CALL Try.prog 32 [v14] w E fun v15 w =>
 CALL Try.prog 33 [v15, (.pointer Option.none), line_2] w E fun v16 w =>
 CALL Try.prog 30 [v13, v16] w E fun v17 w =>
 R v17 w) (
 R (.bool false) w)))
theorem by_seinelaw13_TwowaySparse {b_1 line_2 : Value} {R : Value → World → Prop} {w : World} (h : sh_seinelaw13_TwowaySparse b_1 line_2 NOPE R w) : RET Try.prog 6 [b_1, line_2] w R :=
  ⟨by kernel_rfl, calls_by [(15007, [])] Try.func6 (by kernel_rfl) (by kernel_rfl) (by kernel_rfl) h⟩

def sh_seinelaw10_DfaSparse (l_1 line_2 state_3 c_4 : Value) (E : List PanicEntry → World → Prop) (R : Value → World → Prop) (w : World) : Prop :=
 CALL Try.prog 9 [] w E fun v5 w =>
 PURE Try.prog (Op.unary .not v5) fun v6 =>
 COND v6 (
 R (.bool false) w) (
 CALL Try.prog 10 [l_1] w E fun v7 w =>
 PURE Try.prog (Instr.extract v7 0) fun v8 =>
 PURE Try.prog (Instr.extract v7 1) fun v9 =>
 JOIN0 (fun J1 =>
 PURE Try.prog (Op.unary .not v9) fun v10 =>
 COND v10 (
 COND (.bool true) (
 R (.bool true) w) (
 J1 w)) (
 PURE Try.prog (Builtin.len_ #[42] 3 #[line_2]) fun v11 =>
 PURE Try.prog (BINS .gtr 3 (.tmp 27) (.const (.int .i64 400)) v11 (.int .i64 400)) fun v12 =>
 COND v12 (
 R (.bool true) w) (
 J1 w))) (fun w =>
 CALL Try.prog 11 [l_1] w E fun v13 w =>
 PURE Try.prog (Instr.extract v13 0) fun v14 =>
 PURE Try.prog (Instr.extract v13 1) fun v15 =>
 CALL Try.prog 32 [l_1] w E fun v16 w =>
 PURE Try.prog (BINS .neq 28 (.tmp 37) (.const (.int .i64 0)) v15 (.int .i64 0)) fun v17 =>
 COND v17 (
 CALL Try.prog 34 [v16] w E fun v18 w =>
 PURE Try.prog (BINS .gtr 3 (.tmp 40) (.const (.int .i64 160)) v18 (.int .i64 160)) fun v19 =>
 R v19 w) (
 CALL Try.prog 25 [v14, (.pointer Option.none), line_2] w E fun v20 w =>
 CALL Try.prog 33 [v16, (.pointer Option.none), line_2] w E fun v21 w =>
 CALL Try.prog 30 [v20, v21] w E fun v22 w =>
 COND v22 (
 CALL Try.prog 13 [v14, state_3, c_4] w E fun v23 w =>
 CALL Try.prog 35 [v16, (.pointer Option.none), state_3, c_4] w E fun v24 w =>
 PURE Try.prog (BINS .eql 3 (.tmp 53) (.tmp 57) v23 v24) fun v25 =>
 COND v25 (
 CALL Try.prog 14 [v14] w E fun v26 w =>
 CALL Try.prog 34 [v16] w E fun v27 w =>
 PURE Try.prog (BINS .eql 3 (.tmp 62) (.tmp 64) v26 v27) fun v28 =>
 R v28 w) (
 R (.bool false) w)) (
 R (.bool false) w))))
theorem by_seinelaw10_DfaSparse {l_1 line_2 state_3 c_4 : Value} {R : Value → World → Prop} {w : World} (h : sh_seinelaw10_DfaSparse l_1 line_2 state_3 c_4 NOPE R w) : RET Try.prog 7 [l_1, line_2, state_3, c_4] w R :=
  ⟨by kernel_rfl, calls_by [(15007, [])] Try.func7 (by kernel_rfl) (by kernel_rfl) (by kernel_rfl) h⟩

def sh_seinelaw16_CwalterSparse (l_1 line_2 turn_3 : Value) (E : List PanicEntry → World → Prop) (R : Value → World → Prop) (w : World) : Prop :=
 CALL Try.prog 36 [] w E fun v4 w =>
 PURE Try.prog (Op.unary .not v4) fun v5 =>
 COND v5 (
 R (.bool false) w) (
 CALL Try.prog 37 [l_1] w E fun v6 w =>
 PURE Try.prog (Instr.extract v6 0) fun v7 =>
 PURE Try.prog (Instr.extract v6 1) fun v8 =>
 JOIN0 (fun J1 =>
 PURE Try.prog (Op.unary .not v8) fun v9 =>
 COND v9 (
 COND (.bool true) (
 R (.bool true) w) (
 J1 w)) (
 PURE Try.prog (Builtin.len_ #[42] 3 #[line_2]) fun v10 =>
 PURE Try.prog (BINS .gtr 3 (.tmp 25) (.const (.int .i64 300)) v10 (.int .i64 300)) fun v11 =>
 COND v11 (
 COND (.bool true) (
 R (.bool true) w) (
 J1 w)) (
 PURE Try.prog (Builtin.len_ #[22] 3 #[l_1]) fun v12 =>
 PURE Try.prog (BINS .eql 3 (.tmp 30) (.const (.int .i64 0)) v12 (.int .i64 0)) fun v13 =>
 COND v13 (
 R (.bool true) w) (
 J1 w)))) (fun w =>
 CALL Try.prog 38 [l_1] w E fun v14 w =>
 CALL Try.prog 39 [v14, line_2] w E fun v15 w =>
 RUN Try.prog (Instr.buildSlice 22 1 #[(0, (.slice Option.none 0 0))]) w fun v16 w =>
 RUN Try.prog (Builtin.append_ #[22, 22] 22 #[(.slice Option.none 0 0), v16]) w fun v17 w =>
 LOOP2 (fun o_18 i_19 w next2 =>
 PURE Try.prog (Builtin.len_ #[22] 3 #[l_1]) fun v20 =>
 PURE Try.prog (BINS .lss 3 (.tmp 40) (.tmp 42) i_19 v20) fun v21 =>
 COND v21 (
 PURE Try.prog (convert 5 3 turn_3) fun v22 =>
 PURE Try.prog (BINS .add 3 (.tmp 48) (.tmp 50) i_19 v22) fun v23 =>
 PURE Try.prog (Builtin.len_ #[22] 3 #[l_1]) fun v24 =>
 PURE Try.prog (BINS .rem 3 (.tmp 51) (.tmp 53) v23 v24) fun v25 =>
 PURE Try.prog (Instr.indexAt 22 l_1 v25) fun v26 =>
 RUN Try.prog (Instr.loadAt 42 v26) w fun v27 w =>
 RUN Try.prog (Instr.buildSlice 22 1 #[(0, v27)]) w fun v28 w =>
 RUN Try.prog (Builtin.append_ #[22, 22] 22 #[o_18, v28]) w fun v29 w =>
 PURE Try.prog (BINS .add 3 (.tmp 44) (.const (.int .i64 1)) i_19 (.int .i64 1)) fun v30 =>
 next2 v29 v30 w) (
 CALL Try.prog 32 [l_1] w E fun v31 w =>
 CALL Try.prog 33 [v31, (.pointer Option.none), line_2] w E fun v32 w =>
 CALL Try.prog 30 [v15, v32] w E fun v33 w =>
 COND v33 (
 CALL Try.prog 38 [o_18] w E fun v34 w =>
 CALL Try.prog 39 [v34, line_2] w E fun v35 w =>
 CALL Try.prog 30 [v15, v35] w E fun v36 w =>
 R v36 w) (
 R (.bool false) w))) v17 (.int .i64 0) w))
theorem by_seinelaw16_CwalterSparse {l_1 line_2 turn_3 : Value} {R : Value → World → Prop} {w : World} (h : sh_seinelaw16_CwalterSparse l_1 line_2 turn_3 NOPE R w) : RET Try.prog 8 [l_1, line_2, turn_3] w R :=
  ⟨by kernel_rfl, calls_by [(11, [11, 12]), (15007, [])] Try.func8 (by kernel_rfl) (by kernel_rfl) (by kernel_rfl) h⟩

def sh_seinelaw10_awake (E : List PanicEntry → World → Prop) (R : Value → World → Prop) (w : World) : Prop :=
 RUN Try.prog (Instr.buildSlice 42 2 #[(0, (.int .u8 104)), (1, (.int .u8 101))]) w fun v1 w =>
 RUN Try.prog (convert 42 42 v1) w fun v2 w =>
 RUN Try.prog (Instr.buildSlice 42 3 #[(0, (.int .u8 115)), (1, (.int .u8 104)), (2, (.int .u8 101))]) w fun v3 w =>
 RUN Try.prog (convert 42 42 v3) w fun v4 w =>
 RUN Try.prog (Instr.buildSlice 22 2 #[(0, v2), (1, v4)]) w fun v5 w =>
 CALL Try.prog 11 [v5] w E fun v6 w =>
 PURE Try.prog (Instr.extract v6 0) fun v7 =>
 PURE Try.prog (Instr.extract v6 1) fun v8 =>
 CALL Try.prog 24 [] w E fun v9 w =>
 RUN Try.prog (Instr.buildSlice 42 4 #[(0, (.int .u8 117)), (1, (.int .u8 115)), (2, (.int .u8 104)), (3, (.int .u8 101))]) w fun v10 w =>
 RUN Try.prog (convert 42 42 v10) w fun v11 w =>
 CALL Try.prog 25 [v7, v9, v11] w E fun v12 w =>
 PURE Try.prog (BINS .eql 28 (.tmp 20) (.const (.int .i64 0)) v8 (.int .i64 0)) fun v13 =>
 COND v13 (
 CALL Try.prog 14 [v7] w E fun v14 w =>
 PURE Try.prog (BINS .eql 3 (.tmp 24) (.const (.int .i64 6)) v14 (.int .i64 6)) fun v15 =>
 COND v15 (
 CALL Try.prog 16 [v7] w E fun v16 w =>
 PURE Try.prog (BINS .eql 3 (.tmp 29) (.const (.int .i64 4)) v16 (.int .i64 4)) fun v17 =>
 COND v17 (
 PURE Try.prog (Instr.build 69 #[(0, (.int .i64 1)), (1, (.int .i64 4))]) fun v18 =>
 PURE Try.prog (Instr.build 69 #[(0, (.int .i64 2)), (1, (.int .i64 4))]) fun v19 =>
 RUN Try.prog (Instr.buildSlice 49 2 #[(0, v18), (1, v19)]) w fun v20 w =>
 CALL Try.prog 30 [v12, v20] w E fun v21 w =>
 COND v21 (
 CALL Try.prog 26 [v9] w E fun v22 w =>
 PURE Try.prog (Instr.build 52 #[(0, (.int .i64 4)), (1, (.int .i64 4))]) fun v23 =>
 PURE Try.prog (BINS .eql 52 (.tmp 41) (.tmp 42) v22 v23) fun v24 =>
 COND v24 (
 CALL Try.prog 13 [v7, (.int .i64 0), (.int .u8 115)] w E fun v25 w =>
 PURE Try.prog (BINS .eql 3 (.tmp 47) (.const (.int .i64 3)) v25 (.int .i64 3)) fun v26 =>
 COND v26 (
 CALL Try.prog 13 [v7, (.int .i64 5), (.int .u8 120)] w E fun v27 w =>
 PURE Try.prog (BINS .eql 3 (.tmp 52) (.const (.int .i64 0)) v27 (.int .i64 0)) fun v28 =>
 R v28 w) (
 R (.bool false) w)) (
 R (.bool false) w)) (
 R (.bool false) w)) (
 R (.bool false) w)) (
 R (.bool false) w)) (
 R (.bool false) w)
theorem by_seinelaw10_awake {R : Value → World → Prop} {w : World} (h : sh_seinelaw10_awake NOPE R w) : RET Try.prog 9 [] w R :=
  ⟨by kernel_rfl, calls_by [] Try.func9 (by kernel_rfl) (by kernel_rfl) (by kernel_rfl) h⟩

def sh_seinelaw10_texts (l_1 : Value) (E : List PanicEntry → World → Prop) (R : Value → World → Prop) (w : World) : Prop :=
 LOOP2 (fun out_2 i_3 w next1 =>
 PURE Try.prog (Builtin.len_ #[22] 3 #[l_1]) fun v4 =>
 PURE Try.prog (BINS .lss 3 (.tmp 6) (.tmp 8) i_3 v4) fun v5 =>
 COND v5 (
 PURE Try.prog (Instr.indexAt 22 l_1 i_3) fun v6 =>
 RUN Try.prog (Instr.loadAt 42 v6) w fun v7 w =>
 PURE Try.prog (Builtin.len_ #[42] 3 #[v7]) fun v8 =>
 PURE Try.prog (BINS .gtr 3 (.tmp 16) (.const (.int .i64 40)) v8 (.int .i64 40)) fun v9 =>
 COND v9 (
 R (.tuple #[(.slice Option.none 0 0), (.bool false)]) w) (
 PURE Try.prog (Instr.indexAt 22 l_1 i_3) fun v10 =>
 RUN Try.prog (Instr.loadAt 42 v10) w fun v11 w =>
 RUN Try.prog (convert 42 9 v11) w fun v12 w =>
 RUN Try.prog (Instr.buildSlice 24 1 #[(0, v12)]) w fun v13 w =>
 RUN Try.prog (Builtin.append_ #[24, 24] 24 #[out_2, v13]) w fun v14 w =>
 PURE Try.prog (BINS .add 3 (.tmp 10) (.const (.int .i64 1)) i_3 (.int .i64 1)) fun v15 =>
 next1 v14 v15 w)) (
 PURE Try.prog (Builtin.len_ #[22] 3 #[l_1]) fun v16 =>
 PURE Try.prog (BINS .leq 3 (.tmp 28) (.const (.int .i64 12)) v16 (.int .i64 12)) fun v17 =>
 R (.tuple #[out_2, v17]) w)) (.slice Option.none 0 0) (.int .i64 0) w
theorem by_seinelaw10_texts {l_1 : Value} {R : Value → World → Prop} {w : World} (h : sh_seinelaw10_texts l_1 NOPE R w) : RET Try.prog 10 [l_1] w R :=
  ⟨by kernel_rfl, calls_by [(3, [4, 5])] Try.func10 (by kernel_rfl) (by kernel_rfl) (by kernel_rfl) h⟩

def sh_dfa_New (l_1 : Value) (E : List PanicEntry → World → Prop) (R : Value → World → Prop) (w : World) : Prop :=
 CALL Try.prog 22 [l_1] w E fun v2 w =>
 CALL Try.prog 23 [v2] w E fun v3 w =>
 PURE Try.prog (BINS .gtr 3 (.tmp 9) (.const (.int .i64 160)) v3 (.int .i64 160)) fun v4 =>
 COND v4 (
 R (.tuple #[(.pointer Option.none), (.int .i64 14)]) w) (
 CALL Try.prog 40 [v2] w E fun v5 w =>
 CALL Try.prog 12 [l_1] w E fun v6 w =>
 PURE Try.prog (Instr.build 74 #[(0, v2), (1, v5), (2, v6)]) fun v7 =>
 RUN Try.prog (Instr.box 74 v7) w fun v8 w =>
 CALL Try.prog 41 [v8] w E fun v9 w =>
 R (.tuple #[v8, (.int .i64 0)]) w)
theorem by_dfa_New {l_1 : Value} {R : Value → World → Prop} {w : World} (h : sh_dfa_New l_1 NOPE R w) : RET Try.prog 11 [l_1] w R :=
  ⟨by kernel_rfl, calls_by [] Try.func11 (by kernel_rfl) (by kernel_rfl) (by kernel_rfl) h⟩

def sh_classes_Of (l_1 : Value) (E : List PanicEntry → World → Prop) (R : Value → World → Prop) (w : World) : Prop :=
 RUN Try.prog (Instr.alloc 33 true (.tuple #[])) w fun v2 w =>
 RUN Try.prog (Instr.alloc 77 true (.tuple #[])) w fun s_3 w =>
 PURE Try.prog (Builtin.len_ #[22] 3 #[l_1]) fun v4 =>
 LOOP1 (fun v5 w next1 =>
 PURE Try.prog (BINS .lss 3 (.tmp 11) (.tmp 10) v5 v4) fun v6 =>
 COND v6 (
 PURE Try.prog (Instr.indexAt 22 l_1 v5) fun v7 =>
 RUN Try.prog (Instr.loadAt 42 v7) w fun v8 w =>
 DRAW w fun S w =>
 READ Try.prog S (Instr.loadAt 77 s_3) w fun v9 =>
 CALL Try.prog 43 [v8] w E fun v10 w =>
 KEEPS S w fun S =>
 CALL Try.prog 42 [v9, v10] w E fun v11 w =>
 RUNU Try.prog (Instr.storeAt 77 s_3 v11) w fun w =>
 PURE Try.prog (BINS .add 3 (.tmp 11) (.const (.int .i64 1)) v5 (.int .i64 1)) fun v12 =>
 next1 v12 w) (
 RUN Try.prog (Instr.alloc 33 true (.tuple #[])) w fun c_13 w =>
 RUN Try.prog (Instr.loadAt 77 s_3) w fun v14 w =>
 CALL Try.prog 44 [v14] w E fun v15 w =>
 PURE Try.prog (Builtin.len_ #[42] 3 #[v15]) fun v16 =>
 LOOP1 (fun v17 w next2 =>
 PURE Try.prog (BINS .lss 3 (.tmp 23) (.tmp 22) v17 v16) fun v18 =>
 COND v18 (
 PURE Try.prog (Instr.indexAt 42 v15 v17) fun v19 =>
 RUN Try.prog (Instr.loadAt 5 v19) w fun v20 w =>
 PURE Try.prog (Instr.fieldAt 33 c_13 1) fun v21 =>
 RUN Try.prog (Instr.loadAt 3 v21) w fun v22 w =>
 PURE Try.prog (BINS .add 3 (.tmp 28) (.const (.int .i64 1)) v22 (.int .i64 1)) fun v23 =>
 PURE Try.prog (Instr.fieldAt 33 c_13 1) fun v24 =>
 RUNU Try.prog (Instr.storeAt 3 v24 v23) w fun w =>
 PURE Try.prog (Instr.fieldAt 33 c_13 1) fun v25 =>
 RUN Try.prog (Instr.loadAt 3 v25) w fun v26 w =>
 PURE Try.prog (Instr.fieldAt 33 c_13 0) fun v27 =>
 PURE Try.prog (Instr.indexAt 31 v27 v20) fun v28 =>
 RUNU Try.prog (Instr.storeAt 3 v28 v26) w fun w =>
 PURE Try.prog (BINS .add 3 (.tmp 23) (.const (.int .i64 1)) v17 (.int .i64 1)) fun v29 =>
 next2 v29 w) (
 RUN Try.prog (Instr.loadAt 33 c_13) w fun v30 w =>
 RUNU Try.prog (Instr.storeAt 33 v2 v30) w fun w =>
 LOADRES Try.prog 33 v2 w fun r => R r w)) (.int .i64 0) w)) (.int .i64 0) w
theorem by_classes_Of {l_1 : Value} {R : Value → World → Prop} {w : World} (h : sh_classes_Of l_1 NOPE R w) : RET Try.prog 12 [l_1] w R :=
  ⟨by kernel_rfl, calls_by [(3, [11]), (9, [23])] Try.func12 (by kernel_rfl) (by kernel_rfl) (by kernel_rfl) h⟩

def sh_dfa_DFA_Next (d_1 state_2 c_3 : Value) (E : List PanicEntry → World → Prop) (R : Value → World → Prop) (w : World) : Prop :=
 JOIN0 (fun J1 =>
 PURE Try.prog (BINS .lss 3 (.tmp 7) (.const (.int .i64 0)) state_2 (.int .i64 0)) fun v4 =>
 COND v4 (
 COND (.bool true) (
 R (.int .i64 (-1)) w) (
 J1 w)) (
 CALL Try.prog 14 [d_1] w E fun v5 w =>
 PURE Try.prog (BINS .geq 3 (.tmp 10) (.tmp 12) state_2 v5) fun v6 =>
 COND v6 (
 R (.int .i64 (-1)) w) (
 J1 w))) (fun w =>
 DRAW w fun S w =>
 PURE Try.prog (NILS d_1) fun v7 =>
 PURE Try.prog (Instr.fieldAt 74 v7 2) fun v8 =>
 READ Try.prog S (Instr.loadAt 33 v8) w fun v9 =>
 CALL Try.prog 45 [d_1, state_2] w E fun v10 w =>
 KEEPS S w fun S =>
 CALL Try.prog 15 [v9, c_3] w E fun v11 w =>
 KEEPS S w fun S =>
 PURE Try.prog (Instr.indexAt 72 v10 v11) fun v12 =>
 READ Try.prog S (Instr.loadAt 3 v12) w fun v13 =>
 R v13 w)
theorem by_dfa_DFA_Next {d_1 state_2 c_3 : Value} {R : Value → World → Prop} {w : World} (h : sh_dfa_DFA_Next d_1 state_2 c_3 NOPE R w) : RET Try.prog 13 [d_1, state_2, c_3] w R :=
  ⟨by kernel_rfl, calls_by [(11003, [])] Try.func13 (by kernel_rfl) (by kernel_rfl) (by kernel_rfl) h⟩

def sh_dfa_DFA_States (d_1 : Value) (E : List PanicEntry → World → Prop) (R : Value → World → Prop) (w : World) : Prop :=
 PURE Try.prog (BINS .eql 27 (.tmp 3) (.const (.pointer Option.none)) d_1 (.pointer Option.none)) fun v2 =>
 COND v2 (
 R (.int .i64 0) w) (
 PURE Try.prog (NILS d_1) fun v3 =>
 PURE Try.prog (Instr.fieldAt 74 v3 0) fun v4 =>
 RUN Try.prog (Instr.loadAt 45 v4) w fun v5 w =>
 CALL Try.prog 23 [v5] w E fun v6 w =>
 R v6 w)
theorem by_dfa_DFA_States {d_1 : Value} {R : Value → World → Prop} {w : World} (h : sh_dfa_DFA_States d_1 NOPE R w) : RET Try.prog 14 [d_1] w R :=
  ⟨by kernel_rfl, calls_by [] Try.func14 (by kernel_rfl) (by kernel_rfl) (by kernel_rfl) h⟩

def sh_classes_Classes_Class (c_1 b_2 : Value) (E : List PanicEntry → World → Prop) (R : Value → World → Prop) (w : World) : Prop :=
 RUN Try.prog (Instr.box 33 c_1) w fun c_3 w =>
 PURE Try.prog (Instr.fieldAt 33 c_3 0) fun v4 =>
 PURE Try.prog (Instr.indexAt 31 v4 b_2) fun v5 =>
 RUN Try.prog (Instr.loadAt 3 v5) w fun v6 w =>
 R v6 w
theorem by_classes_Classes_Class {c_1 b_2 : Value} {R : Value → World → Prop} {w : World} (h : sh_classes_Classes_Class c_1 b_2 NOPE R w) : RET Try.prog 15 [c_1, b_2] w R :=
  ⟨by kernel_rfl, calls_by [] Try.func15 (by kernel_rfl) (by kernel_rfl) (by kernel_rfl) h⟩

def sh_dfa_DFA_Width (d_1 : Value) (E : List PanicEntry → World → Prop) (R : Value → World → Prop) (w : World) : Prop :=
 PURE Try.prog (BINS .eql 27 (.tmp 3) (.const (.pointer Option.none)) d_1 (.pointer Option.none)) fun v2 =>
 COND v2 (
 R (.int .i64 0) w) (
 PURE Try.prog (NILS d_1) fun v3 =>
 PURE Try.prog (Instr.fieldAt 74 v3 2) fun v4 =>
 RUN Try.prog (Instr.loadAt 33 v4) w fun v5 w =>
 CALL Try.prog 17 [v5] w E fun v6 w =>
 R v6 w)
theorem by_dfa_DFA_Width {d_1 : Value} {R : Value → World → Prop} {w : World} (h : sh_dfa_DFA_Width d_1 NOPE R w) : RET Try.prog 16 [d_1] w R :=
  ⟨by kernel_rfl, calls_by [] Try.func16 (by kernel_rfl) (by kernel_rfl) (by kernel_rfl) h⟩

def sh_classes_Classes_Len (c_1 : Value) (E : List PanicEntry → World → Prop) (R : Value → World → Prop) (w : World) : Prop :=
 RUN Try.prog (Instr.box 33 c_1) w fun c_2 w =>
 PURE Try.prog (Instr.fieldAt 33 c_2 1) fun v3 =>
 RUN Try.prog (Instr.loadAt 3 v3) w fun v4 w =>
 PURE Try.prog (BINS .add 3 (.tmp 4) (.const (.int .i64 1)) v4 (.int .i64 1)) fun v5 =>
 R v5 w
theorem by_classes_Classes_Len {c_1 : Value} {R : Value → World → Prop} {w : World} (h : sh_classes_Classes_Len c_1 NOPE R w) : RET Try.prog 17 [c_1] w R :=
  ⟨by kernel_rfl, calls_by [] Try.func17 (by kernel_rfl) (by kernel_rfl) (by kernel_rfl) h⟩

def sh_seineref06_Paths (l_1 : Value) (E : List PanicEntry → World → Prop) (R : Value → World → Prop) (w : World) : Prop :=
 RUN Try.prog (Instr.buildSlice 24 1 #[(0, (.string { data := #[] }))]) w fun v2 w =>
 LOOP2 (fun out_3 i_4 w next1 =>
 PURE Try.prog (Builtin.len_ #[24] 3 #[l_1]) fun v5 =>
 PURE Try.prog (BINS .lss 3 (.tmp 7) (.tmp 9) i_4 v5) fun v6 =>
 COND v6 (
 LOOP2 (fun out_7 n_8 w next2 =>
 PURE Try.prog (Instr.indexAt 24 l_1 i_4) fun v9 =>
 RUN Try.prog (Instr.loadAt 9 v9) w fun v10 w =>
 PURE Try.prog (Builtin.len_ #[9] 3 #[v10]) fun v11 =>
 PURE Try.prog (BINS .leq 3 (.tmp 13) (.tmp 18) n_8 v11) fun v12 =>
 COND v12 (
 PURE Try.prog (Instr.indexAt 24 l_1 i_4) fun v13 =>
 RUN Try.prog (Instr.loadAt 9 v13) w fun v14 w =>
 PURE Try.prog (Instr.sliceAt 9 v14 none (some n_8) none) fun v15 =>
 CALL Try.prog 46 [out_7, v15] w E fun v16 w =>
 PURE Try.prog (BINS .lss 3 (.tmp 29) (.const (.int .i64 0)) v16 (.int .i64 0)) fun v17 =>
 COND v17 (
 PURE Try.prog (Instr.indexAt 24 l_1 i_4) fun v18 =>
 RUN Try.prog (Instr.loadAt 9 v18) w fun v19 w =>
 PURE Try.prog (Instr.sliceAt 9 v19 none (some n_8) none) fun v20 =>
 RUN Try.prog (Instr.buildSlice 24 1 #[(0, v20)]) w fun v21 w =>
 RUN Try.prog (Builtin.append_ #[24, 24] 24 #[out_7, v21]) w fun v22 w =>
 PURE Try.prog (BINS .add 3 (.tmp 20) (.const (.int .i64 1)) n_8 (.int .i64 1)) fun v23 =>
 next2 v22 v23 w) (
 PURE Try.prog (BINS .add 3 (.tmp 20) (.const (.int .i64 1)) n_8 (.int .i64 1)) fun v24 =>
 next2 out_7 v24 w)) (
 PURE Try.prog (BINS .add 3 (.tmp 11) (.const (.int .i64 1)) i_4 (.int .i64 1)) fun v25 =>
 next1 out_7 v25 w)) out_3 (.int .i64 1) w) (
 R out_3 w)) v2 (.int .i64 0) w
theorem by_seineref06_Paths {l_1 : Value} {R : Value → World → Prop} {w : World} (h : sh_seineref06_Paths l_1 NOPE R w) : RET Try.prog 18 [l_1] w R :=
  ⟨by kernel_rfl, calls_by [(3, [3, 4]), (6, [3, 5])] Try.func18 (by kernel_rfl) (by kernel_rfl) (by kernel_rfl) h⟩

def sh_seineref09_Len (l_1 : Value) (E : List PanicEntry → World → Prop) (R : Value → World → Prop) (w : World) : Prop :=
 CALL Try.prog 48 [l_1] w E fun v2 w =>
 CALL Try.prog 47 [v2] w E fun v3 w =>
 PURE Try.prog (Builtin.len_ #[9] 3 #[v3]) fun v4 =>
 PURE Try.prog (BINS .add 3 (.const (.int .i64 1)) (.tmp 6) (.int .i64 1) v4) fun v5 =>
 R v5 w
theorem by_seineref09_Len {l_1 : Value} {R : Value → World → Prop} {w : World} (h : sh_seineref09_Len l_1 NOPE R w) : RET Try.prog 19 [l_1] w R :=
  ⟨by kernel_rfl, calls_by [] Try.func19 (by kernel_rfl) (by kernel_rfl) (by kernel_rfl) h⟩

def sh_seineref10_Next (paths_1 state_2 c_3 : Value) (E : List PanicEntry → World → Prop) (R : Value → World → Prop) (w : World) : Prop :=
 JOIN0 (fun J1 =>
 PURE Try.prog (BINS .lss 3 (.tmp 7) (.const (.int .i64 0)) state_2 (.int .i64 0)) fun v4 =>
 COND v4 (
 COND (.bool true) (
 R (.int .i64 (-1)) w) (
 J1 w)) (
 PURE Try.prog (Builtin.len_ #[24] 3 #[paths_1]) fun v5 =>
 PURE Try.prog (BINS .geq 3 (.tmp 10) (.tmp 12) state_2 v5) fun v6 =>
 COND v6 (
 R (.int .i64 (-1)) w) (
 J1 w))) (fun w =>
 DRAW w fun S w =>
 PURE Try.prog (Instr.indexAt 24 paths_1 state_2) fun v7 =>
 READ Try.prog S (Instr.loadAt 9 v7) w fun v8 =>
 RUN Try.prog (Instr.buildSlice 42 1 #[(0, c_3)]) w fun v9 w =>
 KEEPS S w fun S =>
 READ Try.prog S (convert 42 9 v9) w fun v10 =>
 PURE Try.prog (BINS .add 9 (.tmp 20) (.tmp 23) v8 v10) fun v11 =>
 CALL Try.prog 49 [paths_1, v11] w E fun v12 w =>
 CALL Try.prog 46 [paths_1, v12] w E fun v13 w =>
 R v13 w)
theorem by_seineref10_Next {paths_1 state_2 c_3 : Value} {R : Value → World → Prop} {w : World} (h : sh_seineref10_Next paths_1 state_2 c_3 NOPE R w) : RET Try.prog 20 [paths_1, state_2, c_3] w R :=
  ⟨by kernel_rfl, calls_by [(11003, [])] Try.func20 (by kernel_rfl) (by kernel_rfl) (by kernel_rfl) h⟩

def sh_dfa_DFA_Path (d_1 state_2 : Value) (E : List PanicEntry → World → Prop) (R : Value → World → Prop) (w : World) : Prop :=
 PURE Try.prog (BINS .eql 27 (.tmp 5) (.const (.pointer Option.none)) d_1 (.pointer Option.none)) fun v3 =>
 COND v3 (
 R (.slice Option.none 0 0) w) (
 PURE Try.prog (NILS d_1) fun v4 =>
 PURE Try.prog (Instr.fieldAt 74 v4 0) fun v5 =>
 RUN Try.prog (Instr.loadAt 45 v5) w fun v6 w =>
 CALL Try.prog 50 [v6, state_2] w E fun v7 w =>
 R v7 w)
theorem by_dfa_DFA_Path {d_1 state_2 : Value} {R : Value → World → Prop} {w : World} (h : sh_dfa_DFA_Path d_1 state_2 NOPE R w) : RET Try.prog 21 [d_1, state_2] w R :=
  ⟨by kernel_rfl, calls_by [] Try.func21 (by kernel_rfl) (by kernel_rfl) (by kernel_rfl) h⟩

def sh_trie_Build (l_1 : Value) (E : List PanicEntry → World → Prop) (R : Value → World → Prop) (w : World) : Prop :=
 PURE Try.prog (Instr.build 87 #[(0, (.int .i64 (-1))), (2, (.int .i64 (-1)))]) fun v2 =>
 RUN Try.prog (Instr.buildSlice 88 1 #[(0, v2)]) w fun v3 w =>
 RUN Try.prog (Instr.makeMap 89 none) w fun v4 w =>
 PURE Try.prog (Instr.build 91 #[(0, v3), (1, v4)]) fun v5 =>
 RUN Try.prog (Instr.box 91 v5) w fun v6 w =>
 PURE Try.prog (Builtin.len_ #[22] 3 #[l_1]) fun v7 =>
 LOOP1 (fun v8 w next1 =>
 PURE Try.prog (BINS .lss 3 (.tmp 16) (.tmp 15) v8 v7) fun v9 =>
 COND v9 (
 PURE Try.prog (Instr.indexAt 22 l_1 v8) fun v10 =>
 RUN Try.prog (Instr.loadAt 42 v10) w fun v11 w =>
 PURE Try.prog (Builtin.len_ #[42] 3 #[v11]) fun v12 =>
 LOOP2 (fun at_13 v14 w next2 =>
 PURE Try.prog (BINS .lss 3 (.tmp 23) (.tmp 22) v14 v12) fun v15 =>
 COND v15 (
 PURE Try.prog (Instr.indexAt 42 v11 v14) fun v16 =>
 RUN Try.prog (Instr.loadAt 5 v16) w fun v17 w =>
 CALL Try.prog 51 [v6, at_13, v17] w E fun v18 w =>
 PURE Try.prog (BINS .add 3 (.tmp 23) (.const (.int .i64 1)) v14 (.int .i64 1)) fun v19 =>
 next2 v18 v19 w) (
 PURE Try.prog (NILS v6) fun v20 =>
 PURE Try.prog (Instr.fieldAt 91 v20 0) fun v21 =>
 RUN Try.prog (Instr.loadAt 88 v21) w fun v22 w =>
 PURE Try.prog (Instr.indexAt 88 v22 at_13) fun v23 =>
 PURE Try.prog (Instr.fieldAt 87 v23 2) fun v24 =>
 RUN Try.prog (Instr.loadAt 3 v24) w fun v25 w =>
 PURE Try.prog (BINS .lss 3 (.tmp 39) (.const (.int .i64 0)) v25 (.int .i64 0)) fun v26 =>
 COND v26 (
 PURE Try.prog (NILS v6) fun v27 =>
 PURE Try.prog (Instr.fieldAt 91 v27 0) fun v28 =>
 RUN Try.prog (Instr.loadAt 88 v28) w fun v29 w =>
 PURE Try.prog (Instr.indexAt 88 v29 at_13) fun v30 =>
 PURE Try.prog (Instr.fieldAt 87 v30 2) fun v31 =>
 RUNU Try.prog (Instr.storeAt 3 v31 v8) w fun w =>
 PURE Try.prog (BINS .add 3 (.tmp 16) (.const (.int .i64 1)) v8 (.int .i64 1)) fun v32 =>
 next1 v32 w) (
 PURE Try.prog (BINS .add 3 (.tmp 16) (.const (.int .i64 1)) v8 (.int .i64 1)) fun v33 =>
 next1 v33 w))) (.int .i64 0) (.int .i64 0) w) (
 R v6 w)) (.int .i64 0) w
theorem by_trie_Build {l_1 : Value} {R : Value → World → Prop} {w : World} (h : sh_trie_Build l_1 NOPE R w) : RET Try.prog 22 [l_1] w R :=
  ⟨by kernel_rfl, calls_by [(3, [16]), (7, [6, 23])] Try.func22 (by kernel_rfl) (by kernel_rfl) (by kernel_rfl) h⟩

def sh_trie_Trie_Nodes (t_1 : Value) (E : List PanicEntry → World → Prop) (R : Value → World → Prop) (w : World) : Prop :=
 PURE Try.prog (BINS .eql 45 (.tmp 3) (.const (.pointer Option.none)) t_1 (.pointer Option.none)) fun v2 =>
 COND v2 (
 R (.int .i64 0) w) (
 PURE Try.prog (NILS t_1) fun v3 =>
 PURE Try.prog (Instr.fieldAt 91 v3 0) fun v4 =>
 RUN Try.prog (Instr.loadAt 88 v4) w fun v5 w =>
 PURE Try.prog (Builtin.len_ #[88] 3 #[v5]) fun v6 =>
 R v6 w)
theorem by_trie_Trie_Nodes {t_1 : Value} {R : Value → World → Prop} {w : World} (h : sh_trie_Trie_Nodes t_1 NOPE R w) : RET Try.prog 23 [t_1] w R :=
  ⟨by kernel_rfl, calls_by [] Try.func23 (by kernel_rfl) (by kernel_rfl) (by kernel_rfl) h⟩

def sh_meter_New (E : List PanicEntry → World → Prop) (R : Value → World → Prop) (w : World) : Prop :=
 PURE Try.prog (Instr.build 93 #[]) fun v1 =>
 RUN Try.prog (Instr.box 93 v1) w fun v2 w =>
 R v2 w
theorem by_meter_New {R : Value → World → Prop} {w : World} (h : sh_meter_New NOPE R w) : RET Try.prog 24 [] w R :=
  ⟨by kernel_rfl, calls_by [] Try.func24 (by kernel_rfl) (by kernel_rfl) (by kernel_rfl) h⟩

def sh_dfa_DFA_Scan (d_1 m_2 line_3 : Value) (E : List PanicEntry → World → Prop) (R : Value → World → Prop) (w : World) : Prop :=
 PURE Try.prog (BINS .eql 27 (.tmp 14) (.const (.pointer Option.none)) d_1 (.pointer Option.none)) fun v4 =>
 COND v4 (
 R (.slice Option.none 0 0) w) (
 DRAW w fun S w =>
 PURE Try.prog (NILS d_1) fun v5 =>
 PURE Try.prog (Instr.fieldAt 74 v5 2) fun v6 =>
 READ Try.prog S (Instr.loadAt 33 v6) w fun v7 =>
 PURE Try.prog (NILS d_1) fun v8 =>
 PURE Try.prog (Instr.fieldAt 74 v8 2) fun v9 =>
 READ Try.prog S (Instr.loadAt 33 v9) w fun v10 =>
 PURE Try.prog (NILS d_1) fun v11 =>
 PURE Try.prog (Instr.fieldAt 74 v11 3) fun v12 =>
 READ Try.prog S (Instr.loadAt 72 v12) w fun v13 =>
 CALL Try.prog 52 [m_2, line_3] w E fun v14 w =>
 KEEPS S w fun S =>
 CALL Try.prog 54 [v7] w E fun v15 w =>
 KEEPS S w fun S =>
 CALL Try.prog 17 [v10] w E fun v16 w =>
 KEEPS S w fun S =>
 CALL Try.prog 53 [m_2, v15, v16, v13] w E fun v17 w =>
 CALL Try.prog 55 [v14] w E fun v18 w =>
 LOOP3 (fun out_19 at_20 v21 w next1 =>
 PURE Try.prog (BINS .lss 3 (.tmp 37) (.tmp 36) v21 v18) fun v22 =>
 COND v22 (
 CALL Try.prog 57 [v14, v21] w E fun v23 w =>
 PURE Try.prog (convert 3 5 v23) fun v24 =>
 CALL Try.prog 56 [v17, at_20, v24] w E fun v25 w =>
 PURE Try.prog (NILS d_1) fun v26 =>
 PURE Try.prog (Instr.fieldAt 74 v26 1) fun v27 =>
 RUN Try.prog (Instr.loadAt 70 v27) w fun v28 w =>
 CALL Try.prog 58 [v28, v25] w E fun v29 w =>
 PURE Try.prog (Builtin.len_ #[72] 3 #[v29]) fun v30 =>
 LOOP2 (fun out_31 v32 w next2 =>
 PURE Try.prog (BINS .lss 3 (.tmp 54) (.tmp 53) v32 v30) fun v33 =>
 COND v33 (
 PURE Try.prog (Instr.indexAt 72 v29 v32) fun v34 =>
 RUN Try.prog (Instr.loadAt 3 v34) w fun v35 w =>
 PURE Try.prog (BINS .add 3 (.tmp 59) (.const (.int .i64 1)) v21 (.int .i64 1)) fun v36 =>
 PURE Try.prog (BINS .sub 3 (.tmp 60) (.tmp 61) v36 v35) fun v37 =>
 PURE Try.prog (BINS .add 3 (.tmp 63) (.const (.int .i64 1)) v21 (.int .i64 1)) fun v38 =>
 PURE Try.prog (Instr.build 69 #[(0, v37), (1, v38)]) fun v39 =>
 RUN Try.prog (Instr.buildSlice 49 1 #[(0, v39)]) w fun v40 w =>
 RUN Try.prog (Builtin.append_ #[49, 49] 49 #[out_31, v40]) w fun v41 w =>
 PURE Try.prog (BINS .add 3 (.tmp 54) (.const (.int .i64 1)) v32 (.int .i64 1)) fun v42 =>
 next2 v41 v42 w) (
 PURE Try.prog (BINS .add 3 (.tmp 37) (.const (.int .i64 1)) v21 (.int .i64 1)) fun v43 =>
 next1 out_31 v25 v43 w)) out_19 (.int .i64 0) w) (
 CALL Try.prog 59 [out_19] w E fun v44 w =>
 R v44 w)) (.slice Option.none 0 0) (.int .i64 0) (.int .i64 0) w)
theorem by_dfa_DFA_Scan {d_1 m_2 line_3 : Value} {R : Value → World → Prop} {w : World} (h : sh_dfa_DFA_Scan d_1 m_2 line_3 NOPE R w) : RET Try.prog 25 [d_1, m_2, line_3] w R :=
  ⟨by kernel_rfl, calls_by [(7, [9, 10, 37]), (11, [9, 54])] Try.func25 (by kernel_rfl) (by kernel_rfl) (by kernel_rfl) h⟩

def sh_meter_Meter_Counts (m_1 : Value) (E : List PanicEntry → World → Prop) (R : Value → World → Prop) (w : World) : Prop :=
 RUN Try.prog (Instr.alloc 52 true (.tuple #[])) w fun v2 w =>
 PURE Try.prog (BINS .eql 47 (.tmp 3) (.const (.pointer Option.none)) m_1 (.pointer Option.none)) fun v3 =>
 COND v3 (
 PURE Try.prog (Instr.build 52 #[]) fun v4 =>
 RUNU Try.prog (Instr.storeAt 52 v2 v4) w fun w =>
 LOADRES Try.prog 52 v2 w fun r => R r w) (
 PURE Try.prog (NILS m_1) fun v5 =>
 PURE Try.prog (Instr.fieldAt 93 v5 0) fun v6 =>
 RUN Try.prog (Instr.loadAt 52 v6) w fun v7 w =>
 RUNU Try.prog (Instr.storeAt 52 v2 v7) w fun w =>
 LOADRES Try.prog 52 v2 w fun r => R r w)
theorem by_meter_Meter_Counts {m_1 : Value} {R : Value → World → Prop} {w : World} (h : sh_meter_Meter_Counts m_1 NOPE R w) : RET Try.prog 26 [m_1] w R :=
  ⟨by kernel_rfl, calls_by [] Try.func26 (by kernel_rfl) (by kernel_rfl) (by kernel_rfl) h⟩

def sh_seinelaw13_awake (E : List PanicEntry → World → Prop) (R : Value → World → Prop) (w : World) : Prop :=
 RUN Try.prog (Instr.buildSlice 42 2 #[(0, (.int .u8 97)), (1, (.int .u8 97))]) w fun v1 w =>
 RUN Try.prog (convert 42 42 v1) w fun v2 w =>
 CALL Try.prog 29 [v2] w E fun v3 w =>
 PURE Try.prog (Instr.extract v3 0) fun v4 =>
 PURE Try.prog (Instr.extract v3 1) fun v5 =>
 CALL Try.prog 29 [(.slice Option.none 0 0)] w E fun v6 w =>
 PURE Try.prog (Instr.extract v6 0) fun v7 =>
 PURE Try.prog (Instr.extract v6 1) fun v8 =>
 RUN Try.prog (Instr.buildSlice 42 3 #[(0, (.int .u8 97)), (1, (.int .u8 97)), (2, (.int .u8 97))]) w fun v9 w =>
 RUN Try.prog (convert 42 42 v9) w fun v10 w =>
 CALL Try.prog 31 [v4, v10] w E fun v11 w =>
 PURE Try.prog (BINS .eql 28 (.tmp 20) (.const (.int .i64 0)) v5 (.int .i64 0)) fun v12 =>
 COND v12 (
 PURE Try.prog (BINS .eql 28 (.tmp 23) (.const (.int .i64 1)) v8 (.int .i64 1)) fun v13 =>
 COND v13 (
 PURE Try.prog (Builtin.len_ #[49] 3 #[v11]) fun v14 =>
 PURE Try.prog (BINS .eql 3 (.tmp 28) (.const (.int .i64 2)) v14 (.int .i64 2)) fun v15 =>
 COND v15 (
 PURE Try.prog (Instr.indexAt 49 v11 (.int .i64 1)) fun v16 =>
 PURE Try.prog (Instr.fieldAt 69 v16 0) fun v17 =>
 RUN Try.prog (Instr.loadAt 3 v17) w fun v18 w =>
 PURE Try.prog (BINS .eql 3 (.tmp 35) (.const (.int .i64 1)) v18 (.int .i64 1)) fun v19 =>
 COND v19 (
 PURE Try.prog (Instr.indexAt 49 v11 (.int .i64 1)) fun v20 =>
 PURE Try.prog (Instr.fieldAt 69 v20 1) fun v21 =>
 RUN Try.prog (Instr.loadAt 3 v21) w fun v22 w =>
 PURE Try.prog (BINS .eql 3 (.tmp 42) (.const (.int .i64 3)) v22 (.int .i64 3)) fun v23 =>
 COND v23 (
 RUN Try.prog (Instr.buildSlice 42 3 #[(0, (.int .u8 97)), (1, (.int .u8 97)), (2, (.int .u8 97))]) w fun v24 w =>
 RUN Try.prog (convert 42 42 v24) w fun v25 w =>
 CALL Try.prog 60 [v4, v25, (.int .i64 1)] w E fun v26 w =>
 PURE Try.prog (BINS .eql 3 (.tmp 49) (.const (.int .i64 1)) v26 (.int .i64 1)) fun v27 =>
 COND v27 (
 RUN Try.prog (Instr.buildSlice 42 3 #[(0, (.int .u8 97)), (1, (.int .u8 97)), (2, (.int .u8 97))]) w fun v28 w =>
 RUN Try.prog (convert 42 42 v28) w fun v29 w =>
 CALL Try.prog 60 [v4, v29, (.int .i64 2)] w E fun v30 w =>
 PURE Try.prog (BINS .eql 3 (.tmp 56) (.const (.int .i64 (-1))) v30 (.int .i64 (-1))) fun v31 =>
 R v31 w) (
 R (.bool false) w)) (
 R (.bool false) w)) (
 R (.bool false) w)) (
 R (.bool false) w)) (
 R (.bool false) w)) (
 R (.bool false) w)
theorem by_seinelaw13_awake {R : Value → World → Prop} {w : World} (h : sh_seinelaw13_awake NOPE R w) : RET Try.prog 27 [] w R :=
  ⟨by kernel_rfl, calls_by [] Try.func27 (by kernel_rfl) (by kernel_rfl) (by kernel_rfl) h⟩

def sh_seinelaw13_few (b_1 line_2 : Value) (E : List PanicEntry → World → Prop) (R : Value → World → Prop) (w : World) : Prop :=
 PURE Try.prog (Builtin.len_ #[42] 3 #[b_1]) fun v3 =>
 PURE Try.prog (BINS .leq 3 (.tmp 6) (.const (.int .i64 100)) v3 (.int .i64 100)) fun v4 =>
 COND v4 (
 PURE Try.prog (Builtin.len_ #[42] 3 #[line_2]) fun v5 =>
 PURE Try.prog (BINS .leq 3 (.tmp 10) (.const (.int .i64 300)) v5 (.int .i64 300)) fun v6 =>
 R v6 w) (
 R (.bool false) w)
theorem by_seinelaw13_few {b_1 line_2 : Value} {R : Value → World → Prop} {w : World} (h : sh_seinelaw13_few b_1 line_2 NOPE R w) : RET Try.prog 28 [b_1, line_2] w R :=
  ⟨by kernel_rfl, calls_by [] Try.func28 (by kernel_rfl) (by kernel_rfl) (by kernel_rfl) h⟩

def sh_twoway_New (b_1 : Value) (E : List PanicEntry → World → Prop) (R : Value → World → Prop) (w : World) : Prop :=
 PURE Try.prog (Builtin.len_ #[42] 3 #[b_1]) fun v2 =>
 PURE Try.prog (BINS .eql 3 (.tmp 6) (.const (.int .i64 0)) v2 (.int .i64 0)) fun v3 =>
 COND v3 (
 R (.tuple #[(.pointer Option.none), (.int .i64 1)]) w) (
 CALL Try.prog 61 [b_1] w E fun v4 w =>
 CALL Try.prog 62 [b_1] w E fun v5 w =>
 PURE Try.prog (Instr.build 108 #[(0, v4), (1, v5), (2, (.func (.func 63) #[] #[]))]) fun v6 =>
 RUN Try.prog (Instr.box 108 v6) w fun v7 w =>
 PURE Try.prog (NILS v7) fun v8 =>
 PURE Try.prog (Instr.fieldAt 108 v8 1) fun v9 =>
 PURE Try.prog (Instr.fieldAt 104 v9 2) fun v10 =>
 RUN Try.prog (Instr.loadAt 4 v10) w fun v11 w =>
 COND v11 (
 PURE Try.prog (NILS v7) fun v12 =>
 PURE Try.prog (Instr.fieldAt 108 v12 2) fun v13 =>
 RUNU Try.prog (Instr.storeAt 106 v13 (.func (.func 64) #[] #[])) w fun w =>
 R (.tuple #[v7, (.int .i64 0)]) w) (
 R (.tuple #[v7, (.int .i64 0)]) w))
theorem by_twoway_New {b_1 : Value} {R : Value → World → Prop} {w : World} (h : sh_twoway_New b_1 NOPE R w) : RET Try.prog 29 [b_1] w R :=
  ⟨by kernel_rfl, calls_by [] Try.func29 (by kernel_rfl) (by kernel_rfl) (by kernel_rfl) h⟩

def sh_seineref03_Same (a_1 b_2 : Value) (E : List PanicEntry → World → Prop) (R : Value → World → Prop) (w : World) : Prop :=
 PURE Try.prog (Builtin.len_ #[49] 3 #[a_1]) fun v3 =>
 PURE Try.prog (Builtin.len_ #[49] 3 #[b_2]) fun v4 =>
 PURE Try.prog (BINS .neq 3 (.tmp 7) (.tmp 9) v3 v4) fun v5 =>
 COND v5 (
 R (.bool false) w) (
 LOOP1 (fun i_6 w next1 =>
 PURE Try.prog (Builtin.len_ #[49] 3 #[a_1]) fun v7 =>
 PURE Try.prog (BINS .lss 3 (.tmp 11) (.tmp 13) i_6 v7) fun v8 =>
 COND v8 (
 DRAWQ w fun S w =>
 PURE Try.prog (Instr.indexAt 49 a_1 i_6) fun v9 =>
 READ Try.prog S (Instr.loadAt 69 v9) w fun v10 =>
 PURE Try.prog (Instr.indexAt 49 b_2 i_6) fun v11 =>
 READ Try.prog S (Instr.loadAt 69 v11) w fun v12 =>
 PURE Try.prog (BINS .neq 69 (.tmp 20) (.tmp 24) v10 v12) fun v13 =>
 COND v13 (
 R (.bool false) w) (
 PURE Try.prog (BINS .add 3 (.tmp 15) (.const (.int .i64 1)) i_6 (.int .i64 1)) fun v14 =>
 next1 v14 w)) (
 R (.bool true) w)) (.int .i64 0) w)
theorem by_seineref03_Same {a_1 b_2 : Value} {R : Value → World → Prop} {w : World} (h : sh_seineref03_Same a_1 b_2 NOPE R w) : RET Try.prog 30 [a_1, b_2] w R :=
  ⟨by kernel_rfl, calls_by [(4, [5])] Try.func30 (by kernel_rfl) (by kernel_rfl) (by kernel_rfl) h⟩

def sh_twoway_Two_Scan (t_1 line_2 : Value) (E : List PanicEntry → World → Prop) (R : Value → World → Prop) (w : World) : Prop :=
 CALL Try.prog 60 [t_1, line_2, (.int .i64 0)] w E fun v3 w =>
 LOOP2 (fun out_4 at_5 w next1 =>
 PURE Try.prog (BINS .geq 3 (.tmp 10) (.const (.int .i64 0)) at_5 (.int .i64 0)) fun v6 =>
 COND v6 (
 PURE Try.prog (NILS t_1) fun v7 =>
 PURE Try.prog (Instr.fieldAt 108 v7 0) fun v8 =>
 RUN Try.prog (Instr.loadAt 42 v8) w fun v9 w =>
 PURE Try.prog (Builtin.len_ #[42] 3 #[v9]) fun v10 =>
 PURE Try.prog (BINS .add 3 (.tmp 19) (.tmp 24) at_5 v10) fun v11 =>
 PURE Try.prog (Instr.build 69 #[(0, at_5), (1, v11)]) fun v12 =>
 RUN Try.prog (Instr.buildSlice 49 1 #[(0, v12)]) w fun v13 w =>
 RUN Try.prog (Builtin.append_ #[49, 49] 49 #[out_4, v13]) w fun v14 w =>
 PURE Try.prog (BINS .add 3 (.tmp 14) (.const (.int .i64 1)) at_5 (.int .i64 1)) fun v15 =>
 CALL Try.prog 60 [t_1, line_2, v15] w E fun v16 w =>
 next1 v14 v16 w) (
 R out_4 w)) (.slice Option.none 0 0) v3 w
theorem by_twoway_Two_Scan {t_1 line_2 : Value} {R : Value → World → Prop} {w : World} (h : sh_twoway_Two_Scan t_1 line_2 NOPE R w) : RET Try.prog 31 [t_1, line_2] w R :=
  ⟨by kernel_rfl, calls_by [(3, [5, 6])] Try.func31 (by kernel_rfl) (by kernel_rfl) (by kernel_rfl) h⟩

def sh_sparse_New (l_1 : Value) (E : List PanicEntry → World → Prop) (R : Value → World → Prop) (w : World) : Prop :=
 CALL Try.prog 22 [l_1] w E fun v2 w =>
 CALL Try.prog 40 [v2] w E fun v3 w =>
 PURE Try.prog (Instr.build 111 #[(0, v2), (1, v3)]) fun v4 =>
 RUN Try.prog (Instr.box 111 v4) w fun v5 w =>
 LOOP1 (fun n_6 w next1 =>
 CALL Try.prog 23 [v2] w E fun v7 w =>
 PURE Try.prog (BINS .lss 3 (.tmp 14) (.tmp 16) n_6 v7) fun v8 =>
 COND v8 (
 CALL Try.prog 50 [v2, n_6] w E fun v9 w =>
 DRAW w fun S w =>
 PURE Try.prog (NILS v5) fun v10 =>
 PURE Try.prog (Instr.fieldAt 111 v10 2) fun v11 =>
 READ Try.prog S (Instr.loadAt 109 v11) w fun v12 =>
 PURE Try.prog (Builtin.len_ #[42] 3 #[v9]) fun v13 =>
 PURE Try.prog (BINS .sub 3 (.tmp 33) (.const (.int .i64 1)) v13 (.int .i64 1)) fun v14 =>
 PURE Try.prog (Instr.indexAt 42 v9 v14) fun v15 =>
 READ Try.prog S (Instr.loadAt 5 v15) w fun v16 =>
 CALL Try.prog 65 [v2, n_6] w E fun v17 w =>
 KEEPS S w fun S =>
 PURE Try.prog (Instr.build 113 #[(0, v17), (1, v16), (2, n_6)]) fun v18 =>
 RUN Try.prog (Instr.buildSlice 109 1 #[(0, v18)]) w fun v19 w =>
 KEEPS S w fun S =>
 RUN Try.prog (Builtin.append_ #[109, 109] 109 #[v12, v19]) w fun v20 w =>
 PURE Try.prog (NILS v5) fun v21 =>
 PURE Try.prog (Instr.fieldAt 111 v21 2) fun v22 =>
 RUNU Try.prog (Instr.storeAt 109 v22 v20) w fun w =>
 PURE Try.prog (BINS .add 3 (.tmp 18) (.const (.int .i64 1)) n_6 (.int .i64 1)) fun v23 =>
 next1 v23 w) (
 R v5 w)) (.int .i64 1) w
theorem by_sparse_New {l_1 : Value} {R : Value → World → Prop} {w : World} (h : sh_sparse_New l_1 NOPE R w) : RET Try.prog 32 [l_1] w R :=
  ⟨by kernel_rfl, calls_by [(4, [5])] Try.func32 (by kernel_rfl) (by kernel_rfl) (by kernel_rfl) h⟩

def sh_sparse_Automaton_Scan (a_1 m_2 line_3 : Value) (E : List PanicEntry → World → Prop) (R : Value → World → Prop) (w : World) : Prop :=
 PURE Try.prog (BINS .eql 61 (.tmp 14) (.const (.pointer Option.none)) a_1 (.pointer Option.none)) fun v4 =>
 COND v4 (
 R (.slice Option.none 0 0) w) (
 DRAW w fun S w =>
 PURE Try.prog (NILS a_1) fun v5 =>
 PURE Try.prog (Instr.fieldAt 111 v5 2) fun v6 =>
 READ Try.prog S (Instr.loadAt 109 v6) w fun v7 =>
 CALL Try.prog 52 [m_2, line_3] w E fun v8 w =>
 KEEPS S w fun S =>
 CALL Try.prog 66 [m_2, v7] w E fun v9 w =>
 CALL Try.prog 55 [v8] w E fun v10 w =>
 LOOP3 (fun out_11 at_12 v13 w next1 =>
 PURE Try.prog (BINS .lss 3 (.tmp 27) (.tmp 26) v13 v10) fun v14 =>
 COND v14 (
 CALL Try.prog 57 [v8, v13] w E fun v15 w =>
 PURE Try.prog (convert 3 5 v15) fun v16 =>
 CALL Try.prog 67 [a_1, v9, at_12, v16] w E fun v17 w =>
 PURE Try.prog (NILS a_1) fun v18 =>
 PURE Try.prog (Instr.fieldAt 111 v18 1) fun v19 =>
 RUN Try.prog (Instr.loadAt 70 v19) w fun v20 w =>
 CALL Try.prog 58 [v20, v17] w E fun v21 w =>
 PURE Try.prog (Builtin.len_ #[72] 3 #[v21]) fun v22 =>
 LOOP2 (fun out_23 v24 w next2 =>
 PURE Try.prog (BINS .lss 3 (.tmp 45) (.tmp 44) v24 v22) fun v25 =>
 COND v25 (
 PURE Try.prog (Instr.indexAt 72 v21 v24) fun v26 =>
 RUN Try.prog (Instr.loadAt 3 v26) w fun v27 w =>
 PURE Try.prog (BINS .add 3 (.tmp 50) (.const (.int .i64 1)) v13 (.int .i64 1)) fun v28 =>
 PURE Try.prog (BINS .sub 3 (.tmp 51) (.tmp 52) v28 v27) fun v29 =>
 PURE Try.prog (BINS .add 3 (.tmp 54) (.const (.int .i64 1)) v13 (.int .i64 1)) fun v30 =>
 PURE Try.prog (Instr.build 69 #[(0, v29), (1, v30)]) fun v31 =>
 RUN Try.prog (Instr.buildSlice 49 1 #[(0, v31)]) w fun v32 w =>
 RUN Try.prog (Builtin.append_ #[49, 49] 49 #[out_23, v32]) w fun v33 w =>
 PURE Try.prog (BINS .add 3 (.tmp 45) (.const (.int .i64 1)) v24 (.int .i64 1)) fun v34 =>
 next2 v33 v34 w) (
 PURE Try.prog (BINS .add 3 (.tmp 27) (.const (.int .i64 1)) v13 (.int .i64 1)) fun v35 =>
 next1 out_23 v17 v35 w)) out_11 (.int .i64 0) w) (
 CALL Try.prog 59 [out_11] w E fun v36 w =>
 R v36 w)) (.slice Option.none 0 0) (.int .i64 0) (.int .i64 0) w)
theorem by_sparse_Automaton_Scan {a_1 m_2 line_3 : Value} {R : Value → World → Prop} {w : World} (h : sh_sparse_Automaton_Scan a_1 m_2 line_3 NOPE R w) : RET Try.prog 33 [a_1, m_2, line_3] w R :=
  ⟨by kernel_rfl, calls_by [(7, [9, 10, 27]), (11, [9, 45])] Try.func33 (by kernel_rfl) (by kernel_rfl) (by kernel_rfl) h⟩

def sh_sparse_Automaton_States (a_1 : Value) (E : List PanicEntry → World → Prop) (R : Value → World → Prop) (w : World) : Prop :=
 PURE Try.prog (BINS .eql 61 (.tmp 3) (.const (.pointer Option.none)) a_1 (.pointer Option.none)) fun v2 =>
 COND v2 (
 R (.int .i64 0) w) (
 PURE Try.prog (NILS a_1) fun v3 =>
 PURE Try.prog (Instr.fieldAt 111 v3 0) fun v4 =>
 RUN Try.prog (Instr.loadAt 45 v4) w fun v5 w =>
 CALL Try.prog 23 [v5] w E fun v6 w =>
 R v6 w)
theorem by_sparse_Automaton_States {a_1 : Value} {R : Value → World → Prop} {w : World} (h : sh_sparse_Automaton_States a_1 NOPE R w) : RET Try.prog 34 [a_1] w R :=
  ⟨by kernel_rfl, calls_by [] Try.func34 (by kernel_rfl) (by kernel_rfl) (by kernel_rfl) h⟩

def sh_sparse_Automaton_Step (a_1 m_2 state_3 c_4 : Value) (E : List PanicEntry → World → Prop) (R : Value → World → Prop) (w : World) : Prop :=
 JOIN0 (fun J1 =>
 PURE Try.prog (BINS .lss 3 (.tmp 9) (.const (.int .i64 0)) state_3 (.int .i64 0)) fun v5 =>
 COND v5 (
 COND (.bool true) (
 R (.int .i64 (-1)) w) (
 J1 w)) (
 CALL Try.prog 34 [a_1] w E fun v6 w =>
 PURE Try.prog (BINS .geq 3 (.tmp 12) (.tmp 14) state_3 v6) fun v7 =>
 COND v7 (
 R (.int .i64 (-1)) w) (
 J1 w))) (fun w =>
 PURE Try.prog (NILS a_1) fun v8 =>
 PURE Try.prog (Instr.fieldAt 111 v8 2) fun v9 =>
 RUN Try.prog (Instr.loadAt 109 v9) w fun v10 w =>
 CALL Try.prog 66 [m_2, v10] w E fun v11 w =>
 CALL Try.prog 67 [a_1, v11, state_3, c_4] w E fun v12 w =>
 R v12 w)
theorem by_sparse_Automaton_Step {a_1 m_2 state_3 c_4 : Value} {R : Value → World → Prop} {w : World} (h : sh_sparse_Automaton_Step a_1 m_2 state_3 c_4 NOPE R w) : RET Try.prog 35 [a_1, m_2, state_3, c_4] w R :=
  ⟨by kernel_rfl, calls_by [(11003, [])] Try.func35 (by kernel_rfl) (by kernel_rfl) (by kernel_rfl) h⟩

def sh_seinelaw16_awake (E : List PanicEntry → World → Prop) (R : Value → World → Prop) (w : World) : Prop :=
 RUN Try.prog (Instr.buildSlice 42 3 #[(0, (.int .u8 97)), (1, (.int .u8 98)), (2, (.int .u8 99))]) w fun v1 w =>
 RUN Try.prog (convert 42 42 v1) w fun v2 w =>
 RUN Try.prog (Instr.buildSlice 42 2 #[(0, (.int .u8 98)), (1, (.int .u8 99))]) w fun v3 w =>
 RUN Try.prog (convert 42 42 v3) w fun v4 w =>
 RUN Try.prog (Instr.buildSlice 22 2 #[(0, v2), (1, v4)]) w fun v5 w =>
 CALL Try.prog 38 [v5] w E fun v6 w =>
 RUN Try.prog (Instr.buildSlice 42 5 #[(0, (.int .u8 120)), (1, (.int .u8 97)), (2, (.int .u8 98)), (3, (.int .u8 99)), (4, (.int .u8 120))]) w fun v7 w =>
 RUN Try.prog (convert 42 42 v7) w fun v8 w =>
 CALL Try.prog 39 [v6, v8] w E fun v9 w =>
 RUN Try.prog (Instr.buildSlice 42 5 #[(0, (.int .u8 120)), (1, (.int .u8 97)), (2, (.int .u8 98)), (3, (.int .u8 99)), (4, (.int .u8 120))]) w fun v10 w =>
 RUN Try.prog (convert 42 42 v10) w fun v11 w =>
 CALL Try.prog 68 [v6, v11] w E fun v12 w =>
 PURE Try.prog (Instr.build 69 #[(0, (.int .i64 1)), (1, (.int .i64 4))]) fun v13 =>
 PURE Try.prog (Instr.build 69 #[(0, (.int .i64 2)), (1, (.int .i64 4))]) fun v14 =>
 RUN Try.prog (Instr.buildSlice 49 2 #[(0, v13), (1, v14)]) w fun v15 w =>
 CALL Try.prog 30 [v9, v15] w E fun v16 w =>
 COND v16 (
 PURE Try.prog (Builtin.len_ #[72] 3 #[v12]) fun v17 =>
 PURE Try.prog (BINS .gtr 3 (.tmp 25) (.const (.int .i64 0)) v17 (.int .i64 0)) fun v18 =>
 COND v18 (
 PURE Try.prog (Instr.indexAt 72 v12 (.int .i64 0)) fun v19 =>
 RUN Try.prog (Instr.loadAt 3 v19) w fun v20 w =>
 PURE Try.prog (BINS .eql 3 (.tmp 31) (.const (.int .i64 2)) v20 (.int .i64 2)) fun v21 =>
 R v21 w) (
 R (.bool false) w)) (
 R (.bool false) w)
theorem by_seinelaw16_awake {R : Value → World → Prop} {w : World} (h : sh_seinelaw16_awake NOPE R w) : RET Try.prog 36 [] w R :=
  ⟨by kernel_rfl, calls_by [] Try.func36 (by kernel_rfl) (by kernel_rfl) (by kernel_rfl) h⟩

def sh_seinelaw16_texts (l_1 : Value) (E : List PanicEntry → World → Prop) (R : Value → World → Prop) (w : World) : Prop :=
 LOOP2 (fun out_2 i_3 w next1 =>
 PURE Try.prog (Builtin.len_ #[22] 3 #[l_1]) fun v4 =>
 PURE Try.prog (BINS .lss 3 (.tmp 6) (.tmp 8) i_3 v4) fun v5 =>
 COND v5 (
 PURE Try.prog (Instr.indexAt 22 l_1 i_3) fun v6 =>
 RUN Try.prog (Instr.loadAt 42 v6) w fun v7 w =>
 PURE Try.prog (Builtin.len_ #[42] 3 #[v7]) fun v8 =>
 PURE Try.prog (BINS .gtr 3 (.tmp 16) (.const (.int .i64 40)) v8 (.int .i64 40)) fun v9 =>
 COND v9 (
 R (.tuple #[(.slice Option.none 0 0), (.bool false)]) w) (
 PURE Try.prog (Instr.indexAt 22 l_1 i_3) fun v10 =>
 RUN Try.prog (Instr.loadAt 42 v10) w fun v11 w =>
 RUN Try.prog (convert 42 9 v11) w fun v12 w =>
 RUN Try.prog (Instr.buildSlice 24 1 #[(0, v12)]) w fun v13 w =>
 RUN Try.prog (Builtin.append_ #[24, 24] 24 #[out_2, v13]) w fun v14 w =>
 PURE Try.prog (BINS .add 3 (.tmp 10) (.const (.int .i64 1)) i_3 (.int .i64 1)) fun v15 =>
 next1 v14 v15 w)) (
 PURE Try.prog (Builtin.len_ #[22] 3 #[l_1]) fun v16 =>
 PURE Try.prog (BINS .leq 3 (.tmp 28) (.const (.int .i64 12)) v16 (.int .i64 12)) fun v17 =>
 R (.tuple #[out_2, v17]) w)) (.slice Option.none 0 0) (.int .i64 0) w
theorem by_seinelaw16_texts {l_1 : Value} {R : Value → World → Prop} {w : World} (h : sh_seinelaw16_texts l_1 NOPE R w) : RET Try.prog 37 [l_1] w R :=
  ⟨by kernel_rfl, calls_by [(3, [4, 5])] Try.func37 (by kernel_rfl) (by kernel_rfl) (by kernel_rfl) h⟩

def sh_cwalter_New (l_1 : Value) (E : List PanicEntry → World → Prop) (R : Value → World → Prop) (w : World) : Prop :=
 CALL Try.prog 69 [l_1] w E fun v2 w =>
 CALL Try.prog 70 [v2] w E fun v3 w =>
 PURE Try.prog (Instr.build 122 #[(0, v2), (1, v3)]) fun v4 =>
 RUN Try.prog (Instr.box 122 v4) w fun v5 w =>
 R v5 w
theorem by_cwalter_New {l_1 : Value} {R : Value → World → Prop} {w : World} (h : sh_cwalter_New l_1 NOPE R w) : RET Try.prog 38 [l_1] w R :=
  ⟨by kernel_rfl, calls_by [] Try.func38 (by kernel_rfl) (by kernel_rfl) (by kernel_rfl) h⟩

def sh_cwalter_Walter_Scan (w_1 line_2 : Value) (E : List PanicEntry → World → Prop) (R : Value → World → Prop) (w : World) : Prop :=
 CALL Try.prog 71 [w_1, line_2] w E fun v3 w =>
 PURE Try.prog (Instr.extract v3 0) fun v4 =>
 PURE Try.prog (Instr.extract v3 1) fun v5 =>
 CALL Try.prog 59 [v4] w E fun v6 w =>
 R v6 w
theorem by_cwalter_Walter_Scan {w_1 line_2 : Value} {R : Value → World → Prop} {w : World} (h : sh_cwalter_Walter_Scan w_1 line_2 NOPE R w) : RET Try.prog 39 [w_1, line_2] w R :=
  ⟨by kernel_rfl, calls_by [] Try.func39 (by kernel_rfl) (by kernel_rfl) (by kernel_rfl) h⟩

def sh_links_Build (t_1 : Value) (E : List PanicEntry → World → Prop) (R : Value → World → Prop) (w : World) : Prop :=
 CALL Try.prog 23 [t_1] w E fun v2 w =>
 JOIN1 (fun J1 =>
 DRAW w fun S w =>
 (RUN Try.prog (Instr.buildSlice 72 1 #[(0, (.int .i64 (-1)))]) w fun v3 w =>
 (CALL Try.prog 72 [v3, v2] w E fun v4 w =>
 (RUN Try.prog (Instr.buildSlice 72 1 #[(0, (.int .i64 (-1)))]) w fun v5 w =>
 (CALL Try.prog 72 [v5, v2] w E fun v6 w =>
 RUN Try.prog (Instr.makeSlice 72 v2 v2) w fun v7 w =>
 PURE Try.prog (Instr.build 127 #[(0, v4), (1, v6), (2, v7)]) fun v8 =>
 RUN Try.prog (Instr.box 127 v8) w fun v9 w =>
 J1 v9 w) ∧
 (RUN Try.prog (Instr.makeSlice 72 v2 v2) w fun v10 w =>
 CALL Try.prog 72 [v5, v2] w E fun v11 w =>
 PURE Try.prog (Instr.build 127 #[(0, v4), (1, v11), (2, v10)]) fun v12 =>
 RUN Try.prog (Instr.box 127 v12) w fun v13 w =>
 J1 v13 w)) ∧
 (RUN Try.prog (Instr.makeSlice 72 v2 v2) w fun v14 w =>
 RUN Try.prog (Instr.buildSlice 72 1 #[(0, (.int .i64 (-1)))]) w fun v15 w =>
 CALL Try.prog 72 [v15, v2] w E fun v16 w =>
 PURE Try.prog (Instr.build 127 #[(0, v4), (1, v16), (2, v14)]) fun v17 =>
 RUN Try.prog (Instr.box 127 v17) w fun v18 w =>
 J1 v18 w)) ∧
 (RUN Try.prog (Instr.buildSlice 72 1 #[(0, (.int .i64 (-1)))]) w fun v19 w =>
 (CALL Try.prog 72 [v3, v2] w E fun v20 w =>
 (CALL Try.prog 72 [v19, v2] w E fun v21 w =>
 RUN Try.prog (Instr.makeSlice 72 v2 v2) w fun v22 w =>
 PURE Try.prog (Instr.build 127 #[(0, v20), (1, v21), (2, v22)]) fun v23 =>
 RUN Try.prog (Instr.box 127 v23) w fun v24 w =>
 J1 v24 w) ∧
 (RUN Try.prog (Instr.makeSlice 72 v2 v2) w fun v25 w =>
 CALL Try.prog 72 [v19, v2] w E fun v26 w =>
 PURE Try.prog (Instr.build 127 #[(0, v20), (1, v26), (2, v25)]) fun v27 =>
 RUN Try.prog (Instr.box 127 v27) w fun v28 w =>
 J1 v28 w)) ∧
 (RUN Try.prog (Instr.makeSlice 72 v2 v2) w fun v29 w =>
 CALL Try.prog 72 [v3, v2] w E fun v30 w =>
 CALL Try.prog 72 [v19, v2] w E fun v31 w =>
 PURE Try.prog (Instr.build 127 #[(0, v30), (1, v31), (2, v29)]) fun v32 =>
 RUN Try.prog (Instr.box 127 v32) w fun v33 w =>
 J1 v33 w)) ∧
 (RUN Try.prog (Instr.makeSlice 72 v2 v2) w fun v34 w =>
 (CALL Try.prog 72 [v3, v2] w E fun v35 w =>
 RUN Try.prog (Instr.buildSlice 72 1 #[(0, (.int .i64 (-1)))]) w fun v36 w =>
 CALL Try.prog 72 [v36, v2] w E fun v37 w =>
 PURE Try.prog (Instr.build 127 #[(0, v35), (1, v37), (2, v34)]) fun v38 =>
 RUN Try.prog (Instr.box 127 v38) w fun v39 w =>
 J1 v39 w) ∧
 (RUN Try.prog (Instr.buildSlice 72 1 #[(0, (.int .i64 (-1)))]) w fun v40 w =>
 CALL Try.prog 72 [v3, v2] w E fun v41 w =>
 CALL Try.prog 72 [v40, v2] w E fun v42 w =>
 PURE Try.prog (Instr.build 127 #[(0, v41), (1, v42), (2, v34)]) fun v43 =>
 RUN Try.prog (Instr.box 127 v43) w fun v44 w =>
 J1 v44 w))) ∧
 (RUN Try.prog (Instr.buildSlice 72 1 #[(0, (.int .i64 (-1)))]) w fun v45 w =>
 KEEPS S w fun S =>
 (RUN Try.prog (Instr.buildSlice 72 1 #[(0, (.int .i64 (-1)))]) w fun v46 w =>
 (CALL Try.prog 72 [v46, v2] w E fun v47 w =>
 (CALL Try.prog 72 [v45, v2] w E fun v48 w =>
 RUN Try.prog (Instr.makeSlice 72 v2 v2) w fun v49 w =>
 PURE Try.prog (Instr.build 127 #[(0, v47), (1, v48), (2, v49)]) fun v50 =>
 RUN Try.prog (Instr.box 127 v50) w fun v51 w =>
 J1 v51 w) ∧
 (RUN Try.prog (Instr.makeSlice 72 v2 v2) w fun v52 w =>
 CALL Try.prog 72 [v45, v2] w E fun v53 w =>
 PURE Try.prog (Instr.build 127 #[(0, v47), (1, v53), (2, v52)]) fun v54 =>
 RUN Try.prog (Instr.box 127 v54) w fun v55 w =>
 J1 v55 w)) ∧
 (RUN Try.prog (Instr.makeSlice 72 v2 v2) w fun v56 w =>
 CALL Try.prog 72 [v46, v2] w E fun v57 w =>
 CALL Try.prog 72 [v45, v2] w E fun v58 w =>
 PURE Try.prog (Instr.build 127 #[(0, v57), (1, v58), (2, v56)]) fun v59 =>
 RUN Try.prog (Instr.box 127 v59) w fun v60 w =>
 J1 v60 w)) ∧
 (RUN Try.prog (Instr.makeSlice 72 v2 v2) w fun v61 w =>
 KEEPS S w fun S =>
 RUN Try.prog (Instr.buildSlice 72 1 #[(0, (.int .i64 (-1)))]) w fun v62 w =>
 CALL Try.prog 72 [v62, v2] w E fun v63 w =>
 CALL Try.prog 72 [v45, v2] w E fun v64 w =>
 PURE Try.prog (Instr.build 127 #[(0, v63), (1, v64), (2, v61)]) fun v65 =>
 RUN Try.prog (Instr.box 127 v65) w fun v66 w =>
 J1 v66 w)) ∧
 (RUN Try.prog (Instr.makeSlice 72 v2 v2) w fun v67 w =>
 KEEPS S w fun S =>
 (RUN Try.prog (Instr.buildSlice 72 1 #[(0, (.int .i64 (-1)))]) w fun v68 w =>
 (CALL Try.prog 72 [v68, v2] w E fun v69 w =>
 RUN Try.prog (Instr.buildSlice 72 1 #[(0, (.int .i64 (-1)))]) w fun v70 w =>
 CALL Try.prog 72 [v70, v2] w E fun v71 w =>
 PURE Try.prog (Instr.build 127 #[(0, v69), (1, v71), (2, v67)]) fun v72 =>
 RUN Try.prog (Instr.box 127 v72) w fun v73 w =>
 J1 v73 w) ∧
 (RUN Try.prog (Instr.buildSlice 72 1 #[(0, (.int .i64 (-1)))]) w fun v74 w =>
 CALL Try.prog 72 [v68, v2] w E fun v75 w =>
 CALL Try.prog 72 [v74, v2] w E fun v76 w =>
 PURE Try.prog (Instr.build 127 #[(0, v75), (1, v76), (2, v67)]) fun v77 =>
 RUN Try.prog (Instr.box 127 v77) w fun v78 w =>
 J1 v78 w)) ∧
 (RUN Try.prog (Instr.buildSlice 72 1 #[(0, (.int .i64 (-1)))]) w fun v79 w =>
 KEEPS S w fun S =>
 RUN Try.prog (Instr.buildSlice 72 1 #[(0, (.int .i64 (-1)))]) w fun v80 w =>
 CALL Try.prog 72 [v80, v2] w E fun v81 w =>
 CALL Try.prog 72 [v79, v2] w E fun v82 w =>
 PURE Try.prog (Instr.build 127 #[(0, v81), (1, v82), (2, v67)]) fun v83 =>
 RUN Try.prog (Instr.box 127 v83) w fun v84 w =>
 J1 v84 w))) (fun l_85 w =>
 PURE Try.prog (BINS .eql 3 (.tmp 21) (.const (.int .i64 0)) v2 (.int .i64 0)) fun v86 =>
 COND v86 (
 R l_85 w) (
 RUN Try.prog (Instr.buildSlice 72 1 #[(0, (.int .i64 0))]) w fun v87 w =>
 PURE Try.prog (NILS l_85) fun v88 =>
 PURE Try.prog (Instr.fieldAt 127 v88 3) fun v89 =>
 RUNU Try.prog (Instr.storeAt 72 v89 v87) w fun w =>
 LOOP1 (fun i_90 w next2 =>
 PURE Try.prog (NILS l_85) fun v91 =>
 PURE Try.prog (Instr.fieldAt 127 v91 3) fun v92 =>
 RUN Try.prog (Instr.loadAt 72 v92) w fun v93 w =>
 PURE Try.prog (Builtin.len_ #[72] 3 #[v93]) fun v94 =>
 PURE Try.prog (BINS .lss 3 (.tmp 28) (.tmp 33) i_90 v94) fun v95 =>
 COND v95 (
 PURE Try.prog (NILS l_85) fun v96 =>
 PURE Try.prog (Instr.fieldAt 127 v96 3) fun v97 =>
 RUN Try.prog (Instr.loadAt 72 v97) w fun v98 w =>
 PURE Try.prog (Instr.indexAt 72 v98 i_90) fun v99 =>
 RUN Try.prog (Instr.loadAt 3 v99) w fun v100 w =>
 CALL Try.prog 73 [t_1, v100] w E fun v101 w =>
 PURE Try.prog (Builtin.len_ #[42] 3 #[v101]) fun v102 =>
 LOOP1 (fun v103 w next3 =>
 PURE Try.prog (BINS .lss 3 (.tmp 48) (.tmp 47) v103 v102) fun v104 =>
 COND v104 (
 PURE Try.prog (Instr.indexAt 42 v101 v103) fun v105 =>
 RUN Try.prog (Instr.loadAt 5 v105) w fun v106 w =>
 DRAW w fun S w =>
 PURE Try.prog (NILS l_85) fun v107 =>
 PURE Try.prog (Instr.fieldAt 127 v107 3) fun v108 =>
 READ Try.prog S (Instr.loadAt 72 v108) w fun v109 =>
 CALL Try.prog 74 [t_1, v100, v106] w E fun v110 w =>
 KEEPS S w fun S =>
 RUN Try.prog (Instr.buildSlice 72 1 #[(0, v110)]) w fun v111 w =>
 KEEPS S w fun S =>
 RUN Try.prog (Builtin.append_ #[72, 72] 72 #[v109, v111]) w fun v112 w =>
 PURE Try.prog (NILS l_85) fun v113 =>
 PURE Try.prog (Instr.fieldAt 127 v113 3) fun v114 =>
 RUNU Try.prog (Instr.storeAt 72 v114 v112) w fun w =>
 PURE Try.prog (BINS .add 3 (.tmp 48) (.const (.int .i64 1)) v103 (.int .i64 1)) fun v115 =>
 next3 v115 w) (
 PURE Try.prog (BINS .eql 3 (.tmp 66) (.const (.int .i64 0)) v100 (.int .i64 0)) fun v116 =>
 COND v116 (
 PURE Try.prog (BINS .add 3 (.tmp 35) (.const (.int .i64 1)) i_90 (.int .i64 1)) fun v117 =>
 next2 v117 w) (
 CALL Try.prog 75 [l_85, t_1, v100] w E fun v118 w =>
 PURE Try.prog (BINS .add 3 (.tmp 35) (.const (.int .i64 1)) i_90 (.int .i64 1)) fun v119 =>
 next2 v119 w))) (.int .i64 0) w) (
 R l_85 w)) (.int .i64 0) w))
theorem by_links_Build {t_1 : Value} {R : Value → World → Prop} {w : World} (h : sh_links_Build t_1 NOPE R w) : RET Try.prog 40 [t_1] w R :=
  ⟨by kernel_rfl, calls_by [(7, [5]), (11, [48]), (12003, [4])] Try.func40 (by kernel_rfl) (by kernel_rfl) (by kernel_rfl) h⟩

def sh_dfa_DFA_fill (d_1 : Value) (E : List PanicEntry → World → Prop) (R : Value → World → Prop) (w : World) : Prop :=
 DRAW w fun S w =>
 PURE Try.prog (NILS d_1) fun v2 =>
 PURE Try.prog (Instr.fieldAt 74 v2 0) fun v3 =>
 READ Try.prog S (Instr.loadAt 45 v3) w fun v4 =>
 PURE Try.prog (NILS d_1) fun v5 =>
 PURE Try.prog (Instr.fieldAt 74 v5 2) fun v6 =>
 READ Try.prog S (Instr.loadAt 33 v6) w fun v7 =>
 CALL Try.prog 23 [v4] w E fun v8 w =>
 KEEPS S w fun S =>
 CALL Try.prog 17 [v7] w E fun v9 w =>
 PURE Try.prog (BINS .mul 3 (.tmp 14) (.tmp 19) v8 v9) fun v10 =>
 RUN Try.prog (Instr.makeSlice 72 v10 v10) w fun v11 w =>
 PURE Try.prog (NILS d_1) fun v12 =>
 PURE Try.prog (Instr.fieldAt 74 v12 3) fun v13 =>
 RUNU Try.prog (Instr.storeAt 72 v13 v11) w fun w =>
 PURE Try.prog (NILS d_1) fun v14 =>
 PURE Try.prog (Instr.fieldAt 74 v14 1) fun v15 =>
 RUN Try.prog (Instr.loadAt 70 v15) w fun v16 w =>
 CALL Try.prog 76 [v16] w E fun v17 w =>
 PURE Try.prog (Builtin.len_ #[72] 3 #[v17]) fun v18 =>
 LOOP1 (fun v19 w next1 =>
 PURE Try.prog (BINS .lss 3 (.tmp 30) (.tmp 29) v19 v18) fun v20 =>
 COND v20 (
 PURE Try.prog (Instr.indexAt 72 v17 v19) fun v21 =>
 RUN Try.prog (Instr.loadAt 3 v21) w fun v22 w =>
 CALL Try.prog 45 [d_1, v22] w E fun v23 w =>
 JOIN0 (fun J2 =>
 PURE Try.prog (NILS d_1) fun v24 =>
 PURE Try.prog (Instr.fieldAt 74 v24 1) fun v25 =>
 RUN Try.prog (Instr.loadAt 70 v25) w fun v26 w =>
 CALL Try.prog 77 [v26, v22] w E fun v27 w =>
 PURE Try.prog (BINS .geq 3 (.tmp 43) (.const (.int .i64 0)) v27 (.int .i64 0)) fun v28 =>
 COND v28 (
 CALL Try.prog 45 [d_1, v27] w E fun v29 w =>
 RUN Try.prog (Builtin.copy_ #[72, 72] 3 #[v23, v29]) w fun v30 w =>
 J2 w) (
 J2 w)) (fun w =>
 PURE Try.prog (NILS d_1) fun v31 =>
 PURE Try.prog (Instr.fieldAt 74 v31 0) fun v32 =>
 RUN Try.prog (Instr.loadAt 45 v32) w fun v33 w =>
 CALL Try.prog 73 [v33, v22] w E fun v34 w =>
 PURE Try.prog (Builtin.len_ #[42] 3 #[v34]) fun v35 =>
 PURE Try.prog (BINS .eql 3 (.tmp 57) (.const (.int .i64 0)) v35 (.int .i64 0)) fun v36 =>
 COND v36 (
 PURE Try.prog (BINS .add 3 (.tmp 30) (.const (.int .i64 1)) v19 (.int .i64 1)) fun v37 =>
 next1 v37 w) (
 PURE Try.prog (Builtin.len_ #[42] 3 #[v34]) fun v38 =>
 LOOP1 (fun v39 w next3 =>
 PURE Try.prog (BINS .lss 3 (.tmp 61) (.tmp 60) v39 v38) fun v40 =>
 COND v40 (
 PURE Try.prog (Instr.indexAt 42 v34 v39) fun v41 =>
 RUN Try.prog (Instr.loadAt 5 v41) w fun v42 w =>
 DRAW w fun S w =>
 PURE Try.prog (NILS d_1) fun v43 =>
 PURE Try.prog (Instr.fieldAt 74 v43 2) fun v44 =>
 READ Try.prog S (Instr.loadAt 33 v44) w fun v45 =>
 PURE Try.prog (NILS d_1) fun v46 =>
 PURE Try.prog (Instr.fieldAt 74 v46 0) fun v47 =>
 READ Try.prog S (Instr.loadAt 45 v47) w fun v48 =>
 CALL Try.prog 15 [v45, v42] w E fun v49 w =>
 KEEPS S w fun S =>
 CALL Try.prog 74 [v48, v22, v42] w E fun v50 w =>
 PURE Try.prog (Instr.indexAt 72 v23 v49) fun v51 =>
 RUNU Try.prog (Instr.storeAt 3 v51 v50) w fun w =>
 PURE Try.prog (BINS .add 3 (.tmp 61) (.const (.int .i64 1)) v39 (.int .i64 1)) fun v52 =>
 next3 v52 w) (
 PURE Try.prog (BINS .add 3 (.tmp 30) (.const (.int .i64 1)) v19 (.int .i64 1)) fun v53 =>
 next1 v53 w)) (.int .i64 0) w))) (
 R (.tuple #[]) w)) (.int .i64 0) w
theorem by_dfa_DFA_fill {d_1 : Value} {R : Value → World → Prop} {w : World} (h : sh_dfa_DFA_fill d_1 NOPE R w) : RET Try.prog 41 [d_1] w R :=
  ⟨by kernel_rfl, calls_by [(2, [30]), (11, [61]), (15008, [])] Try.func41 (by kernel_rfl) (by kernel_rfl) (by kernel_rfl) h⟩

def sh_fold_Set_Union (s_1 o_2 : Value) (E : List PanicEntry → World → Prop) (R : Value → World → Prop) (w : World) : Prop :=
 RUN Try.prog (Instr.box 77 s_1) w fun s_3 w =>
 RUN Try.prog (Instr.box 77 o_2) w fun o_4 w =>
 RUN Try.prog (Instr.alloc 77 true (.tuple #[])) w fun v5 w =>
 RUN Try.prog (Instr.loadAt 77 o_4) w fun v6 w =>
 LOOP1 (fun v7 w next1 =>
 PURE Try.prog (BINS .lss 3 (.tmp 8) (.const (.int .i64 4)) v7 (.int .i64 4)) fun v8 =>
 COND v8 (
 PURE Try.prog (Instr.index 77 v6 v7) fun v9 =>
 PURE Try.prog (Instr.indexAt 77 s_3 v7) fun v10 =>
 RUN Try.prog (Instr.loadAt 75 v10) w fun v11 w =>
 PURE Try.prog (BINS .or 75 (.tmp 14) (.tmp 15) v11 v9) fun v12 =>
 PURE Try.prog (Instr.indexAt 77 s_3 v7) fun v13 =>
 RUNU Try.prog (Instr.storeAt 75 v13 v12) w fun w =>
 PURE Try.prog (BINS .add 3 (.tmp 8) (.const (.int .i64 1)) v7 (.int .i64 1)) fun v14 =>
 next1 v14 w) (
 RUN Try.prog (Instr.loadAt 77 s_3) w fun v15 w =>
 RUNU Try.prog (Instr.storeAt 77 v5 v15) w fun w =>
 LOADRES Try.prog 77 v5 w fun r => R r w)) (.int .i64 0) w
theorem by_fold_Set_Union {s_1 o_2 : Value} {R : Value → World → Prop} {w : World} (h : sh_fold_Set_Union s_1 o_2 NOPE R w) : RET Try.prog 42 [s_1, o_2] w R :=
  ⟨by kernel_rfl, calls_by [(2, [8])] Try.func42 (by kernel_rfl) (by kernel_rfl) (by kernel_rfl) h⟩

def sh_fold_Of (b_1 : Value) (E : List PanicEntry → World → Prop) (R : Value → World → Prop) (w : World) : Prop :=
 RUN Try.prog (Instr.alloc 77 true (.tuple #[])) w fun v2 w =>
 RUN Try.prog (Instr.alloc 77 true (.tuple #[])) w fun s_3 w =>
 PURE Try.prog (Builtin.len_ #[42] 3 #[b_1]) fun v4 =>
 LOOP1 (fun v5 w next1 =>
 PURE Try.prog (BINS .lss 3 (.tmp 8) (.tmp 7) v5 v4) fun v6 =>
 COND v6 (
 PURE Try.prog (Instr.indexAt 42 b_1 v5) fun v7 =>
 RUN Try.prog (Instr.loadAt 5 v7) w fun v8 w =>
 RUN Try.prog (Instr.loadAt 77 s_3) w fun v9 w =>
 CALL Try.prog 78 [v9, v8] w E fun v10 w =>
 RUNU Try.prog (Instr.storeAt 77 s_3 v10) w fun w =>
 PURE Try.prog (BINS .add 3 (.tmp 8) (.const (.int .i64 1)) v5 (.int .i64 1)) fun v11 =>
 next1 v11 w) (
 RUN Try.prog (Instr.loadAt 77 s_3) w fun v12 w =>
 RUNU Try.prog (Instr.storeAt 77 v2 v12) w fun w =>
 LOADRES Try.prog 77 v2 w fun r => R r w)) (.int .i64 0) w
theorem by_fold_Of {b_1 : Value} {R : Value → World → Prop} {w : World} (h : sh_fold_Of b_1 NOPE R w) : RET Try.prog 43 [b_1] w R :=
  ⟨by kernel_rfl, calls_by [(3, [8])] Try.func43 (by kernel_rfl) (by kernel_rfl) (by kernel_rfl) h⟩

def sh_fold_Set_List (s_1 : Value) (E : List PanicEntry → World → Prop) (R : Value → World → Prop) (w : World) : Prop :=
 RUN Try.prog (Instr.box 77 s_1) w fun s_2 w =>
 RUN Try.prog (Instr.loadAt 77 s_2) w fun v3 w =>
 PURE Try.prog (Instr.build 77 #[]) fun v4 =>
 PURE Try.prog (BINS .eql 77 (.tmp 5) (.tmp 6) v3 v4) fun v5 =>
 COND v5 (
 R (.slice Option.none 0 0) w) (
 LOOP2 (fun out_6 v7 w next1 =>
 PURE Try.prog (BINS .lss 3 (.tmp 8) (.const (.int .i64 256)) v7 (.int .i64 256)) fun v8 =>
 COND v8 (
 RUN Try.prog (Instr.loadAt 77 s_2) w fun v9 w =>
 PURE Try.prog (convert 3 5 v7) fun v10 =>
 CALL Try.prog 79 [v9, v10] w E fun v11 w =>
 COND v11 (
 PURE Try.prog (convert 3 5 v7) fun v12 =>
 RUN Try.prog (Instr.buildSlice 42 1 #[(0, v12)]) w fun v13 w =>
 RUN Try.prog (Builtin.append_ #[42, 42] 42 #[out_6, v13]) w fun v14 w =>
 PURE Try.prog (BINS .add 3 (.tmp 8) (.const (.int .i64 1)) v7 (.int .i64 1)) fun v15 =>
 next1 v14 v15 w) (
 PURE Try.prog (BINS .add 3 (.tmp 8) (.const (.int .i64 1)) v7 (.int .i64 1)) fun v16 =>
 next1 out_6 v16 w)) (
 R out_6 w)) (.slice Option.none 0 0) (.int .i64 0) w)
theorem by_fold_Set_List {s_1 : Value} {R : Value → World → Prop} {w : World} (h : sh_fold_Set_List s_1 NOPE R w) : RET Try.prog 44 [s_1] w R :=
  ⟨by kernel_rfl, calls_by [(5, [3, 8])] Try.func44 (by kernel_rfl) (by kernel_rfl) (by kernel_rfl) h⟩

def sh_dfa_DFA_row (d_1 state_2 : Value) (E : List PanicEntry → World → Prop) (R : Value → World → Prop) (w : World) : Prop :=
 PURE Try.prog (NILS d_1) fun v3 =>
 PURE Try.prog (Instr.fieldAt 74 v3 2) fun v4 =>
 RUN Try.prog (Instr.loadAt 33 v4) w fun v5 w =>
 CALL Try.prog 17 [v5] w E fun v6 w =>
 PURE Try.prog (NILS d_1) fun v7 =>
 PURE Try.prog (Instr.fieldAt 74 v7 3) fun v8 =>
 RUN Try.prog (Instr.loadAt 72 v8) w fun v9 w =>
 PURE Try.prog (BINS .mul 3 (.tmp 15) (.tmp 16) state_2 v6) fun v10 =>
 PURE Try.prog (BINS .mul 3 (.tmp 18) (.tmp 19) state_2 v6) fun v11 =>
 PURE Try.prog (BINS .add 3 (.tmp 20) (.tmp 21) v11 v6) fun v12 =>
 PURE Try.prog (Instr.sliceAt 72 v9 (some v10) (some v12) none) fun v13 =>
 R v13 w
theorem by_dfa_DFA_row {d_1 state_2 : Value} {R : Value → World → Prop} {w : World} (h : sh_dfa_DFA_row d_1 state_2 NOPE R w) : RET Try.prog 45 [d_1, state_2] w R :=
  ⟨by kernel_rfl, calls_by [] Try.func45 (by kernel_rfl) (by kernel_rfl) (by kernel_rfl) h⟩

def sh_seineref06_Place (l_1 s_2 : Value) (E : List PanicEntry → World → Prop) (R : Value → World → Prop) (w : World) : Prop :=
 LOOP1 (fun i_3 w next1 =>
 PURE Try.prog (Builtin.len_ #[24] 3 #[l_1]) fun v4 =>
 PURE Try.prog (BINS .lss 3 (.tmp 6) (.tmp 8) i_3 v4) fun v5 =>
 COND v5 (
 PURE Try.prog (Instr.indexAt 24 l_1 i_3) fun v6 =>
 RUN Try.prog (Instr.loadAt 9 v6) w fun v7 w =>
 PURE Try.prog (BINS .eql 9 (.tmp 15) (.tmp 16) v7 s_2) fun v8 =>
 COND v8 (
 R i_3 w) (
 PURE Try.prog (BINS .add 3 (.tmp 10) (.const (.int .i64 1)) i_3 (.int .i64 1)) fun v9 =>
 next1 v9 w)) (
 R (.int .i64 (-1)) w)) (.int .i64 0) w
theorem by_seineref06_Place {l_1 s_2 : Value} {R : Value → World → Prop} {w : World} (h : sh_seineref06_Place l_1 s_2 NOPE R w) : RET Try.prog 46 [l_1, s_2] w R :=
  ⟨by kernel_rfl, calls_by [(2, [5])] Try.func46 (by kernel_rfl) (by kernel_rfl) (by kernel_rfl) h⟩

def sh_seineref01_List (s_1 : Value) (E : List PanicEntry → World → Prop) (R : Value → World → Prop) (w : World) : Prop :=
 LOOP2 (fun out_2 c_3 w next1 =>
 PURE Try.prog (BINS .lss 3 (.tmp 5) (.const (.int .i64 256)) c_3 (.int .i64 256)) fun v4 =>
 COND v4 (
 PURE Try.prog (convert 3 5 c_3) fun v5 =>
 CALL Try.prog 80 [s_1, v5] w E fun v6 w =>
 COND v6 (
 PURE Try.prog (convert 3 5 c_3) fun v7 =>
 RUN Try.prog (Instr.buildSlice 42 1 #[(0, v7)]) w fun v8 w =>
 RUN Try.prog (convert 42 9 v8) w fun v9 w =>
 PURE Try.prog (BINS .add 9 (.tmp 13) (.tmp 17) out_2 v9) fun v10 =>
 PURE Try.prog (BINS .add 3 (.tmp 7) (.const (.int .i64 1)) c_3 (.int .i64 1)) fun v11 =>
 next1 v10 v11 w) (
 PURE Try.prog (BINS .add 3 (.tmp 7) (.const (.int .i64 1)) c_3 (.int .i64 1)) fun v12 =>
 next1 out_2 v12 w)) (
 R out_2 w)) (.string { data := #[] }) (.int .i64 0) w
theorem by_seineref01_List {s_1 : Value} {R : Value → World → Prop} {w : World} (h : sh_seineref01_List s_1 NOPE R w) : RET Try.prog 47 [s_1] w R :=
  ⟨by kernel_rfl, calls_by [(3, [3, 4])] Try.func47 (by kernel_rfl) (by kernel_rfl) (by kernel_rfl) h⟩

def sh_seineref09_All (l_1 : Value) (E : List PanicEntry → World → Prop) (R : Value → World → Prop) (w : World) : Prop :=
 LOOP2 (fun s_2 i_3 w next1 =>
 PURE Try.prog (Builtin.len_ #[24] 3 #[l_1]) fun v4 =>
 PURE Try.prog (BINS .lss 3 (.tmp 5) (.tmp 7) i_3 v4) fun v5 =>
 COND v5 (
 PURE Try.prog (Instr.indexAt 24 l_1 i_3) fun v6 =>
 RUN Try.prog (Instr.loadAt 9 v6) w fun v7 w =>
 PURE Try.prog (BINS .add 9 (.tmp 11) (.tmp 15) s_2 v7) fun v8 =>
 PURE Try.prog (BINS .add 3 (.tmp 9) (.const (.int .i64 1)) i_3 (.int .i64 1)) fun v9 =>
 next1 v8 v9 w) (
 R s_2 w)) (.string { data := #[] }) (.int .i64 0) w
theorem by_seineref09_All {l_1 : Value} {R : Value → World → Prop} {w : World} (h : sh_seineref09_All l_1 NOPE R w) : RET Try.prog 48 [l_1] w R :=
  ⟨by kernel_rfl, calls_by [(3, [3, 4])] Try.func48 (by kernel_rfl) (by kernel_rfl) (by kernel_rfl) h⟩

def sh_seineref08_Longest (paths_1 t_2 : Value) (E : List PanicEntry → World → Prop) (R : Value → World → Prop) (w : World) : Prop :=
 LOOP1 (fun n_3 w next1 =>
 PURE Try.prog (Builtin.len_ #[9] 3 #[t_2]) fun v4 =>
 PURE Try.prog (BINS .lss 3 (.tmp 6) (.tmp 8) n_3 v4) fun v5 =>
 COND v5 (
 PURE Try.prog (Instr.sliceAt 9 t_2 (some n_3) none none) fun v6 =>
 CALL Try.prog 46 [paths_1, v6] w E fun v7 w =>
 PURE Try.prog (BINS .geq 3 (.tmp 16) (.const (.int .i64 0)) v7 (.int .i64 0)) fun v8 =>
 COND v8 (
 PURE Try.prog (Instr.sliceAt 9 t_2 (some n_3) none none) fun v9 =>
 R v9 w) (
 PURE Try.prog (BINS .add 3 (.tmp 10) (.const (.int .i64 1)) n_3 (.int .i64 1)) fun v10 =>
 next1 v10 w)) (
 R (.string { data := #[] }) w)) (.int .i64 0) w
theorem by_seineref08_Longest {paths_1 t_2 : Value} {R : Value → World → Prop} {w : World} (h : sh_seineref08_Longest paths_1 t_2 NOPE R w) : RET Try.prog 49 [paths_1, t_2] w R :=
  ⟨by kernel_rfl, calls_by [(2, [5])] Try.func49 (by kernel_rfl) (by kernel_rfl) (by kernel_rfl) h⟩

def sh_trie_Trie_Path (t_1 node_2 : Value) (E : List PanicEntry → World → Prop) (R : Value → World → Prop) (w : World) : Prop :=
 LOOP2 (fun node_3 out_4 w next1 =>
 JOIN0 (fun J2 =>
 CALL Try.prog 81 [t_1, node_3] w E fun v5 w =>
 COND v5 (
 PURE Try.prog (NILS t_1) fun v6 =>
 PURE Try.prog (Instr.fieldAt 91 v6 0) fun v7 =>
 RUN Try.prog (Instr.loadAt 88 v7) w fun v8 w =>
 PURE Try.prog (Instr.indexAt 88 v8 node_3) fun v9 =>
 PURE Try.prog (Instr.fieldAt 87 v9 0) fun v10 =>
 RUN Try.prog (Instr.loadAt 3 v10) w fun v11 w =>
 PURE Try.prog (BINS .geq 3 (.tmp 17) (.const (.int .i64 0)) v11 (.int .i64 0)) fun v12 =>
 COND v12 (
 J2 w) (
 CALL Try.prog 82 [out_4] w E fun v13 w =>
 R out_4 w)) (
 COND (.bool false) (
 J2 w) (
 CALL Try.prog 82 [out_4] w E fun v14 w =>
 R out_4 w))) (fun w =>
 PURE Try.prog (NILS t_1) fun v15 =>
 PURE Try.prog (Instr.fieldAt 91 v15 0) fun v16 =>
 RUN Try.prog (Instr.loadAt 88 v16) w fun v17 w =>
 PURE Try.prog (Instr.indexAt 88 v17 node_3) fun v18 =>
 PURE Try.prog (Instr.fieldAt 87 v18 3) fun v19 =>
 RUN Try.prog (Instr.loadAt 5 v19) w fun v20 w =>
 RUN Try.prog (Instr.buildSlice 42 1 #[(0, v20)]) w fun v21 w =>
 RUN Try.prog (Builtin.append_ #[42, 42] 42 #[out_4, v21]) w fun v22 w =>
 PURE Try.prog (NILS t_1) fun v23 =>
 PURE Try.prog (Instr.fieldAt 91 v23 0) fun v24 =>
 RUN Try.prog (Instr.loadAt 88 v24) w fun v25 w =>
 PURE Try.prog (Instr.indexAt 88 v25 node_3) fun v26 =>
 PURE Try.prog (Instr.fieldAt 87 v26 0) fun v27 =>
 RUN Try.prog (Instr.loadAt 3 v27) w fun v28 w =>
 next1 v28 v22 w)) node_2 (.slice Option.none 0 0) w
theorem by_trie_Trie_Path {t_1 node_2 : Value} {R : Value → World → Prop} {w : World} (h : sh_trie_Trie_Path t_1 node_2 NOPE R w) : RET Try.prog 50 [t_1, node_2] w R :=
  ⟨by kernel_rfl, calls_by [(2, [1, 5]), (12003, [])] Try.func50 (by kernel_rfl) (by kernel_rfl) (by kernel_rfl) h⟩

def sh_trie_Trie_grow (t_1 at_2 c_3 : Value) (E : List PanicEntry → World → Prop) (R : Value → World → Prop) (w : World) : Prop :=
 PURE Try.prog (Instr.build 136 #[(0, at_2), (1, c_3)]) fun v4 =>
 RUN Try.prog (Instr.alloc 136 true (.tuple #[])) w fun e_5 w =>
 RUNU Try.prog (Instr.storeAt 136 e_5 v4) w fun w =>
 DRAWQ w fun S w =>
 PURE Try.prog (NILS t_1) fun v6 =>
 PURE Try.prog (Instr.fieldAt 91 v6 1) fun v7 =>
 READ Try.prog S (Instr.loadAt 89 v7) w fun v8 =>
 READ Try.prog S (Instr.loadAt 136 e_5) w fun v9 =>
 READ Try.prog S (Instr.lookup 89 v8 v9 Bool.true) w fun v10 =>
 PURE Try.prog (Instr.extract v10 0) fun v11 =>
 PURE Try.prog (Instr.extract v10 1) fun v12 =>
 COND v12 (
 R v11 w) (
 PURE Try.prog (NILS t_1) fun v13 =>
 PURE Try.prog (Instr.fieldAt 91 v13 0) fun v14 =>
 RUN Try.prog (Instr.loadAt 88 v14) w fun v15 w =>
 PURE Try.prog (Builtin.len_ #[88] 3 #[v15]) fun v16 =>
 DRAWQ w fun S w =>
 PURE Try.prog (NILS t_1) fun v17 =>
 PURE Try.prog (Instr.fieldAt 91 v17 1) fun v18 =>
 READ Try.prog S (Instr.loadAt 89 v18) w fun v19 =>
 READ Try.prog S (Instr.loadAt 136 e_5) w fun v20 =>
 RUNU Try.prog (Instr.mapUpdate 89 v19 v20 v16) w fun w =>
 DRAW w fun S w =>
 PURE Try.prog (NILS t_1) fun v21 =>
 PURE Try.prog (Instr.fieldAt 91 v21 0) fun v22 =>
 READ Try.prog S (Instr.loadAt 88 v22) w fun v23 =>
 PURE Try.prog (NILS t_1) fun v24 =>
 PURE Try.prog (Instr.fieldAt 91 v24 0) fun v25 =>
 READ Try.prog S (Instr.loadAt 88 v25) w fun v26 =>
 PURE Try.prog (Instr.indexAt 88 v26 at_2) fun v27 =>
 PURE Try.prog (Instr.fieldAt 87 v27 1) fun v28 =>
 READ Try.prog S (Instr.loadAt 3 v28) w fun v29 =>
 PURE Try.prog (BINS .add 3 (.tmp 49) (.const (.int .i64 1)) v29 (.int .i64 1)) fun v30 =>
 PURE Try.prog (Instr.build 87 #[(0, at_2), (1, v30), (2, (.int .i64 (-1))), (3, c_3)]) fun v31 =>
 RUN Try.prog (Instr.buildSlice 88 1 #[(0, v31)]) w fun v32 w =>
 KEEPS S w fun S =>
 RUN Try.prog (Builtin.append_ #[88, 88] 88 #[v23, v32]) w fun v33 w =>
 PURE Try.prog (NILS t_1) fun v34 =>
 PURE Try.prog (Instr.fieldAt 91 v34 0) fun v35 =>
 RUNU Try.prog (Instr.storeAt 88 v35 v33) w fun w =>
 R v16 w)
theorem by_trie_Trie_grow {t_1 at_2 c_3 : Value} {R : Value → World → Prop} {w : World} (h : sh_trie_Trie_grow t_1 at_2 c_3 NOPE R w) : RET Try.prog 51 [t_1, at_2, c_3] w R :=
  ⟨by kernel_rfl, calls_by [] Try.func51 (by kernel_rfl) (by kernel_rfl) (by kernel_rfl) h⟩

def sh_meter_Meter_Text (m_1 b_2 : Value) (E : List PanicEntry → World → Prop) (R : Value → World → Prop) (w : World) : Prop :=
 CALL Try.prog 61 [b_2] w E fun v3 w =>
 PURE Try.prog (Instr.build 139 #[(0, m_1), (1, v3)]) fun v4 =>
 RUN Try.prog (Instr.box 139 v4) w fun v5 w =>
 R v5 w
theorem by_meter_Meter_Text {m_1 b_2 : Value} {R : Value → World → Prop} {w : World} (h : sh_meter_Meter_Text m_1 b_2 NOPE R w) : RET Try.prog 52 [m_1, b_2] w R :=
  ⟨by kernel_rfl, calls_by [] Try.func52 (by kernel_rfl) (by kernel_rfl) (by kernel_rfl) h⟩

def sh_meter_Meter_Dense (m_1 class_2 width_3 next_4 : Value) (E : List PanicEntry → World → Prop) (R : Value → World → Prop) (w : World) : Prop :=
 RUN Try.prog (Instr.box 31 class_2) w fun class_5 w =>
 RUN Try.prog (Instr.box 3 width_3) w fun width_6 w =>
 RUN Try.prog (Instr.box 72 next_4) w fun next_7 w =>
 RUN Try.prog (Instr.loadAt 72 next_7) w fun v8 w =>
 CALL Try.prog 83 [v8] w E fun v9 w =>
 RUNU Try.prog (Instr.storeAt 72 next_7 v9) w fun w =>
 PURE Try.prog (Instr.makeFunc (Go.Fn.func 84) #[] #[class_5, width_6, next_7]) fun v10 =>
 PURE Try.prog (Instr.build 145 #[(0, m_1), (1, v10)]) fun v11 =>
 RUN Try.prog (Instr.box 145 v11) w fun v12 w =>
 R v12 w
theorem by_meter_Meter_Dense {m_1 class_2 width_3 next_4 : Value} {R : Value → World → Prop} {w : World} (h : sh_meter_Meter_Dense m_1 class_2 width_3 next_4 NOPE R w) : RET Try.prog 53 [m_1, class_2, width_3, next_4] w R :=
  ⟨by kernel_rfl, calls_by [] Try.func53 (by kernel_rfl) (by kernel_rfl) (by kernel_rfl) h⟩

def sh_classes_Classes_Table (c_1 : Value) (E : List PanicEntry → World → Prop) (R : Value → World → Prop) (w : World) : Prop :=
 RUN Try.prog (Instr.box 33 c_1) w fun c_2 w =>
 RUN Try.prog (Instr.alloc 31 true (.tuple #[])) w fun v3 w =>
 PURE Try.prog (Instr.fieldAt 33 c_2 0) fun v4 =>
 RUN Try.prog (Instr.loadAt 31 v4) w fun v5 w =>
 RUNU Try.prog (Instr.storeAt 31 v3 v5) w fun w =>
 LOADRES Try.prog 31 v3 w fun r => R r w
theorem by_classes_Classes_Table {c_1 : Value} {R : Value → World → Prop} {w : World} (h : sh_classes_Classes_Table c_1 NOPE R w) : RET Try.prog 54 [c_1] w R :=
  ⟨by kernel_rfl, calls_by [] Try.func54 (by kernel_rfl) (by kernel_rfl) (by kernel_rfl) h⟩

def sh_meter_Text_Len (t_1 : Value) (E : List PanicEntry → World → Prop) (R : Value → World → Prop) (w : World) : Prop :=
 PURE Try.prog (BINS .eql 94 (.tmp 3) (.const (.pointer Option.none)) t_1 (.pointer Option.none)) fun v2 =>
 COND v2 (
 R (.int .i64 0) w) (
 PURE Try.prog (NILS t_1) fun v3 =>
 PURE Try.prog (Instr.fieldAt 139 v3 1) fun v4 =>
 RUN Try.prog (Instr.loadAt 42 v4) w fun v5 w =>
 PURE Try.prog (Builtin.len_ #[42] 3 #[v5]) fun v6 =>
 R v6 w)
theorem by_meter_Text_Len {t_1 : Value} {R : Value → World → Prop} {w : World} (h : sh_meter_Text_Len t_1 NOPE R w) : RET Try.prog 55 [t_1] w R :=
  ⟨by kernel_rfl, calls_by [] Try.func55 (by kernel_rfl) (by kernel_rfl) (by kernel_rfl) h⟩

def sh_meter_Table_Look (t_1 state_2 c_3 : Value) (E : List PanicEntry → World → Prop) (R : Value → World → Prop) (w : World) : Prop :=
 PURE Try.prog (BINS .eql 96 (.tmp 7) (.const (.pointer Option.none)) t_1 (.pointer Option.none)) fun v4 =>
 COND v4 (
 R (.int .i64 (-1)) w) (
 PURE Try.prog (NILS t_1) fun v5 =>
 PURE Try.prog (Instr.fieldAt 145 v5 0) fun v6 =>
 RUN Try.prog (Instr.loadAt 47 v6) w fun v7 w =>
 CALL Try.prog 85 [v7] w E fun v8 w =>
 PURE Try.prog (NILS v8) fun v9 =>
 PURE Try.prog (Instr.fieldAt 52 v9 1) fun v10 =>
 RUN Try.prog (Instr.loadAt 3 v10) w fun v11 w =>
 PURE Try.prog (BINS .add 3 (.tmp 16) (.const (.int .i64 1)) v11 (.int .i64 1)) fun v12 =>
 PURE Try.prog (NILS v8) fun v13 =>
 PURE Try.prog (Instr.fieldAt 52 v13 1) fun v14 =>
 RUNU Try.prog (Instr.storeAt 3 v14 v12) w fun w =>
 PURE Try.prog (NILS t_1) fun v15 =>
 PURE Try.prog (Instr.fieldAt 145 v15 1) fun v16 =>
 RUN Try.prog (Instr.loadAt 143 v16) w fun v17 w =>
 PURE Try.prog (Instr.build 142 #[(0, state_2), (1, c_3)]) fun v18 =>
 CALLV Try.prog v17 [v18] w E fun v19 w =>
 R v19 w)
theorem by_meter_Table_Look {t_1 state_2 c_3 : Value} {R : Value → World → Prop} {w : World} (h : sh_meter_Table_Look t_1 state_2 c_3 NOPE R w) : RET Try.prog 56 [t_1, state_2, c_3] w R :=
  ⟨by kernel_rfl, calls_by [] Try.func56 (by kernel_rfl) (by kernel_rfl) (by kernel_rfl) h⟩

def sh_meter_Text_At (t_1 i_2 : Value) (E : List PanicEntry → World → Prop) (R : Value → World → Prop) (w : World) : Prop :=
 JOIN0 (fun J1 =>
 PURE Try.prog (BINS .lss 3 (.tmp 5) (.const (.int .i64 0)) i_2 (.int .i64 0)) fun v3 =>
 COND v3 (
 COND (.bool true) (
 R (.int .i64 (-1)) w) (
 J1 w)) (
 CALL Try.prog 55 [t_1] w E fun v4 w =>
 PURE Try.prog (BINS .geq 3 (.tmp 8) (.tmp 10) i_2 v4) fun v5 =>
 COND v5 (
 R (.int .i64 (-1)) w) (
 J1 w))) (fun w =>
 PURE Try.prog (NILS t_1) fun v6 =>
 PURE Try.prog (Instr.fieldAt 139 v6 0) fun v7 =>
 RUN Try.prog (Instr.loadAt 47 v7) w fun v8 w =>
 CALL Try.prog 85 [v8] w E fun v9 w =>
 PURE Try.prog (NILS v9) fun v10 =>
 PURE Try.prog (Instr.fieldAt 52 v10 0) fun v11 =>
 RUN Try.prog (Instr.loadAt 3 v11) w fun v12 w =>
 PURE Try.prog (BINS .add 3 (.tmp 20) (.const (.int .i64 1)) v12 (.int .i64 1)) fun v13 =>
 PURE Try.prog (NILS v9) fun v14 =>
 PURE Try.prog (Instr.fieldAt 52 v14 0) fun v15 =>
 RUNU Try.prog (Instr.storeAt 3 v15 v13) w fun w =>
 PURE Try.prog (NILS t_1) fun v16 =>
 PURE Try.prog (Instr.fieldAt 139 v16 1) fun v17 =>
 RUN Try.prog (Instr.loadAt 42 v17) w fun v18 w =>
 PURE Try.prog (Instr.indexAt 42 v18 i_2) fun v19 =>
 RUN Try.prog (Instr.loadAt 5 v19) w fun v20 w =>
 PURE Try.prog (convert 5 3 v20) fun v21 =>
 R v21 w)
theorem by_meter_Text_At {t_1 i_2 : Value} {R : Value → World → Prop} {w : World} (h : sh_meter_Text_At t_1 i_2 NOPE R w) : RET Try.prog 57 [t_1, i_2] w R :=
  ⟨by kernel_rfl, calls_by [(11003, [])] Try.func57 (by kernel_rfl) (by kernel_rfl) (by kernel_rfl) h⟩

def sh_links_Links_Ends (l_1 node_2 : Value) (E : List PanicEntry → World → Prop) (R : Value → World → Prop) (w : World) : Prop :=
 LOOP2 (fun node_3 out_4 w next1 =>
 CALL Try.prog 86 [l_1, node_3] w E fun v5 w =>
 COND v5 (
 JOIN1 (fun J2 =>
 PURE Try.prog (NILS l_1) fun v6 =>
 PURE Try.prog (Instr.fieldAt 127 v6 2) fun v7 =>
 RUN Try.prog (Instr.loadAt 72 v7) w fun v8 w =>
 PURE Try.prog (Instr.indexAt 72 v8 node_3) fun v9 =>
 RUN Try.prog (Instr.loadAt 3 v9) w fun v10 w =>
 PURE Try.prog (BINS .gtr 3 (.tmp 15) (.const (.int .i64 0)) v10 (.int .i64 0)) fun v11 =>
 COND v11 (
 PURE Try.prog (NILS l_1) fun v12 =>
 PURE Try.prog (Instr.fieldAt 127 v12 2) fun v13 =>
 RUN Try.prog (Instr.loadAt 72 v13) w fun v14 w =>
 PURE Try.prog (Instr.indexAt 72 v14 node_3) fun v15 =>
 RUN Try.prog (Instr.loadAt 3 v15) w fun v16 w =>
 RUN Try.prog (Instr.buildSlice 72 1 #[(0, v16)]) w fun v17 w =>
 RUN Try.prog (Builtin.append_ #[72, 72] 72 #[out_4, v17]) w fun v18 w =>
 J2 v18 w) (
 J2 out_4 w)) (fun out_19 w =>
 PURE Try.prog (NILS l_1) fun v20 =>
 PURE Try.prog (Instr.fieldAt 127 v20 1) fun v21 =>
 RUN Try.prog (Instr.loadAt 72 v21) w fun v22 w =>
 PURE Try.prog (Instr.indexAt 72 v22 node_3) fun v23 =>
 RUN Try.prog (Instr.loadAt 3 v23) w fun v24 w =>
 next1 v24 out_19 w)) (
 R out_4 w)) node_2 (.slice Option.none 0 0) w
theorem by_links_Links_Ends {l_1 node_2 : Value} {R : Value → World → Prop} {w : World} (h : sh_links_Links_Ends l_1 node_2 NOPE R w) : RET Try.prog 58 [l_1, node_2] w R :=
  ⟨by kernel_rfl, calls_by [(2, [1, 5]), (13005, [5])] Try.func58 (by kernel_rfl) (by kernel_rfl) (by kernel_rfl) h⟩

def sh_pairs_Sort (l_1 : Value) (E : List PanicEntry → World → Prop) (R : Value → World → Prop) (w : World) : Prop :=
 PURE Try.prog (Builtin.len_ #[49] 3 #[l_1]) fun v2 =>
 PURE Try.prog (BINS .lss 3 (.tmp 5) (.const (.int .i64 2)) v2 (.int .i64 2)) fun v3 =>
 COND v3 (
 CALL Try.prog 87 [l_1] w E fun v4 w =>
 R v4 w) (
 PURE Try.prog (Builtin.len_ #[49] 3 #[l_1]) fun v5 =>
 PURE Try.prog (BINS .quo 3 (.tmp 10) (.const (.int .i64 2)) v5 (.int .i64 2)) fun v6 =>
 DRAWQ w fun S w =>
 PURE Try.prog (Instr.sliceAt 49 l_1 none (some v6) none) fun v7 =>
 PURE Try.prog (Instr.sliceAt 49 l_1 (some v6) none none) fun v8 =>
 CALL Try.prog 59 [v7] w E fun v9 w =>
 CALL Try.prog 59 [v8] w E fun v10 w =>
 CALL Try.prog 88 [v9, v10, (.func (.func 89) #[] #[])] w E fun v11 w =>
 R v11 w)
theorem by_pairs_Sort {l_1 : Value} {R : Value → World → Prop} {w : World} (h : sh_pairs_Sort l_1 NOPE R w) : RET Try.prog 59 [l_1] w R :=
  ⟨by kernel_rfl, calls_by [] Try.func59 (by kernel_rfl) (by kernel_rfl) (by kernel_rfl) h⟩

def sh_twoway_Two_Next (t_1 line_2 from_3 : Value) (E : List PanicEntry → World → Prop) (R : Value → World → Prop) (w : World) : Prop :=
 JOIN0 (fun J1 =>
 PURE Try.prog (BINS .eql 56 (.tmp 7) (.const (.pointer Option.none)) t_1 (.pointer Option.none)) fun v4 =>
 COND v4 (
 COND (.bool true) (
 R (.int .i64 (-1)) w) (
 J1 w)) (
 PURE Try.prog (Builtin.len_ #[42] 3 #[line_2]) fun v5 =>
 PURE Try.prog (BINS .gtr 3 (.tmp 10) (.tmp 12) from_3 v5) fun v6 =>
 COND v6 (
 R (.int .i64 (-1)) w) (
 J1 w))) (fun w =>
 PURE Try.prog (NILS t_1) fun v7 =>
 PURE Try.prog (Instr.fieldAt 108 v7 2) fun v8 =>
 RUN Try.prog (Instr.loadAt 106 v8) w fun v9 w =>
 PURE Try.prog (Builtin.max_ #[3, 3] 3 #[from_3, (.int .i64 0)]) fun v10 =>
 CALLV Try.prog v9 [t_1, line_2, v10] w E fun v11 w =>
 R v11 w)
theorem by_twoway_Two_Next {t_1 line_2 from_3 : Value} {R : Value → World → Prop} {w : World} (h : sh_twoway_Two_Next t_1 line_2 from_3 NOPE R w) : RET Try.prog 60 [t_1, line_2, from_3] w R :=
  ⟨by kernel_rfl, calls_by [(11003, [])] Try.func60 (by kernel_rfl) (by kernel_rfl) (by kernel_rfl) h⟩

def sh_slices_Clone_byte_byte (s_1 : Value) (E : List PanicEntry → World → Prop) (R : Value → World → Prop) (w : World) : Prop :=
 PURE Try.prog (BINS .eql 42 (.tmp 3) (.const (.slice Option.none 0 0)) s_1 (.slice Option.none 0 0)) fun v2 =>
 COND v2 (
 R (.slice Option.none 0 0) w) (
 RUN Try.prog (Instr.buildSlice 42 0 #[]) w fun v3 w =>
 RUN Try.prog (Builtin.append_ #[42, 42] 42 #[v3, s_1]) w fun v4 w =>
 R v4 w)
theorem by_slices_Clone_byte_byte {s_1 : Value} {R : Value → World → Prop} {w : World} (h : sh_slices_Clone_byte_byte s_1 NOPE R w) : RET Try.prog 61 [s_1] w R :=
  ⟨by kernel_rfl, calls_by [] Try.func61 (by kernel_rfl) (by kernel_rfl) (by kernel_rfl) h⟩

def sh_critical_Factor (b_1 : Value) (E : List PanicEntry → World → Prop) (R : Value → World → Prop) (w : World) : Prop :=
 RUN Try.prog (Instr.alloc 104 true (.tuple #[])) w fun v2 w =>
 CALL Try.prog 90 [b_1] w E fun v3 w =>
 RUN Try.prog (Instr.alloc 104 true (.tuple #[])) w fun s_4 w =>
 RUNU Try.prog (Instr.storeAt 104 s_4 v3) w fun w =>
 RUN Try.prog (Instr.loadAt 104 s_4) w fun v5 w =>
 PURE Try.prog (Instr.build 104 #[]) fun v6 =>
 PURE Try.prog (BINS .eql 104 (.tmp 7) (.tmp 8) v5 v6) fun v7 =>
 COND v7 (
 RUN Try.prog (Instr.loadAt 104 s_4) w fun v8 w =>
 RUNU Try.prog (Instr.storeAt 104 v2 v8) w fun w =>
 LOADRES Try.prog 104 v2 w fun r => R r w) (
 PURE Try.prog (Instr.makeFunc (Go.Fn.func 91) #[b_1] #[]) fun v9 =>
 PURE Try.prog (Instr.fieldAt 104 s_4 1) fun v10 =>
 RUN Try.prog (Instr.loadAt 3 v10) w fun v11 w =>
 PURE Try.prog (Instr.fieldAt 104 s_4 0) fun v12 =>
 RUN Try.prog (Instr.loadAt 3 v12) w fun v13 w =>
 CALLV Try.prog v9 [(.int .i64 0), v11, v13] w E fun v14 w =>
 PURE Try.prog (Instr.fieldAt 104 s_4 2) fun v15 =>
 RUNU Try.prog (Instr.storeAt 4 v15 v14) w fun w =>
 PURE Try.prog (Instr.fieldAt 104 s_4 2) fun v16 =>
 RUN Try.prog (Instr.loadAt 4 v16) w fun v17 w =>
 PURE Try.prog (Op.unary .not v17) fun v18 =>
 COND v18 (
 PURE Try.prog (Instr.fieldAt 104 s_4 0) fun v19 =>
 RUN Try.prog (Instr.loadAt 3 v19) w fun v20 w =>
 PURE Try.prog (Builtin.len_ #[42] 3 #[b_1]) fun v21 =>
 PURE Try.prog (Instr.fieldAt 104 s_4 0) fun v22 =>
 RUN Try.prog (Instr.loadAt 3 v22) w fun v23 w =>
 PURE Try.prog (BINS .sub 3 (.tmp 26) (.tmp 28) v21 v23) fun v24 =>
 PURE Try.prog (Builtin.max_ #[3, 3] 3 #[v20, v24]) fun v25 =>
 PURE Try.prog (BINS .add 3 (.tmp 30) (.const (.int .i64 1)) v25 (.int .i64 1)) fun v26 =>
 PURE Try.prog (Instr.fieldAt 104 s_4 1) fun v27 =>
 RUNU Try.prog (Instr.storeAt 3 v27 v26) w fun w =>
 RUN Try.prog (Instr.loadAt 104 s_4) w fun v28 w =>
 RUNU Try.prog (Instr.storeAt 104 v2 v28) w fun w =>
 LOADRES Try.prog 104 v2 w fun r => R r w) (
 RUN Try.prog (Instr.loadAt 104 s_4) w fun v29 w =>
 RUNU Try.prog (Instr.storeAt 104 v2 v29) w fun w =>
 LOADRES Try.prog 104 v2 w fun r => R r w))
theorem by_critical_Factor {b_1 : Value} {R : Value → World → Prop} {w : World} (h : sh_critical_Factor b_1 NOPE R w) : RET Try.prog 62 [b_1] w R :=
  ⟨by kernel_rfl, calls_by [] Try.func62 (by kernel_rfl) (by kernel_rfl) (by kernel_rfl) h⟩

def sh_twoway_Two_plain (t_1 line_2 at_3 : Value) (E : List PanicEntry → World → Prop) (R : Value → World → Prop) (w : World) : Prop :=
 LOOP1 (fun at_4 w next1 =>
 PURE Try.prog (NILS t_1) fun v5 =>
 PURE Try.prog (Instr.fieldAt 108 v5 0) fun v6 =>
 RUN Try.prog (Instr.loadAt 42 v6) w fun v7 w =>
 PURE Try.prog (Builtin.len_ #[42] 3 #[v7]) fun v8 =>
 PURE Try.prog (BINS .add 3 (.tmp 8) (.tmp 13) at_4 v8) fun v9 =>
 PURE Try.prog (Builtin.len_ #[42] 3 #[line_2]) fun v10 =>
 PURE Try.prog (BINS .leq 3 (.tmp 14) (.tmp 16) v9 v10) fun v11 =>
 COND v11 (
 PURE Try.prog (NILS t_1) fun v12 =>
 PURE Try.prog (Instr.fieldAt 108 v12 1) fun v13 =>
 PURE Try.prog (Instr.fieldAt 104 v13 0) fun v14 =>
 RUN Try.prog (Instr.loadAt 3 v14) w fun v15 w =>
 CALL Try.prog 92 [t_1, line_2, at_4, v15] w E fun v16 w =>
 PURE Try.prog (NILS t_1) fun v17 =>
 PURE Try.prog (Instr.fieldAt 108 v17 0) fun v18 =>
 RUN Try.prog (Instr.loadAt 42 v18) w fun v19 w =>
 PURE Try.prog (Builtin.len_ #[42] 3 #[v19]) fun v20 =>
 PURE Try.prog (BINS .lss 3 (.tmp 27) (.tmp 32) v16 v20) fun v21 =>
 COND v21 (
 PURE Try.prog (NILS t_1) fun v22 =>
 PURE Try.prog (Instr.fieldAt 108 v22 1) fun v23 =>
 PURE Try.prog (Instr.fieldAt 104 v23 0) fun v24 =>
 RUN Try.prog (Instr.loadAt 3 v24) w fun v25 w =>
 PURE Try.prog (BINS .sub 3 (.tmp 35) (.tmp 40) v16 v25) fun v26 =>
 PURE Try.prog (BINS .add 3 (.tmp 41) (.const (.int .i64 1)) v26 (.int .i64 1)) fun v27 =>
 PURE Try.prog (BINS .add 3 (.tmp 34) (.tmp 42) at_4 v27) fun v28 =>
 next1 v28 w) (
 CALL Try.prog 93 [t_1, line_2, at_4, (.int .i64 0)] w E fun v29 w =>
 COND v29 (
 R at_4 w) (
 PURE Try.prog (NILS t_1) fun v30 =>
 PURE Try.prog (Instr.fieldAt 108 v30 1) fun v31 =>
 PURE Try.prog (Instr.fieldAt 104 v31 1) fun v32 =>
 RUN Try.prog (Instr.loadAt 3 v32) w fun v33 w =>
 PURE Try.prog (BINS .add 3 (.tmp 49) (.tmp 54) at_4 v33) fun v34 =>
 next1 v34 w))) (
 R (.int .i64 (-1)) w)) at_3 w
theorem by_twoway_Two_plain {t_1 line_2 at_3 : Value} {R : Value → World → Prop} {w : World} (h : sh_twoway_Two_plain t_1 line_2 at_3 NOPE R w) : RET Try.prog 63 [t_1, line_2, at_3] w R :=
  ⟨by kernel_rfl, calls_by [(1, [2])] Try.func63 (by kernel_rfl) (by kernel_rfl) (by kernel_rfl) h⟩

def sh_twoway_Two_lapped (t_1 line_2 at_3 : Value) (E : List PanicEntry → World → Prop) (R : Value → World → Prop) (w : World) : Prop :=
 LOOP2 (fun at_4 known_5 w next1 =>
 PURE Try.prog (NILS t_1) fun v6 =>
 PURE Try.prog (Instr.fieldAt 108 v6 0) fun v7 =>
 RUN Try.prog (Instr.loadAt 42 v7) w fun v8 w =>
 PURE Try.prog (Builtin.len_ #[42] 3 #[v8]) fun v9 =>
 PURE Try.prog (BINS .add 3 (.tmp 9) (.tmp 14) at_4 v9) fun v10 =>
 PURE Try.prog (Builtin.len_ #[42] 3 #[line_2]) fun v11 =>
 PURE Try.prog (BINS .leq 3 (.tmp 15) (.tmp 17) v10 v11) fun v12 =>
 COND v12 (
 PURE Try.prog (NILS t_1) fun v13 =>
 PURE Try.prog (Instr.fieldAt 108 v13 1) fun v14 =>
 PURE Try.prog (Instr.fieldAt 104 v14 0) fun v15 =>
 RUN Try.prog (Instr.loadAt 3 v15) w fun v16 w =>
 PURE Try.prog (Builtin.max_ #[3, 3] 3 #[v16, known_5]) fun v17 =>
 CALL Try.prog 92 [t_1, line_2, at_4, v17] w E fun v18 w =>
 PURE Try.prog (NILS t_1) fun v19 =>
 PURE Try.prog (Instr.fieldAt 108 v19 0) fun v20 =>
 RUN Try.prog (Instr.loadAt 42 v20) w fun v21 w =>
 PURE Try.prog (Builtin.len_ #[42] 3 #[v21]) fun v22 =>
 PURE Try.prog (BINS .lss 3 (.tmp 30) (.tmp 35) v18 v22) fun v23 =>
 COND v23 (
 PURE Try.prog (NILS t_1) fun v24 =>
 PURE Try.prog (Instr.fieldAt 108 v24 1) fun v25 =>
 PURE Try.prog (Instr.fieldAt 104 v25 0) fun v26 =>
 RUN Try.prog (Instr.loadAt 3 v26) w fun v27 w =>
 PURE Try.prog (BINS .sub 3 (.tmp 38) (.tmp 43) v18 v27) fun v28 =>
 PURE Try.prog (BINS .add 3 (.tmp 44) (.const (.int .i64 1)) v28 (.int .i64 1)) fun v29 =>
 PURE Try.prog (BINS .add 3 (.tmp 37) (.tmp 45) at_4 v29) fun v30 =>
 next1 v30 (.int .i64 0) w) (
 CALL Try.prog 93 [t_1, line_2, at_4, known_5] w E fun v31 w =>
 COND v31 (
 R at_4 w) (
 PURE Try.prog (NILS t_1) fun v32 =>
 PURE Try.prog (Instr.fieldAt 108 v32 1) fun v33 =>
 PURE Try.prog (Instr.fieldAt 104 v33 1) fun v34 =>
 RUN Try.prog (Instr.loadAt 3 v34) w fun v35 w =>
 PURE Try.prog (BINS .add 3 (.tmp 53) (.tmp 58) at_4 v35) fun v36 =>
 DRAWQ w fun S w =>
 PURE Try.prog (NILS t_1) fun v37 =>
 PURE Try.prog (Instr.fieldAt 108 v37 0) fun v38 =>
 READ Try.prog S (Instr.loadAt 42 v38) w fun v39 =>
 PURE Try.prog (Builtin.len_ #[42] 3 #[v39]) fun v40 =>
 PURE Try.prog (NILS t_1) fun v41 =>
 PURE Try.prog (Instr.fieldAt 108 v41 1) fun v42 =>
 PURE Try.prog (Instr.fieldAt 104 v42 1) fun v43 =>
 READ Try.prog S (Instr.loadAt 3 v43) w fun v44 =>
 PURE Try.prog (BINS .sub 3 (.tmp 64) (.tmp 69) v40 v44) fun v45 =>
 next1 v36 v45 w))) (
 R (.int .i64 (-1)) w)) at_3 (.int .i64 0) w
theorem by_twoway_Two_lapped {t_1 line_2 at_3 : Value} {R : Value → World → Prop} {w : World} (h : sh_twoway_Two_lapped t_1 line_2 at_3 NOPE R w) : RET Try.prog 64 [t_1, line_2, at_3] w R :=
  ⟨by kernel_rfl, calls_by [(2, [2, 7])] Try.func64 (by kernel_rfl) (by kernel_rfl) (by kernel_rfl) h⟩

def sh_trie_Trie_Parent (t_1 node_2 : Value) (E : List PanicEntry → World → Prop) (R : Value → World → Prop) (w : World) : Prop :=
 CALL Try.prog 81 [t_1, node_2] w E fun v3 w =>
 PURE Try.prog (Op.unary .not v3) fun v4 =>
 COND v4 (
 R (.int .i64 (-1)) w) (
 PURE Try.prog (NILS t_1) fun v5 =>
 PURE Try.prog (Instr.fieldAt 91 v5 0) fun v6 =>
 RUN Try.prog (Instr.loadAt 88 v6) w fun v7 w =>
 PURE Try.prog (Instr.indexAt 88 v7 node_2) fun v8 =>
 PURE Try.prog (Instr.fieldAt 87 v8 0) fun v9 =>
 RUN Try.prog (Instr.loadAt 3 v9) w fun v10 w =>
 R v10 w)
theorem by_trie_Trie_Parent {t_1 node_2 : Value} {R : Value → World → Prop} {w : World} (h : sh_trie_Trie_Parent t_1 node_2 NOPE R w) : RET Try.prog 65 [t_1, node_2] w R :=
  ⟨by kernel_rfl, calls_by [] Try.func65 (by kernel_rfl) (by kernel_rfl) (by kernel_rfl) h⟩

def sh_meter_Meter_Sparse (m_1 l_2 : Value) (E : List PanicEntry → World → Prop) (R : Value → World → Prop) (w : World) : Prop :=
 RUN Try.prog (Instr.makeMap 154 none) w fun v3 w =>
 RUN Try.prog (Instr.alloc 154 true (.tuple #[])) w fun to_4 w =>
 RUNU Try.prog (Instr.storeAt 154 to_4 v3) w fun w =>
 PURE Try.prog (Builtin.len_ #[109] 3 #[l_2]) fun v5 =>
 LOOP1 (fun v6 w next1 =>
 PURE Try.prog (BINS .lss 3 (.tmp 11) (.tmp 10) v6 v5) fun v7 =>
 COND v7 (
 PURE Try.prog (Instr.indexAt 109 l_2 v6) fun v8 =>
 RUN Try.prog (Instr.loadAt 113 v8) w fun v9 w =>
 RUN Try.prog (Instr.alloc 113 true (.tuple #[])) w fun r_10 w =>
 RUNU Try.prog (Instr.storeAt 113 r_10 v9) w fun w =>
 RUN Try.prog (Instr.loadAt 154 to_4) w fun v11 w =>
 PURE Try.prog (Instr.fieldAt 113 r_10 0) fun v12 =>
 RUN Try.prog (Instr.loadAt 3 v12) w fun v13 w =>
 PURE Try.prog (Instr.fieldAt 113 r_10 1) fun v14 =>
 RUN Try.prog (Instr.loadAt 5 v14) w fun v15 w =>
 PURE Try.prog (Instr.build 142 #[(0, v13), (1, v15)]) fun v16 =>
 PURE Try.prog (Instr.fieldAt 113 r_10 2) fun v17 =>
 RUN Try.prog (Instr.loadAt 3 v17) w fun v18 w =>
 RUNU Try.prog (Instr.mapUpdate 154 v11 v16 v18) w fun w =>
 PURE Try.prog (BINS .add 3 (.tmp 11) (.const (.int .i64 1)) v6 (.int .i64 1)) fun v19 =>
 next1 v19 w) (
 PURE Try.prog (Instr.makeFunc (Go.Fn.func 94) #[] #[to_4]) fun v20 =>
 PURE Try.prog (Instr.build 145 #[(0, m_1), (1, v20)]) fun v21 =>
 RUN Try.prog (Instr.box 145 v21) w fun v22 w =>
 R v22 w)) (.int .i64 0) w
theorem by_meter_Meter_Sparse {m_1 l_2 : Value} {R : Value → World → Prop} {w : World} (h : sh_meter_Meter_Sparse m_1 l_2 NOPE R w) : RET Try.prog 66 [m_1, l_2] w R :=
  ⟨by kernel_rfl, calls_by [(3, [11])] Try.func66 (by kernel_rfl) (by kernel_rfl) (by kernel_rfl) h⟩

def sh_sparse_Automaton_step (a_1 edges_2 state_3 c_4 : Value) (E : List PanicEntry → World → Prop) (R : Value → World → Prop) (w : World) : Prop :=
 LOOP1 (fun state_5 w next1 =>
 CALL Try.prog 56 [edges_2, state_5, c_4] w E fun v6 w =>
 JOIN1 (fun J2 =>
 PURE Try.prog (BINS .lss 3 (.tmp 14) (.const (.int .i64 0)) v6 (.int .i64 0)) fun v7 =>
 COND v7 (
 PURE Try.prog (BINS .gtr 3 (.tmp 17) (.const (.int .i64 0)) state_5 (.int .i64 0)) fun v8 =>
 J2 v8 w) (
 J2 (.bool false) w)) (fun v9 w =>
 COND v9 (
 PURE Try.prog (NILS a_1) fun v10 =>
 PURE Try.prog (Instr.fieldAt 111 v10 1) fun v11 =>
 RUN Try.prog (Instr.loadAt 70 v11) w fun v12 w =>
 CALL Try.prog 77 [v12, state_5] w E fun v13 w =>
 next1 v13 w) (
 PURE Try.prog (Builtin.max_ #[3, 3] 3 #[v6, (.int .i64 0)]) fun v14 =>
 R v14 w))) state_3 w
theorem by_sparse_Automaton_step {a_1 edges_2 state_3 c_4 : Value} {R : Value → World → Prop} {w : World} (h : sh_sparse_Automaton_step a_1 edges_2 state_3 c_4 NOPE R w) : RET Try.prog 67 [a_1, edges_2, state_3, c_4] w R :=
  ⟨by kernel_rfl, calls_by [(1000, [2]), (12003, [19])] Try.func67 (by kernel_rfl) (by kernel_rfl) (by kernel_rfl) h⟩

def sh_cwalter_Walter_Ends (w_1 line_2 : Value) (E : List PanicEntry → World → Prop) (R : Value → World → Prop) (w : World) : Prop :=
 CALL Try.prog 71 [w_1, line_2] w E fun v3 w =>
 PURE Try.prog (Instr.extract v3 0) fun v4 =>
 PURE Try.prog (Instr.extract v3 1) fun v5 =>
 R v5 w
theorem by_cwalter_Walter_Ends {w_1 line_2 : Value} {R : Value → World → Prop} {w : World} (h : sh_cwalter_Walter_Ends w_1 line_2 NOPE R w) : RET Try.prog 68 [w_1, line_2] w R :=
  ⟨by kernel_rfl, calls_by [] Try.func68 (by kernel_rfl) (by kernel_rfl) (by kernel_rfl) h⟩

def sh_back_Build (l_1 : Value) (E : List PanicEntry → World → Prop) (R : Value → World → Prop) (w : World) : Prop :=
 PURE Try.prog (Instr.build 156 #[]) fun v2 =>
 RUN Try.prog (Instr.box 156 v2) w fun v3 w =>
 PURE Try.prog (Builtin.len_ #[22] 3 #[l_1]) fun v4 =>
 LOOP2 (fun texts_5 v6 w next1 =>
 PURE Try.prog (BINS .lss 3 (.tmp 14) (.tmp 13) v6 v4) fun v7 =>
 COND v7 (
 PURE Try.prog (Instr.indexAt 22 l_1 v6) fun v8 =>
 RUN Try.prog (Instr.loadAt 42 v8) w fun v9 w =>
 PURE Try.prog (Builtin.len_ #[42] 3 #[v9]) fun v10 =>
 PURE Try.prog (BINS .eql 3 (.tmp 19) (.const (.int .i64 0)) v10 (.int .i64 0)) fun v11 =>
 COND v11 (
 PURE Try.prog (BINS .add 3 (.tmp 14) (.const (.int .i64 1)) v6 (.int .i64 1)) fun v12 =>
 next1 texts_5 v12 w) (
 CALL Try.prog 96 [v9] w E fun v13 w =>
 RUN Try.prog (Instr.buildSlice 22 1 #[(0, v13)]) w fun v14 w =>
 RUN Try.prog (Builtin.append_ #[22, 22] 22 #[texts_5, v14]) w fun v15 w =>
 PURE Try.prog (NILS v3) fun v16 =>
 PURE Try.prog (Instr.fieldAt 156 v16 1) fun v17 =>
 RUN Try.prog (Instr.loadAt 3 v17) w fun v18 w =>
 PURE Try.prog (Builtin.len_ #[42] 3 #[v13]) fun v19 =>
 CALLV Try.prog (.func (.func 95) #[] #[]) [v18, v19] w E fun v20 w =>
 PURE Try.prog (NILS v3) fun v21 =>
 PURE Try.prog (Instr.fieldAt 156 v21 1) fun v22 =>
 RUNU Try.prog (Instr.storeAt 3 v22 v20) w fun w =>
 PURE Try.prog (Builtin.len_ #[42] 3 #[v13]) fun v23 =>
 LOOP1 (fun v24 w next2 =>
 PURE Try.prog (BINS .lss 3 (.tmp 40) (.tmp 39) v24 v23) fun v25 =>
 COND v25 (
 PURE Try.prog (Instr.indexAt 42 v13 v24) fun v26 =>
 RUN Try.prog (Instr.loadAt 5 v26) w fun v27 w =>
 DRAWQ w fun S w =>
 PURE Try.prog (NILS v3) fun v28 =>
 PURE Try.prog (Instr.fieldAt 156 v28 2) fun v29 =>
 PURE Try.prog (Instr.indexAt 31 v29 v27) fun v30 =>
 READ Try.prog S (Instr.loadAt 3 v30) w fun v31 =>
 PURE Try.prog (BINS .add 3 (.tmp 54) (.const (.int .i64 1)) v24 (.int .i64 1)) fun v32 =>
 PURE Try.prog (NILS v3) fun v33 =>
 PURE Try.prog (Instr.fieldAt 156 v33 2) fun v34 =>
 CALLV Try.prog (.func (.func 95) #[] #[]) [v31, v32] w E fun v35 w =>
 PURE Try.prog (Instr.indexAt 31 v34 v27) fun v36 =>
 RUNU Try.prog (Instr.storeAt 3 v36 v35) w fun w =>
 PURE Try.prog (BINS .add 3 (.tmp 40) (.const (.int .i64 1)) v24 (.int .i64 1)) fun v37 =>
 next2 v37 w) (
 PURE Try.prog (BINS .add 3 (.tmp 14) (.const (.int .i64 1)) v6 (.int .i64 1)) fun v38 =>
 next1 v15 v38 w)) (.int .i64 0) w)) (
 CALL Try.prog 22 [texts_5] w E fun v39 w =>
 PURE Try.prog (NILS v3) fun v40 =>
 PURE Try.prog (Instr.fieldAt 156 v40 0) fun v41 =>
 RUNU Try.prog (Instr.storeAt 45 v41 v39) w fun w =>
 R v3 w)) (.slice Option.none 0 0) (.int .i64 0) w
theorem by_back_Build {l_1 : Value} {R : Value → World → Prop} {w : World} (h : sh_back_Build l_1 NOPE R w) : RET Try.prog 69 [l_1] w R :=
  ⟨by kernel_rfl, calls_by [(5, [5, 14]), (12, [40])] Try.func69 (by kernel_rfl) (by kernel_rfl) (by kernel_rfl) h⟩

def sh_shifts_Build (b_1 : Value) (E : List PanicEntry → World → Prop) (R : Value → World → Prop) (w : World) : Prop :=
 PURE Try.prog (Instr.build 160 #[(0, b_1)]) fun v2 =>
 RUN Try.prog (Instr.box 160 v2) w fun v3 w =>
 CALL Try.prog 97 [b_1] w E fun v4 w =>
 PURE Try.prog (BINS .eql 3 (.tmp 10) (.const (.int .i64 0)) v4 (.int .i64 0)) fun v5 =>
 COND v5 (
 R v3 w) (
 PURE Try.prog (NILS b_1) fun v6 =>
 PURE Try.prog (Instr.fieldAt 156 v6 0) fun v7 =>
 RUN Try.prog (Instr.loadAt 45 v7) w fun v8 w =>
 CALL Try.prog 23 [v8] w E fun v9 w =>
 LOOP1 (fun v10 w next1 =>
 PURE Try.prog (BINS .lss 3 (.tmp 18) (.tmp 17) v10 v9) fun v11 =>
 COND v11 (
 DRAW w fun S w =>
 PURE Try.prog (NILS v3) fun v12 =>
 PURE Try.prog (Instr.fieldAt 160 v12 1) fun v13 =>
 READ Try.prog S (Instr.loadAt 158 v13) w fun v14 =>
 CALL Try.prog 97 [b_1] w E fun v15 w =>
 KEEPS S w fun S =>
 CALL Try.prog 97 [b_1] w E fun v16 w =>
 KEEPS S w fun S =>
 PURE Try.prog (Instr.build 161 #[(0, v15), (1, v16)]) fun v17 =>
 RUN Try.prog (Instr.buildSlice 158 1 #[(0, v17)]) w fun v18 w =>
 KEEPS S w fun S =>
 RUN Try.prog (Builtin.append_ #[158, 158] 158 #[v14, v18]) w fun v19 w =>
 PURE Try.prog (NILS v3) fun v20 =>
 PURE Try.prog (Instr.fieldAt 160 v20 1) fun v21 =>
 RUNU Try.prog (Instr.storeAt 158 v21 v19) w fun w =>
 PURE Try.prog (BINS .add 3 (.tmp 18) (.const (.int .i64 1)) v10 (.int .i64 1)) fun v22 =>
 next1 v22 w) (
 LOOP1 (fun w_23 w next2 =>
 PURE Try.prog (NILS b_1) fun v24 =>
 PURE Try.prog (Instr.fieldAt 156 v24 0) fun v25 =>
 RUN Try.prog (Instr.loadAt 45 v25) w fun v26 w =>
 CALL Try.prog 23 [v26] w E fun v27 w =>
 PURE Try.prog (BINS .lss 3 (.tmp 35) (.tmp 40) w_23 v27) fun v28 =>
 COND v28 (
 CALL Try.prog 98 [v3, w_23] w E fun v29 w =>
 PURE Try.prog (BINS .add 3 (.tmp 42) (.const (.int .i64 1)) w_23 (.int .i64 1)) fun v30 =>
 next2 v30 w) (
 LOOP1 (fun v_31 w next3 =>
 PURE Try.prog (NILS b_1) fun v32 =>
 PURE Try.prog (Instr.fieldAt 156 v32 0) fun v33 =>
 RUN Try.prog (Instr.loadAt 45 v33) w fun v34 w =>
 CALL Try.prog 23 [v34] w E fun v35 w =>
 PURE Try.prog (BINS .lss 3 (.tmp 47) (.tmp 52) v_31 v35) fun v36 =>
 COND v36 (
 DRAW w fun S w =>
 PURE Try.prog (NILS v3) fun v37 =>
 PURE Try.prog (Instr.fieldAt 160 v37 1) fun v38 =>
 READ Try.prog S (Instr.loadAt 158 v38) w fun v39 =>
 PURE Try.prog (NILS v3) fun v40 =>
 PURE Try.prog (Instr.fieldAt 160 v40 1) fun v41 =>
 READ Try.prog S (Instr.loadAt 158 v41) w fun v42 =>
 PURE Try.prog (Instr.indexAt 158 v42 v_31) fun v43 =>
 PURE Try.prog (Instr.indexAt 161 v43 (.int .i64 1)) fun v44 =>
 READ Try.prog S (Instr.loadAt 3 v44) w fun v45 =>
 PURE Try.prog (NILS v3) fun v46 =>
 PURE Try.prog (Instr.fieldAt 160 v46 1) fun v47 =>
 READ Try.prog S (Instr.loadAt 158 v47) w fun v48 =>
 PURE Try.prog (NILS b_1) fun v49 =>
 PURE Try.prog (Instr.fieldAt 156 v49 0) fun v50 =>
 READ Try.prog S (Instr.loadAt 45 v50) w fun v51 =>
 PURE Try.prog (Instr.indexAt 158 v39 v_31) fun v52 =>
 CALL Try.prog 65 [v51, v_31] w E fun v53 w =>
 KEEPS S w fun S =>
 PURE Try.prog (Instr.indexAt 158 v48 v53) fun v54 =>
 PURE Try.prog (Instr.indexAt 161 v54 (.int .i64 1)) fun v55 =>
 READ Try.prog S (Instr.loadAt 3 v55) w fun v56 =>
 PURE Try.prog (Builtin.min_ #[3, 3] 3 #[v45, v56]) fun v57 =>
 PURE Try.prog (Instr.indexAt 161 v52 (.int .i64 1)) fun v58 =>
 RUNU Try.prog (Instr.storeAt 3 v58 v57) w fun w =>
 PURE Try.prog (BINS .add 3 (.tmp 54) (.const (.int .i64 1)) v_31 (.int .i64 1)) fun v59 =>
 next3 v59 w) (
 R v3 w)) (.int .i64 1) w)) (.int .i64 1) w)) (.int .i64 0) w)
theorem by_shifts_Build {b_1 : Value} {R : Value → World → Prop} {w : World} (h : sh_shifts_Build b_1 NOPE R w) : RET Try.prog 70 [b_1] w R :=
  ⟨by kernel_rfl, calls_by [(5, [18]), (9, [4]), (13, [5])] Try.func70 (by kernel_rfl) (by kernel_rfl) (by kernel_rfl) h⟩

def sh_cwalter_Walter_walk (w_1 line_2 : Value) (E : List PanicEntry → World → Prop) (R : Value → World → Prop) (w : World) : Prop :=
 JOIN0 (fun J1 =>
 PURE Try.prog (BINS .eql 65 (.tmp 11) (.const (.pointer Option.none)) w_1 (.pointer Option.none)) fun v3 =>
 COND v3 (
 COND (.bool true) (
 R (.tuple #[(.slice Option.none 0 0), (.slice Option.none 0 0)]) w) (
 J1 w)) (
 PURE Try.prog (NILS w_1) fun v4 =>
 PURE Try.prog (Instr.fieldAt 122 v4 0) fun v5 =>
 RUN Try.prog (Instr.loadAt 117 v5) w fun v6 w =>
 CALL Try.prog 97 [v6] w E fun v7 w =>
 PURE Try.prog (BINS .eql 3 (.tmp 18) (.const (.int .i64 0)) v7 (.int .i64 0)) fun v8 =>
 COND v8 (
 R (.tuple #[(.slice Option.none 0 0), (.slice Option.none 0 0)]) w) (
 J1 w))) (fun w =>
 PURE Try.prog (NILS w_1) fun v9 =>
 PURE Try.prog (Instr.fieldAt 122 v9 0) fun v10 =>
 RUN Try.prog (Instr.loadAt 117 v10) w fun v11 w =>
 CALL Try.prog 97 [v11] w E fun v12 w =>
 LOOP3 (fun out_13 ends_14 end_15 w next2 =>
 PURE Try.prog (Builtin.len_ #[42] 3 #[line_2]) fun v16 =>
 PURE Try.prog (BINS .leq 3 (.tmp 26) (.tmp 28) end_15 v16) fun v17 =>
 COND v17 (
 CALL Try.prog 99 [w_1, line_2, end_15] w E fun v18 w =>
 PURE Try.prog (Instr.extract v18 0) fun v19 =>
 PURE Try.prog (Instr.extract v18 1) fun v20 =>
 RUN Try.prog (Builtin.append_ #[49, 49] 49 #[out_13, v19]) w fun v21 w =>
 RUN Try.prog (Instr.buildSlice 72 1 #[(0, end_15)]) w fun v22 w =>
 RUN Try.prog (Builtin.append_ #[72, 72] 72 #[ends_14, v22]) w fun v23 w =>
 PURE Try.prog (BINS .add 3 (.tmp 44) (.tmp 45) end_15 v20) fun v24 =>
 next2 v21 v23 v24 w) (
 R (.tuple #[out_13, ends_14]) w)) (.slice Option.none 0 0) (.slice Option.none 0 0) v12 w)
theorem by_cwalter_Walter_walk {w_1 line_2 : Value} {R : Value → World → Prop} {w : World} (h : sh_cwalter_Walter_walk w_1 line_2 NOPE R w) : RET Try.prog 71 [w_1, line_2] w R :=
  ⟨by kernel_rfl, calls_by [(1000, [6, 7, 8]), (13005, [])] Try.func71 (by kernel_rfl) (by kernel_rfl) (by kernel_rfl) h⟩

def sh_slices_Repeat_int_int (x_1 count_2 : Value) (E : List PanicEntry → World → Prop) (R : Value → World → Prop) (w : World) : Prop :=
 JOIN0 (fun J1 =>
 PURE Try.prog (BINS .lss 3 (.tmp 9) (.const (.int .i64 0)) count_2 (.int .i64 0)) fun v3 =>
 COND v3 (
 PURE Try.prog (Instr.makeInterface 9 (.string { data := #[99, 97, 110, 110, 111, 116, 32, 98, 101, 32, 110, 101, 103, 97, 116, 105, 118, 101] })) fun v4 =>
 PANIC v4 w E) (
 J1 w)) (fun w =>
 PURE Try.prog (Builtin.len_ #[72] 3 #[x_1]) fun v5 =>
 PURE Try.prog (convert 3 165 v5) fun v6 =>
 PURE Try.prog (convert 3 165 count_2) fun v7 =>
 CALL Try.prog 100 [v6, v7] w E fun v8 w =>
 PURE Try.prog (Instr.extract v8 0) fun v9 =>
 PURE Try.prog (Instr.extract v8 1) fun v10 =>
 JOIN0 (fun J2 =>
 PURE Try.prog (BINS .gtr 165 (.tmp 21) (.const (.int .u64 0)) v9 (.int .u64 0)) fun v11 =>
 COND v11 (
 COND (.bool true) (
 PURE Try.prog (Instr.makeInterface 9 (.string { data := #[116, 104, 101, 32, 114, 101, 115, 117, 108, 116, 32, 111, 102, 32, 40, 108, 101, 110, 40, 120, 41, 32, 42, 32, 99, 111, 117, 110, 116, 41, 32, 111, 118, 101, 114, 102, 108, 111, 119, 115] })) fun v12 =>
 PANIC v12 w E) (
 J2 w)) (
 PURE Try.prog (BINS .gtr 165 (.tmp 24) (.const (.int .u64 9223372036854775807)) v10 (.int .u64 9223372036854775807)) fun v13 =>
 COND v13 (
 PURE Try.prog (Instr.makeInterface 9 (.string { data := #[116, 104, 101, 32, 114, 101, 115, 117, 108, 116, 32, 111, 102, 32, 40, 108, 101, 110, 40, 120, 41, 32, 42, 32, 99, 111, 117, 110, 116, 41, 32, 111, 118, 101, 114, 102, 108, 111, 119, 115] })) fun v14 =>
 PANIC v14 w E) (
 J2 w))) (fun w =>
 PURE Try.prog (convert 165 3 v10) fun v15 =>
 RUN Try.prog (Instr.makeSlice 72 v15 v15) w fun v16 w =>
 RUN Try.prog (Builtin.copy_ #[72, 72] 3 #[v16, x_1]) w fun v17 w =>
 LOOP1 (fun n_18 w next3 =>
 PURE Try.prog (Builtin.len_ #[72] 3 #[v16]) fun v19 =>
 PURE Try.prog (BINS .lss 3 (.tmp 34) (.tmp 36) n_18 v19) fun v20 =>
 COND v20 (
 DRAWQ w fun S w =>
 PURE Try.prog (Instr.sliceAt 72 v16 (some n_18) none none) fun v21 =>
 PURE Try.prog (Instr.sliceAt 72 v16 none (some n_18) none) fun v22 =>
 RUN Try.prog (Builtin.copy_ #[72, 72] 3 #[v21, v22]) w fun v23 w =>
 PURE Try.prog (BINS .add 3 (.tmp 38) (.tmp 45) n_18 v23) fun v24 =>
 next3 v24 w) (
 R v16 w)) v17 w))
theorem by_slices_Repeat_int_int {x_1 count_2 : Value} {R : Value → World → Prop} {w : World} (h : sh_slices_Repeat_int_int x_1 count_2 NOPE R w) : RET Try.prog 72 [x_1, count_2] w R :=
  ⟨by kernel_rfl, calls_by [(8, [8]), (11003, []), (14006, [])] Try.func72 (by kernel_rfl) (by kernel_rfl) (by kernel_rfl) h⟩

def sh_trie_Trie_Kids (t_1 node_2 : Value) (E : List PanicEntry → World → Prop) (R : Value → World → Prop) (w : World) : Prop :=
 LOOP2 (fun out_3 v4 w next1 =>
 PURE Try.prog (BINS .lss 3 (.tmp 7) (.const (.int .i64 256)) v4 (.int .i64 256)) fun v5 =>
 COND v5 (
 PURE Try.prog (convert 3 5 v4) fun v6 =>
 CALL Try.prog 74 [t_1, node_2, v6] w E fun v7 w =>
 PURE Try.prog (BINS .geq 3 (.tmp 14) (.const (.int .i64 0)) v7 (.int .i64 0)) fun v8 =>
 COND v8 (
 PURE Try.prog (convert 3 5 v4) fun v9 =>
 RUN Try.prog (Instr.buildSlice 42 1 #[(0, v9)]) w fun v10 w =>
 RUN Try.prog (Builtin.append_ #[42, 42] 42 #[out_3, v10]) w fun v11 w =>
 PURE Try.prog (BINS .add 3 (.tmp 7) (.const (.int .i64 1)) v4 (.int .i64 1)) fun v12 =>
 next1 v11 v12 w) (
 PURE Try.prog (BINS .add 3 (.tmp 7) (.const (.int .i64 1)) v4 (.int .i64 1)) fun v13 =>
 next1 out_3 v13 w)) (
 R out_3 w)) (.slice Option.none 0 0) (.int .i64 0) w
theorem by_trie_Trie_Kids {t_1 node_2 : Value} {R : Value → World → Prop} {w : World} (h : sh_trie_Trie_Kids t_1 node_2 NOPE R w) : RET Try.prog 73 [t_1, node_2] w R :=
  ⟨by kernel_rfl, calls_by [(3, [5, 7])] Try.func73 (by kernel_rfl) (by kernel_rfl) (by kernel_rfl) h⟩

def sh_trie_Trie_Step (t_1 node_2 c_3 : Value) (E : List PanicEntry → World → Prop) (R : Value → World → Prop) (w : World) : Prop :=
 CALL Try.prog 81 [t_1, node_2] w E fun v4 w =>
 COND v4 (
 PURE Try.prog (NILS t_1) fun v5 =>
 PURE Try.prog (Instr.fieldAt 91 v5 1) fun v6 =>
 RUN Try.prog (Instr.loadAt 89 v6) w fun v7 w =>
 PURE Try.prog (Instr.build 136 #[(0, node_2), (1, c_3)]) fun v8 =>
 RUN Try.prog (Instr.lookup 89 v7 v8 Bool.true) w fun v9 w =>
 PURE Try.prog (Instr.extract v9 0) fun v10 =>
 PURE Try.prog (Instr.extract v9 1) fun v11 =>
 COND v11 (
 R v10 w) (
 R (.int .i64 (-1)) w)) (
 R (.int .i64 (-1)) w)
theorem by_trie_Trie_Step {t_1 node_2 c_3 : Value} {R : Value → World → Prop} {w : World} (h : sh_trie_Trie_Step t_1 node_2 c_3 NOPE R w) : RET Try.prog 74 [t_1, node_2, c_3] w R :=
  ⟨by kernel_rfl, calls_by [] Try.func74 (by kernel_rfl) (by kernel_rfl) (by kernel_rfl) h⟩

def sh_links_Links_link (l_1 t_2 at_3 : Value) (E : List PanicEntry → World → Prop) (R : Value → World → Prop) (w : World) : Prop :=
 RUN Try.prog (Instr.box 70 l_1) w fun l_4 w =>
 RUN Try.prog (Instr.box 45 t_2) w fun t_5 w =>
 RUN Try.prog (Instr.loadAt 45 t_5) w fun v6 w =>
 CALL Try.prog 50 [v6, at_3] w E fun v7 w =>
 PURE Try.prog (Builtin.len_ #[42] 3 #[v7]) fun v8 =>
 PURE Try.prog (BINS .sub 3 (.tmp 15) (.const (.int .i64 1)) v8 (.int .i64 1)) fun v9 =>
 PURE Try.prog (Instr.indexAt 42 v7 v9) fun v10 =>
 RUN Try.prog (Instr.loadAt 5 v10) w fun v11 w =>
 RUN Try.prog (Instr.alloc 5 true (.tuple #[])) w fun c_12 w =>
 RUNU Try.prog (Instr.storeAt 5 c_12 v11) w fun w =>
 PURE Try.prog (Instr.makeFunc (Go.Fn.func 101) #[] #[l_4, t_5, c_12]) fun v13 =>
 RUN Try.prog (Instr.loadAt 45 t_5) w fun v14 w =>
 CALL Try.prog 65 [v14, at_3] w E fun v15 w =>
 CALLV Try.prog v13 [v15] w E fun v16 w =>
 RUN Try.prog (Instr.loadAt 70 l_4) w fun v17 w =>
 PURE Try.prog (NILS v17) fun v18 =>
 PURE Try.prog (Instr.fieldAt 127 v18 0) fun v19 =>
 RUN Try.prog (Instr.loadAt 72 v19) w fun v20 w =>
 PURE Try.prog (Instr.indexAt 72 v20 at_3) fun v21 =>
 RUNU Try.prog (Instr.storeAt 3 v21 v16) w fun w =>
 RUN Try.prog (Instr.loadAt 70 l_4) w fun v22 w =>
 PURE Try.prog (NILS v22) fun v23 =>
 PURE Try.prog (Instr.fieldAt 127 v23 1) fun v24 =>
 RUN Try.prog (Instr.loadAt 72 v24) w fun v25 w =>
 PURE Try.prog (Instr.indexAt 72 v25 at_3) fun v26 =>
 RUNU Try.prog (Instr.storeAt 3 v26 v16) w fun w =>
 JOIN0 (fun J1 =>
 RUN Try.prog (Instr.loadAt 70 l_4) w fun v27 w =>
 PURE Try.prog (NILS v27) fun v28 =>
 PURE Try.prog (Instr.fieldAt 127 v28 2) fun v29 =>
 RUN Try.prog (Instr.loadAt 72 v29) w fun v30 w =>
 PURE Try.prog (Instr.indexAt 72 v30 v16) fun v31 =>
 RUN Try.prog (Instr.loadAt 3 v31) w fun v32 w =>
 PURE Try.prog (BINS .eql 3 (.tmp 45) (.const (.int .i64 0)) v32 (.int .i64 0)) fun v33 =>
 COND v33 (
 DRAWQ w fun S w =>
 READ Try.prog S (Instr.loadAt 70 l_4) w fun v34 =>
 PURE Try.prog (NILS v34) fun v35 =>
 PURE Try.prog (Instr.fieldAt 127 v35 1) fun v36 =>
 READ Try.prog S (Instr.loadAt 72 v36) w fun v37 =>
 READ Try.prog S (Instr.loadAt 70 l_4) w fun v38 =>
 PURE Try.prog (NILS v38) fun v39 =>
 PURE Try.prog (Instr.fieldAt 127 v39 1) fun v40 =>
 READ Try.prog S (Instr.loadAt 72 v40) w fun v41 =>
 PURE Try.prog (Instr.indexAt 72 v41 v16) fun v42 =>
 READ Try.prog S (Instr.loadAt 3 v42) w fun v43 =>
 PURE Try.prog (Instr.indexAt 72 v37 at_3) fun v44 =>
 RUNU Try.prog (Instr.storeAt 3 v44 v43) w fun w =>
 J1 w) (
 J1 w)) (fun w =>
 RUN Try.prog (Instr.loadAt 45 t_5) w fun v45 w =>
 CALL Try.prog 102 [v45, at_3] w E fun v46 w =>
 PURE Try.prog (BINS .geq 3 (.tmp 62) (.const (.int .i64 0)) v46 (.int .i64 0)) fun v47 =>
 COND v47 (
 RUN Try.prog (Instr.loadAt 70 l_4) w fun v48 w =>
 PURE Try.prog (NILS v48) fun v49 =>
 PURE Try.prog (Instr.fieldAt 127 v49 2) fun v50 =>
 RUN Try.prog (Instr.loadAt 72 v50) w fun v51 w =>
 PURE Try.prog (Builtin.len_ #[42] 3 #[v7]) fun v52 =>
 PURE Try.prog (Instr.indexAt 72 v51 at_3) fun v53 =>
 RUNU Try.prog (Instr.storeAt 3 v53 v52) w fun w =>
 R (.tuple #[]) w) (
 R (.tuple #[]) w))
theorem by_links_Links_link {l_1 t_2 at_3 : Value} {R : Value → World → Prop} {w : World} (h : sh_links_Links_link l_1 t_2 at_3 NOPE R w) : RET Try.prog 75 [l_1, t_2, at_3] w R :=
  ⟨by kernel_rfl, calls_by [(17009, [])] Try.func75 (by kernel_rfl) (by kernel_rfl) (by kernel_rfl) h⟩

def sh_links_Links_Order (l_1 : Value) (E : List PanicEntry → World → Prop) (R : Value → World → Prop) (w : World) : Prop :=
 PURE Try.prog (BINS .eql 70 (.tmp 3) (.const (.pointer Option.none)) l_1 (.pointer Option.none)) fun v2 =>
 COND v2 (
 R (.slice Option.none 0 0) w) (
 PURE Try.prog (NILS l_1) fun v3 =>
 PURE Try.prog (Instr.fieldAt 127 v3 3) fun v4 =>
 RUN Try.prog (Instr.loadAt 72 v4) w fun v5 w =>
 CALL Try.prog 83 [v5] w E fun v6 w =>
 R v6 w)
theorem by_links_Links_Order {l_1 : Value} {R : Value → World → Prop} {w : World} (h : sh_links_Links_Order l_1 NOPE R w) : RET Try.prog 76 [l_1] w R :=
  ⟨by kernel_rfl, calls_by [] Try.func76 (by kernel_rfl) (by kernel_rfl) (by kernel_rfl) h⟩

def sh_links_Links_Fail (l_1 node_2 : Value) (E : List PanicEntry → World → Prop) (R : Value → World → Prop) (w : World) : Prop :=
 CALL Try.prog 86 [l_1, node_2] w E fun v3 w =>
 PURE Try.prog (Op.unary .not v3) fun v4 =>
 COND v4 (
 R (.int .i64 (-1)) w) (
 PURE Try.prog (NILS l_1) fun v5 =>
 PURE Try.prog (Instr.fieldAt 127 v5 0) fun v6 =>
 RUN Try.prog (Instr.loadAt 72 v6) w fun v7 w =>
 PURE Try.prog (Instr.indexAt 72 v7 node_2) fun v8 =>
 RUN Try.prog (Instr.loadAt 3 v8) w fun v9 w =>
 R v9 w)
theorem by_links_Links_Fail {l_1 node_2 : Value} {R : Value → World → Prop} {w : World} (h : sh_links_Links_Fail l_1 node_2 NOPE R w) : RET Try.prog 77 [l_1, node_2] w R :=
  ⟨by kernel_rfl, calls_by [] Try.func77 (by kernel_rfl) (by kernel_rfl) (by kernel_rfl) h⟩

def sh_fold_Set_With (s_1 c_2 : Value) (E : List PanicEntry → World → Prop) (R : Value → World → Prop) (w : World) : Prop :=
 RUN Try.prog (Instr.box 77 s_1) w fun s_3 w =>
 RUN Try.prog (Instr.alloc 77 true (.tuple #[])) w fun v4 w =>
 PURE Try.prog (BINS .quo 5 (.tmp 5) (.const (.int .u8 64)) c_2 (.int .u8 64)) fun v5 =>
 PURE Try.prog (Instr.indexAt 77 s_3 v5) fun v6 =>
 RUN Try.prog (Instr.loadAt 75 v6) w fun v7 w =>
 PURE Try.prog (BINS .rem 5 (.tmp 9) (.const (.int .u8 64)) c_2 (.int .u8 64)) fun v8 =>
 PURE Try.prog (BINS .shl 75 (.const (.int .u64 1)) (.tmp 10) (.int .u64 1) v8) fun v9 =>
 PURE Try.prog (BINS .or 75 (.tmp 8) (.tmp 11) v7 v9) fun v10 =>
 PURE Try.prog (Instr.indexAt 77 s_3 v5) fun v11 =>
 RUNU Try.prog (Instr.storeAt 75 v11 v10) w fun w =>
 RUN Try.prog (Instr.loadAt 77 s_3) w fun v12 w =>
 RUNU Try.prog (Instr.storeAt 77 v4 v12) w fun w =>
 LOADRES Try.prog 77 v4 w fun r => R r w
theorem by_fold_Set_With {s_1 c_2 : Value} {R : Value → World → Prop} {w : World} (h : sh_fold_Set_With s_1 c_2 NOPE R w) : RET Try.prog 78 [s_1, c_2] w R :=
  ⟨by kernel_rfl, calls_by [] Try.func78 (by kernel_rfl) (by kernel_rfl) (by kernel_rfl) h⟩

def sh_fold_Set_Has (s_1 c_2 : Value) (E : List PanicEntry → World → Prop) (R : Value → World → Prop) (w : World) : Prop :=
 RUN Try.prog (Instr.box 77 s_1) w fun s_3 w =>
 PURE Try.prog (BINS .quo 5 (.tmp 5) (.const (.int .u8 64)) c_2 (.int .u8 64)) fun v4 =>
 PURE Try.prog (Instr.indexAt 77 s_3 v4) fun v5 =>
 RUN Try.prog (Instr.loadAt 75 v5) w fun v6 w =>
 PURE Try.prog (BINS .rem 5 (.tmp 9) (.const (.int .u8 64)) c_2 (.int .u8 64)) fun v7 =>
 PURE Try.prog (BINS .shr 75 (.tmp 8) (.tmp 10) v6 v7) fun v8 =>
 PURE Try.prog (BINS .and 75 (.tmp 11) (.const (.int .u64 1)) v8 (.int .u64 1)) fun v9 =>
 PURE Try.prog (BINS .eql 75 (.tmp 12) (.const (.int .u64 1)) v9 (.int .u64 1)) fun v10 =>
 R v10 w
theorem by_fold_Set_Has {s_1 c_2 : Value} {R : Value → World → Prop} {w : World} (h : sh_fold_Set_Has s_1 c_2 NOPE R w) : RET Try.prog 79 [s_1, c_2] w R :=
  ⟨by kernel_rfl, calls_by [] Try.func79 (by kernel_rfl) (by kernel_rfl) (by kernel_rfl) h⟩

def sh_seineref01_In (s_1 c_2 : Value) (E : List PanicEntry → World → Prop) (R : Value → World → Prop) (w : World) : Prop :=
 LOOP1 (fun i_3 w next1 =>
 PURE Try.prog (Builtin.len_ #[9] 3 #[s_1]) fun v4 =>
 PURE Try.prog (BINS .lss 3 (.tmp 6) (.tmp 8) i_3 v4) fun v5 =>
 COND v5 (
 PURE Try.prog (Instr.index 9 s_1 i_3) fun v6 =>
 PURE Try.prog (BINS .eql 5 (.tmp 14) (.tmp 15) v6 c_2) fun v7 =>
 COND v7 (
 R (.bool true) w) (
 PURE Try.prog (BINS .add 3 (.tmp 10) (.const (.int .i64 1)) i_3 (.int .i64 1)) fun v8 =>
 next1 v8 w)) (
 R (.bool false) w)) (.int .i64 0) w
theorem by_seineref01_In {s_1 c_2 : Value} {R : Value → World → Prop} {w : World} (h : sh_seineref01_In s_1 c_2 NOPE R w) : RET Try.prog 80 [s_1, c_2] w R :=
  ⟨by kernel_rfl, calls_by [(2, [5])] Try.func80 (by kernel_rfl) (by kernel_rfl) (by kernel_rfl) h⟩

def sh_trie_Trie_is (t_1 n_2 : Value) (E : List PanicEntry → World → Prop) (R : Value → World → Prop) (w : World) : Prop :=
 PURE Try.prog (BINS .geq 3 (.tmp 5) (.const (.int .i64 0)) n_2 (.int .i64 0)) fun v3 =>
 COND v3 (
 CALL Try.prog 23 [t_1] w E fun v4 w =>
 PURE Try.prog (BINS .lss 3 (.tmp 8) (.tmp 10) n_2 v4) fun v5 =>
 R v5 w) (
 R (.bool false) w)
theorem by_trie_Trie_is {t_1 n_2 : Value} {R : Value → World → Prop} {w : World} (h : sh_trie_Trie_is t_1 n_2 NOPE R w) : RET Try.prog 81 [t_1, n_2] w R :=
  ⟨by kernel_rfl, calls_by [] Try.func81 (by kernel_rfl) (by kernel_rfl) (by kernel_rfl) h⟩

def sh_slices_Reverse_byte_byte (s_1 : Value) (E : List PanicEntry → World → Prop) (R : Value → World → Prop) (w : World) : Prop :=
 PURE Try.prog (Builtin.len_ #[42] 3 #[s_1]) fun v2 =>
 PURE Try.prog (BINS .sub 3 (.tmp 5) (.const (.int .i64 1)) v2 (.int .i64 1)) fun v3 =>
 LOOP2 (fun i_4 j_5 w next1 =>
 PURE Try.prog (BINS .lss 3 (.tmp 7) (.tmp 8) i_4 j_5) fun v6 =>
 COND v6 (
 DRAWQ w fun S w =>
 PURE Try.prog (Instr.indexAt 42 s_1 j_5) fun v7 =>
 READ Try.prog S (Instr.loadAt 5 v7) w fun v8 =>
 PURE Try.prog (Instr.indexAt 42 s_1 i_4) fun v9 =>
 READ Try.prog S (Instr.loadAt 5 v9) w fun v10 =>
 PURE Try.prog (Instr.indexAt 42 s_1 i_4) fun v11 =>
 RUNU Try.prog (Instr.storeAt 5 v11 v8) w fun w =>
 PURE Try.prog (Instr.indexAt 42 s_1 j_5) fun v12 =>
 RUNU Try.prog (Instr.storeAt 5 v12 v10) w fun w =>
 PURE Try.prog (BINS .add 3 (.tmp 10) (.const (.int .i64 1)) i_4 (.int .i64 1)) fun v13 =>
 PURE Try.prog (BINS .sub 3 (.tmp 12) (.const (.int .i64 1)) j_5 (.int .i64 1)) fun v14 =>
 next1 v13 v14 w) (
 R (.tuple #[]) w)) (.int .i64 0) v3 w
theorem by_slices_Reverse_byte_byte {s_1 : Value} {R : Value → World → Prop} {w : World} (h : sh_slices_Reverse_byte_byte s_1 NOPE R w) : RET Try.prog 82 [s_1] w R :=
  ⟨by kernel_rfl, calls_by [(1, [2, 3])] Try.func82 (by kernel_rfl) (by kernel_rfl) (by kernel_rfl) h⟩

def sh_slices_Clone_int_int (s_1 : Value) (E : List PanicEntry → World → Prop) (R : Value → World → Prop) (w : World) : Prop :=
 PURE Try.prog (BINS .eql 72 (.tmp 3) (.const (.slice Option.none 0 0)) s_1 (.slice Option.none 0 0)) fun v2 =>
 COND v2 (
 R (.slice Option.none 0 0) w) (
 RUN Try.prog (Instr.buildSlice 72 0 #[]) w fun v3 w =>
 RUN Try.prog (Builtin.append_ #[72, 72] 72 #[v3, s_1]) w fun v4 w =>
 R v4 w)
theorem by_slices_Clone_int_int {s_1 : Value} {R : Value → World → Prop} {w : World} (h : sh_slices_Clone_int_int s_1 NOPE R w) : RET Try.prog 83 [s_1] w R :=
  ⟨by kernel_rfl, calls_by [] Try.func83 (by kernel_rfl) (by kernel_rfl) (by kernel_rfl) h⟩

def sh_meter_Meter_Dense_1 (e_1 v2 v3 v4 : Value) (E : List PanicEntry → World → Prop) (R : Value → World → Prop) (w : World) : Prop :=
 RUN Try.prog (Instr.box 142 e_1) w fun e_5 w =>
 PURE Try.prog (Instr.fieldAt 142 e_5 1) fun v6 =>
 RUN Try.prog (Instr.loadAt 5 v6) w fun v7 w =>
 PURE Try.prog (Instr.indexAt 31 v2 v7) fun v8 =>
 RUN Try.prog (Instr.loadAt 3 v8) w fun v9 w =>
 JOIN0 (fun J1 =>
 DRAWQ w fun S w =>
 PURE Try.prog (Instr.fieldAt 142 e_5 0) fun v10 =>
 READ Try.prog S (Instr.loadAt 3 v10) w fun v11 =>
 PURE Try.prog (BINS .lss 3 (.tmp 12) (.const (.int .i64 0)) v11 (.int .i64 0)) fun v12 =>
 COND v12 (
 COND (.bool true) (
 R (.int .i64 (-1)) w) (
 J1 w)) (
 PURE Try.prog (BINS .lss 3 (.tmp 15) (.const (.int .i64 0)) v9 (.int .i64 0)) fun v13 =>
 COND v13 (
 COND (.bool true) (
 R (.int .i64 (-1)) w) (
 J1 w)) (
 READ Try.prog S (Instr.loadAt 3 v3) w fun v14 =>
 PURE Try.prog (BINS .geq 3 (.tmp 19) (.tmp 20) v9 v14) fun v15 =>
 COND v15 (
 COND (.bool true) (
 R (.int .i64 (-1)) w) (
 J1 w)) (
 READ Try.prog S (Instr.loadAt 72 v4) w fun v16 =>
 PURE Try.prog (Builtin.len_ #[72] 3 #[v16]) fun v17 =>
 PURE Try.prog (BINS .geq 3 (.tmp 24) (.tmp 26) v9 v17) fun v18 =>
 COND v18 (
 COND (.bool true) (
 R (.int .i64 (-1)) w) (
 J1 w)) (
 PURE Try.prog (Instr.fieldAt 142 e_5 0) fun v19 =>
 READ Try.prog S (Instr.loadAt 3 v19) w fun v20 =>
 READ Try.prog S (Instr.loadAt 72 v4) w fun v21 =>
 PURE Try.prog (Builtin.len_ #[72] 3 #[v21]) fun v22 =>
 PURE Try.prog (BINS .sub 3 (.tmp 33) (.const (.int .i64 1)) v22 (.int .i64 1)) fun v23 =>
 PURE Try.prog (BINS .sub 3 (.tmp 34) (.tmp 35) v23 v9) fun v24 =>
 READ Try.prog S (Instr.loadAt 3 v3) w fun v25 =>
 PURE Try.prog (BINS .quo 3 (.tmp 36) (.tmp 37) v24 v25) fun v26 =>
 PURE Try.prog (BINS .gtr 3 (.tmp 31) (.tmp 38) v20 v26) fun v27 =>
 COND v27 (
 R (.int .i64 (-1)) w) (
 J1 w)))))) (fun w =>
 RUN Try.prog (Instr.loadAt 72 v4) w fun v28 w =>
 PURE Try.prog (Instr.fieldAt 142 e_5 0) fun v29 =>
 RUN Try.prog (Instr.loadAt 3 v29) w fun v30 w =>
 RUN Try.prog (Instr.loadAt 3 v3) w fun v31 w =>
 PURE Try.prog (BINS .mul 3 (.tmp 43) (.tmp 44) v30 v31) fun v32 =>
 PURE Try.prog (BINS .add 3 (.tmp 45) (.tmp 46) v32 v9) fun v33 =>
 PURE Try.prog (Instr.indexAt 72 v28 v33) fun v34 =>
 RUN Try.prog (Instr.loadAt 3 v34) w fun v35 w =>
 R v35 w)
theorem by_meter_Meter_Dense_1 {e_1 v2 v3 v4 : Value} {R : Value → World → Prop} {w : World} (h : sh_meter_Meter_Dense_1 e_1 v2 v3 v4 NOPE R w) : RET Try.prog 84 [e_1, v2, v3, v4] w R :=
  ⟨by kernel_rfl, calls_by [(12004, [])] Try.func84 (by kernel_rfl) (by kernel_rfl) (by kernel_rfl) h⟩

def sh_meter_Meter_count (m_1 : Value) (E : List PanicEntry → World → Prop) (R : Value → World → Prop) (w : World) : Prop :=
 PURE Try.prog (BINS .eql 47 (.tmp 3) (.const (.pointer Option.none)) m_1 (.pointer Option.none)) fun v2 =>
 COND v2 (
 PURE Try.prog (Instr.build 52 #[]) fun v3 =>
 RUN Try.prog (Instr.box 52 v3) w fun v4 w =>
 R v4 w) (
 PURE Try.prog (NILS m_1) fun v5 =>
 PURE Try.prog (Instr.fieldAt 93 v5 0) fun v6 =>
 R v6 w)
theorem by_meter_Meter_count {m_1 : Value} {R : Value → World → Prop} {w : World} (h : sh_meter_Meter_count m_1 NOPE R w) : RET Try.prog 85 [m_1] w R :=
  ⟨by kernel_rfl, calls_by [] Try.func85 (by kernel_rfl) (by kernel_rfl) (by kernel_rfl) h⟩

def sh_links_Links_is (l_1 n_2 : Value) (E : List PanicEntry → World → Prop) (R : Value → World → Prop) (w : World) : Prop :=
 PURE Try.prog (BINS .neq 70 (.tmp 5) (.const (.pointer Option.none)) l_1 (.pointer Option.none)) fun v3 =>
 COND v3 (
 PURE Try.prog (BINS .geq 3 (.tmp 8) (.const (.int .i64 0)) n_2 (.int .i64 0)) fun v4 =>
 COND v4 (
 PURE Try.prog (NILS l_1) fun v5 =>
 PURE Try.prog (Instr.fieldAt 127 v5 0) fun v6 =>
 RUN Try.prog (Instr.loadAt 72 v6) w fun v7 w =>
 PURE Try.prog (Builtin.len_ #[72] 3 #[v7]) fun v8 =>
 PURE Try.prog (BINS .lss 3 (.tmp 12) (.tmp 17) n_2 v8) fun v9 =>
 R v9 w) (
 R (.bool false) w)) (
 R (.bool false) w)
theorem by_links_Links_is {l_1 n_2 : Value} {R : Value → World → Prop} {w : World} (h : sh_links_Links_is l_1 n_2 NOPE R w) : RET Try.prog 86 [l_1, n_2] w R :=
  ⟨by kernel_rfl, calls_by [] Try.func86 (by kernel_rfl) (by kernel_rfl) (by kernel_rfl) h⟩

def sh_slices_Clone_api_Pair_api_Pair (s_1 : Value) (E : List PanicEntry → World → Prop) (R : Value → World → Prop) (w : World) : Prop :=
 PURE Try.prog (BINS .eql 49 (.tmp 3) (.const (.slice Option.none 0 0)) s_1 (.slice Option.none 0 0)) fun v2 =>
 COND v2 (
 R (.slice Option.none 0 0) w) (
 RUN Try.prog (Instr.buildSlice 49 0 #[]) w fun v3 w =>
 RUN Try.prog (Builtin.append_ #[49, 49] 49 #[v3, s_1]) w fun v4 w =>
 R v4 w)
theorem by_slices_Clone_api_Pair_api_Pair {s_1 : Value} {R : Value → World → Prop} {w : World} (h : sh_slices_Clone_api_Pair_api_Pair s_1 NOPE R w) : RET Try.prog 87 [s_1] w R :=
  ⟨by kernel_rfl, calls_by [] Try.func87 (by kernel_rfl) (by kernel_rfl) (by kernel_rfl) h⟩

def sh_pairs_joined_api_Pair (a_1 b_2 less_3 : Value) (E : List PanicEntry → World → Prop) (R : Value → World → Prop) (w : World) : Prop :=
 LOOP3 (fun a_4 b_5 out_6 w next1 =>
 JOIN0 (fun J2 =>
 PURE Try.prog (Builtin.len_ #[49] 3 #[a_4]) fun v7 =>
 PURE Try.prog (BINS .gtr 3 (.tmp 10) (.const (.int .i64 0)) v7 (.int .i64 0)) fun v8 =>
 COND v8 (
 COND (.bool true) (
 J2 w) (
 R out_6 w)) (
 PURE Try.prog (Builtin.len_ #[49] 3 #[b_5]) fun v9 =>
 PURE Try.prog (BINS .gtr 3 (.tmp 14) (.const (.int .i64 0)) v9 (.int .i64 0)) fun v10 =>
 COND v10 (
 J2 w) (
 R out_6 w))) (fun w =>
 RUN Try.prog (Instr.alloc 69 true (.tuple #[])) w fun x_11 w =>
 JOIN2 (fun J3 =>
 JOIN1 (fun J4 =>
 DRAWQ w fun S w =>
 PURE Try.prog (Builtin.len_ #[49] 3 #[b_5]) fun v12 =>
 PURE Try.prog (BINS .eql 3 (.tmp 18) (.const (.int .i64 0)) v12 (.int .i64 0)) fun v13 =>
 COND v13 (
 J4 (.bool true) w) (
 PURE Try.prog (Builtin.len_ #[49] 3 #[a_4]) fun v14 =>
 PURE Try.prog (BINS .gtr 3 (.tmp 22) (.const (.int .i64 0)) v14 (.int .i64 0)) fun v15 =>
 COND v15 (
 PURE Try.prog (Instr.indexAt 49 b_5 (.int .i64 0)) fun v16 =>
 READ Try.prog S (Instr.loadAt 69 v16) w fun v17 =>
 PURE Try.prog (Instr.indexAt 49 a_4 (.int .i64 0)) fun v18 =>
 READ Try.prog S (Instr.loadAt 69 v18) w fun v19 =>
 CALLV Try.prog less_3 [v17, v19] w E fun v20 w =>
 PURE Try.prog (Op.unary .not v20) fun v21 =>
 J4 v21 w) (
 J4 (.bool false) w))) (fun v22 w =>
 COND v22 (
 DRAWQ w fun S w =>
 PURE Try.prog (Instr.indexAt 49 a_4 (.int .i64 0)) fun v23 =>
 READ Try.prog S (Instr.loadAt 69 v23) w fun v24 =>
 PURE Try.prog (Instr.sliceAt 49 a_4 (some (.int .i64 1)) none none) fun v25 =>
 RUNU Try.prog (Instr.storeAt 69 x_11 v24) w fun w =>
 J3 v25 b_5 w) (
 DRAWQ w fun S w =>
 PURE Try.prog (Instr.indexAt 49 b_5 (.int .i64 0)) fun v26 =>
 READ Try.prog S (Instr.loadAt 69 v26) w fun v27 =>
 PURE Try.prog (Instr.sliceAt 49 b_5 (some (.int .i64 1)) none none) fun v28 =>
 RUNU Try.prog (Instr.storeAt 69 x_11 v27) w fun w =>
 J3 a_4 v28 w))) (fun a_29 b_30 w =>
 DRAWQ w fun S w =>
 PURE Try.prog (Builtin.len_ #[49] 3 #[out_6]) fun v31 =>
 PURE Try.prog (BINS .eql 3 (.tmp 47) (.const (.int .i64 0)) v31 (.int .i64 0)) fun v32 =>
 COND v32 (
 COND (.bool true) (
 RUN Try.prog (Instr.loadAt 69 x_11) w fun v33 w =>
 RUN Try.prog (Instr.buildSlice 49 1 #[(0, v33)]) w fun v34 w =>
 RUN Try.prog (Builtin.append_ #[49, 49] 49 #[out_6, v34]) w fun v35 w =>
 next1 a_29 b_30 v35 w) (
 next1 a_29 b_30 out_6 w)) (
 PURE Try.prog (Builtin.len_ #[49] 3 #[out_6]) fun v36 =>
 PURE Try.prog (BINS .sub 3 (.tmp 52) (.const (.int .i64 1)) v36 (.int .i64 1)) fun v37 =>
 PURE Try.prog (Instr.indexAt 49 out_6 v37) fun v38 =>
 READ Try.prog S (Instr.loadAt 69 v38) w fun v39 =>
 READ Try.prog S (Instr.loadAt 69 x_11) w fun v40 =>
 PURE Try.prog (BINS .neq 69 (.tmp 55) (.tmp 56) v39 v40) fun v41 =>
 COND v41 (
 RUN Try.prog (Instr.loadAt 69 x_11) w fun v42 w =>
 RUN Try.prog (Instr.buildSlice 49 1 #[(0, v42)]) w fun v43 w =>
 RUN Try.prog (Builtin.append_ #[49, 49] 49 #[out_6, v43]) w fun v44 w =>
 next1 a_29 b_30 v44 w) (
 next1 a_29 b_30 out_6 w))))) a_1 b_2 (.slice Option.none 0 0) w
theorem by_pairs_joined_api_Pair {a_1 b_2 less_3 : Value} {R : Value → World → Prop} {w : World} (h : sh_pairs_joined_api_Pair a_1 b_2 less_3 NOPE R w) : RET Try.prog 88 [a_1, b_2, less_3] w R :=
  ⟨by kernel_rfl, calls_by [(2, [0, 1, 7]), (12003, []), (14005, [35]), (14007, [0, 1])] Try.func88 (by kernel_rfl) (by kernel_rfl) (by kernel_rfl) h⟩

def sh_pairs_Less (a_1 b_2 : Value) (E : List PanicEntry → World → Prop) (R : Value → World → Prop) (w : World) : Prop :=
 RUN Try.prog (Instr.box 69 a_1) w fun a_3 w =>
 RUN Try.prog (Instr.box 69 b_2) w fun b_4 w =>
 PURE Try.prog (Instr.fieldAt 69 a_3 0) fun v5 =>
 RUN Try.prog (Instr.loadAt 3 v5) w fun v6 w =>
 PURE Try.prog (Instr.fieldAt 69 b_4 0) fun v7 =>
 RUN Try.prog (Instr.loadAt 3 v7) w fun v8 w =>
 PURE Try.prog (BINS .neq 3 (.tmp 6) (.tmp 8) v6 v8) fun v9 =>
 COND v9 (
 PURE Try.prog (Instr.fieldAt 69 a_3 0) fun v10 =>
 RUN Try.prog (Instr.loadAt 3 v10) w fun v11 w =>
 PURE Try.prog (Instr.fieldAt 69 b_4 0) fun v12 =>
 RUN Try.prog (Instr.loadAt 3 v12) w fun v13 w =>
 PURE Try.prog (BINS .lss 3 (.tmp 11) (.tmp 13) v11 v13) fun v14 =>
 R v14 w) (
 PURE Try.prog (Instr.fieldAt 69 a_3 1) fun v15 =>
 RUN Try.prog (Instr.loadAt 3 v15) w fun v16 w =>
 PURE Try.prog (Instr.fieldAt 69 b_4 1) fun v17 =>
 RUN Try.prog (Instr.loadAt 3 v17) w fun v18 w =>
 PURE Try.prog (BINS .lss 3 (.tmp 16) (.tmp 18) v16 v18) fun v19 =>
 R v19 w)
theorem by_pairs_Less {a_1 b_2 : Value} {R : Value → World → Prop} {w : World} (h : sh_pairs_Less a_1 b_2 NOPE R w) : RET Try.prog 89 [a_1, b_2] w R :=
  ⟨by kernel_rfl, calls_by [] Try.func89 (by kernel_rfl) (by kernel_rfl) (by kernel_rfl) h⟩

def sh_critical_cut (b_1 : Value) (E : List PanicEntry → World → Prop) (R : Value → World → Prop) (w : World) : Prop :=
 RUN Try.prog (Instr.alloc 104 true (.tuple #[])) w fun v2 w =>
 CALL Try.prog 103 [b_1, (.bool false)] w E fun v3 w =>
 PURE Try.prog (Instr.extract v3 0) fun v4 =>
 PURE Try.prog (Instr.extract v3 1) fun v5 =>
 CALL Try.prog 103 [b_1, (.bool true)] w E fun v6 w =>
 PURE Try.prog (Instr.extract v6 0) fun v7 =>
 PURE Try.prog (Instr.extract v6 1) fun v8 =>
 PURE Try.prog (BINS .gtr 3 (.tmp 17) (.tmp 18) v7 v4) fun v9 =>
 COND v9 (
 PURE Try.prog (Instr.build 104 #[(0, v7), (1, v8)]) fun v10 =>
 RUNU Try.prog (Instr.storeAt 104 v2 v10) w fun w =>
 LOADRES Try.prog 104 v2 w fun r => R r w) (
 PURE Try.prog (Instr.build 104 #[(0, v4), (1, v5)]) fun v11 =>
 RUNU Try.prog (Instr.storeAt 104 v2 v11) w fun w =>
 LOADRES Try.prog 104 v2 w fun r => R r w)
theorem by_critical_cut {b_1 : Value} {R : Value → World → Prop} {w : World} (h : sh_critical_cut b_1 NOPE R w) : RET Try.prog 90 [b_1] w R :=
  ⟨by kernel_rfl, calls_by [] Try.func90 (by kernel_rfl) (by kernel_rfl) (by kernel_rfl) h⟩

def sh_critical_text_alike (t_1 a_2 b_3 n_4 : Value) (E : List PanicEntry → World → Prop) (R : Value → World → Prop) (w : World) : Prop :=
 DRAWQ w fun S w =>
 PURE Try.prog (BINS .add 3 (.tmp 11) (.tmp 12) a_2 n_4) fun v5 =>
 PURE Try.prog (Instr.sliceAt 151 t_1 (some a_2) (some v5) none) fun v6 =>
 READ Try.prog S (convert 151 9 v6) w fun v7 =>
 PURE Try.prog (BINS .add 3 (.tmp 18) (.tmp 19) b_3 n_4) fun v8 =>
 PURE Try.prog (Instr.sliceAt 151 t_1 (some b_3) (some v8) none) fun v9 =>
 READ Try.prog S (convert 151 9 v9) w fun v10 =>
 PURE Try.prog (BINS .eql 9 (.tmp 15) (.tmp 22) v7 v10) fun v11 =>
 R v11 w
theorem by_critical_text_alike {t_1 a_2 b_3 n_4 : Value} {R : Value → World → Prop} {w : World} (h : sh_critical_text_alike t_1 a_2 b_3 n_4 NOPE R w) : RET Try.prog 91 [t_1, a_2, b_3, n_4] w R :=
  ⟨by kernel_rfl, calls_by [] Try.func91 (by kernel_rfl) (by kernel_rfl) (by kernel_rfl) h⟩

def sh_twoway_Two_right (t_1 line_2 at_3 from_4 : Value) (E : List PanicEntry → World → Prop) (R : Value → World → Prop) (w : World) : Prop :=
 LOOP1 (fun i_5 w next1 =>
 DRAWQ w fun S w =>
 PURE Try.prog (NILS t_1) fun v6 =>
 PURE Try.prog (Instr.fieldAt 108 v6 0) fun v7 =>
 READ Try.prog S (Instr.loadAt 42 v7) w fun v8 =>
 PURE Try.prog (Builtin.len_ #[42] 3 #[v8]) fun v9 =>
 PURE Try.prog (BINS .lss 3 (.tmp 11) (.tmp 16) i_5 v9) fun v10 =>
 COND v10 (
 PURE Try.prog (NILS t_1) fun v11 =>
 PURE Try.prog (Instr.fieldAt 108 v11 0) fun v12 =>
 READ Try.prog S (Instr.loadAt 42 v12) w fun v13 =>
 PURE Try.prog (Instr.indexAt 42 v13 i_5) fun v14 =>
 READ Try.prog S (Instr.loadAt 5 v14) w fun v15 =>
 PURE Try.prog (BINS .add 3 (.tmp 27) (.tmp 28) at_3 i_5) fun v16 =>
 PURE Try.prog (Instr.indexAt 42 line_2 v16) fun v17 =>
 READ Try.prog S (Instr.loadAt 5 v17) w fun v18 =>
 PURE Try.prog (BINS .eql 5 (.tmp 25) (.tmp 31) v15 v18) fun v19 =>
 COND v19 (
 PURE Try.prog (BINS .add 3 (.tmp 34) (.const (.int .i64 1)) i_5 (.int .i64 1)) fun v20 =>
 next1 v20 w) (
 R i_5 w)) (
 COND (.bool false) (
 PURE Try.prog (BINS .add 3 (.tmp 34) (.const (.int .i64 1)) i_5 (.int .i64 1)) fun v21 =>
 next1 v21 w) (
 R i_5 w))) from_4 w
theorem by_twoway_Two_right {t_1 line_2 at_3 from_4 : Value} {R : Value → World → Prop} {w : World} (h : sh_twoway_Two_right t_1 line_2 at_3 from_4 NOPE R w) : RET Try.prog 92 [t_1, line_2, at_3, from_4] w R :=
  ⟨by kernel_rfl, calls_by [(2, [9])] Try.func92 (by kernel_rfl) (by kernel_rfl) (by kernel_rfl) h⟩

def sh_twoway_Two_left (t_1 line_2 at_3 down_4 : Value) (E : List PanicEntry → World → Prop) (R : Value → World → Prop) (w : World) : Prop :=
 PURE Try.prog (NILS t_1) fun v5 =>
 PURE Try.prog (Instr.fieldAt 108 v5 1) fun v6 =>
 PURE Try.prog (Instr.fieldAt 104 v6 0) fun v7 =>
 RUN Try.prog (Instr.loadAt 3 v7) w fun v8 w =>
 PURE Try.prog (BINS .sub 3 (.tmp 14) (.const (.int .i64 1)) v8 (.int .i64 1)) fun v9 =>
 LOOP1 (fun i_10 w next1 =>
 PURE Try.prog (BINS .geq 3 (.tmp 16) (.tmp 17) i_10 down_4) fun v11 =>
 COND v11 (
 DRAWQ w fun S w =>
 PURE Try.prog (NILS t_1) fun v12 =>
 PURE Try.prog (Instr.fieldAt 108 v12 0) fun v13 =>
 READ Try.prog S (Instr.loadAt 42 v13) w fun v14 =>
 PURE Try.prog (Instr.indexAt 42 v14 i_10) fun v15 =>
 READ Try.prog S (Instr.loadAt 5 v15) w fun v16 =>
 PURE Try.prog (BINS .add 3 (.tmp 29) (.tmp 30) at_3 i_10) fun v17 =>
 PURE Try.prog (Instr.indexAt 42 line_2 v17) fun v18 =>
 READ Try.prog S (Instr.loadAt 5 v18) w fun v19 =>
 PURE Try.prog (BINS .neq 5 (.tmp 27) (.tmp 33) v16 v19) fun v20 =>
 COND v20 (
 R (.bool false) w) (
 PURE Try.prog (BINS .sub 3 (.tmp 19) (.const (.int .i64 1)) i_10 (.int .i64 1)) fun v21 =>
 next1 v21 w)) (
 R (.bool true) w)) v9 w
theorem by_twoway_Two_left {t_1 line_2 at_3 down_4 : Value} {R : Value → World → Prop} {w : World} (h : sh_twoway_Two_left t_1 line_2 at_3 down_4 NOPE R w) : RET Try.prog 93 [t_1, line_2, at_3, down_4] w R :=
  ⟨by kernel_rfl, calls_by [(2, [9])] Try.func93 (by kernel_rfl) (by kernel_rfl) (by kernel_rfl) h⟩

def sh_meter_Meter_Sparse_1 (e_1 v2 : Value) (E : List PanicEntry → World → Prop) (R : Value → World → Prop) (w : World) : Prop :=
 RUN Try.prog (Instr.box 142 e_1) w fun e_3 w =>
 RUN Try.prog (Instr.loadAt 154 v2) w fun v4 w =>
 RUN Try.prog (Instr.loadAt 142 e_3) w fun v5 w =>
 RUN Try.prog (Instr.lookup 154 v4 v5 Bool.true) w fun v6 w =>
 PURE Try.prog (Instr.extract v6 0) fun v7 =>
 PURE Try.prog (Instr.extract v6 1) fun v8 =>
 COND v8 (
 R v7 w) (
 R (.int .i64 (-1)) w)
theorem by_meter_Meter_Sparse_1 {e_1 v2 : Value} {R : Value → World → Prop} {w : World} (h : sh_meter_Meter_Sparse_1 e_1 v2 NOPE R w) : RET Try.prog 94 [e_1, v2] w R :=
  ⟨by kernel_rfl, calls_by [] Try.func94 (by kernel_rfl) (by kernel_rfl) (by kernel_rfl) h⟩

def sh_back_Build_1 (old_1 n_2 : Value) (E : List PanicEntry → World → Prop) (R : Value → World → Prop) (w : World) : Prop :=
 PURE Try.prog (BINS .eql 3 (.tmp 5) (.const (.int .i64 0)) old_1 (.int .i64 0)) fun v3 =>
 COND v3 (
 R n_2 w) (
 PURE Try.prog (Builtin.min_ #[3, 3] 3 #[old_1, n_2]) fun v4 =>
 R v4 w)
theorem by_back_Build_1 {old_1 n_2 : Value} {R : Value → World → Prop} {w : World} (h : sh_back_Build_1 old_1 n_2 NOPE R w) : RET Try.prog 95 [old_1, n_2] w R :=
  ⟨by kernel_rfl, calls_by [] Try.func95 (by kernel_rfl) (by kernel_rfl) (by kernel_rfl) h⟩

def sh_back_Turn (b_1 : Value) (E : List PanicEntry → World → Prop) (R : Value → World → Prop) (w : World) : Prop :=
 CALL Try.prog 61 [b_1] w E fun v2 w =>
 CALL Try.prog 82 [v2] w E fun v3 w =>
 R v2 w
theorem by_back_Turn {b_1 : Value} {R : Value → World → Prop} {w : World} (h : sh_back_Turn b_1 NOPE R w) : RET Try.prog 96 [b_1] w R :=
  ⟨by kernel_rfl, calls_by [] Try.func96 (by kernel_rfl) (by kernel_rfl) (by kernel_rfl) h⟩

def sh_back_Back_Least (b_1 : Value) (E : List PanicEntry → World → Prop) (R : Value → World → Prop) (w : World) : Prop :=
 PURE Try.prog (BINS .eql 117 (.tmp 3) (.const (.pointer Option.none)) b_1 (.pointer Option.none)) fun v2 =>
 COND v2 (
 R (.int .i64 0) w) (
 PURE Try.prog (NILS b_1) fun v3 =>
 PURE Try.prog (Instr.fieldAt 156 v3 1) fun v4 =>
 RUN Try.prog (Instr.loadAt 3 v4) w fun v5 w =>
 R v5 w)
theorem by_back_Back_Least {b_1 : Value} {R : Value → World → Prop} {w : World} (h : sh_back_Back_Least b_1 NOPE R w) : RET Try.prog 97 [b_1] w R :=
  ⟨by kernel_rfl, calls_by [] Try.func97 (by kernel_rfl) (by kernel_rfl) (by kernel_rfl) h⟩

def sh_shifts_Shifts_goes (s_1 w_2 : Value) (E : List PanicEntry → World → Prop) (R : Value → World → Prop) (w : World) : Prop :=
 PURE Try.prog (NILS s_1) fun v3 =>
 PURE Try.prog (Instr.fieldAt 160 v3 0) fun v4 =>
 RUN Try.prog (Instr.loadAt 117 v4) w fun v5 w =>
 PURE Try.prog (NILS v5) fun v6 =>
 PURE Try.prog (Instr.fieldAt 156 v6 0) fun v7 =>
 RUN Try.prog (Instr.loadAt 45 v7) w fun v8 w =>
 CALL Try.prog 50 [v8, w_2] w E fun v9 w =>
 LOOP1 (fun n_10 w next1 =>
 PURE Try.prog (Builtin.len_ #[42] 3 #[v9]) fun v11 =>
 PURE Try.prog (BINS .leq 3 (.tmp 17) (.tmp 19) n_10 v11) fun v12 =>
 COND v12 (
 DRAWQ w fun S w =>
 PURE Try.prog (NILS s_1) fun v13 =>
 PURE Try.prog (Instr.fieldAt 160 v13 0) fun v14 =>
 READ Try.prog S (Instr.loadAt 117 v14) w fun v15 =>
 PURE Try.prog (NILS v15) fun v16 =>
 PURE Try.prog (Instr.fieldAt 156 v16 0) fun v17 =>
 READ Try.prog S (Instr.loadAt 45 v17) w fun v18 =>
 PURE Try.prog (Instr.sliceAt 42 v9 (some n_10) none none) fun v19 =>
 CALL Try.prog 105 [v18, v19] w E fun v20 w =>
 PURE Try.prog (BINS .lss 3 (.tmp 34) (.const (.int .i64 0)) v20 (.int .i64 0)) fun v21 =>
 COND v21 (
 PURE Try.prog (BINS .add 3 (.tmp 21) (.const (.int .i64 1)) n_10 (.int .i64 1)) fun v22 =>
 next1 v22 w) (
 PURE Try.prog (NILS s_1) fun v23 =>
 PURE Try.prog (Instr.fieldAt 160 v23 1) fun v24 =>
 RUN Try.prog (Instr.loadAt 158 v24) w fun v25 w =>
 PURE Try.prog (Instr.indexAt 158 v25 v20) fun v26 =>
 PURE Try.prog (Instr.indexAt 161 v26 (.int .i64 0)) fun v27 =>
 CALLV Try.prog (.func (.func 104) #[] #[]) [v27, n_10] w E fun v28 w =>
 PURE Try.prog (NILS s_1) fun v29 =>
 PURE Try.prog (Instr.fieldAt 160 v29 0) fun v30 =>
 RUN Try.prog (Instr.loadAt 117 v30) w fun v31 w =>
 CALL Try.prog 106 [v31, w_2] w E fun v32 w =>
 COND v32 (
 PURE Try.prog (NILS s_1) fun v33 =>
 PURE Try.prog (Instr.fieldAt 160 v33 1) fun v34 =>
 RUN Try.prog (Instr.loadAt 158 v34) w fun v35 w =>
 PURE Try.prog (Instr.indexAt 158 v35 v20) fun v36 =>
 PURE Try.prog (Instr.indexAt 161 v36 (.int .i64 1)) fun v37 =>
 CALLV Try.prog (.func (.func 104) #[] #[]) [v37, n_10] w E fun v38 w =>
 PURE Try.prog (BINS .add 3 (.tmp 21) (.const (.int .i64 1)) n_10 (.int .i64 1)) fun v39 =>
 next1 v39 w) (
 PURE Try.prog (BINS .add 3 (.tmp 21) (.const (.int .i64 1)) n_10 (.int .i64 1)) fun v40 =>
 next1 v40 w))) (
 R (.tuple #[]) w)) (.int .i64 1) w
theorem by_shifts_Shifts_goes {s_1 w_2 : Value} {R : Value → World → Prop} {w : World} (h : sh_shifts_Shifts_goes s_1 w_2 NOPE R w) : RET Try.prog 98 [s_1, w_2] w R :=
  ⟨by kernel_rfl, calls_by [(3, [6])] Try.func98 (by kernel_rfl) (by kernel_rfl) (by kernel_rfl) h⟩

def sh_cwalter_Walter_window (w_1 line_2 end_3 : Value) (E : List PanicEntry → World → Prop) (R : Value → World → Prop) (w : World) : Prop :=
 JOIN2 (fun J1 =>
 PURE Try.prog (BINS .sub 3 (.tmp 13) (.const (.int .i64 1)) end_3 (.int .i64 1)) fun v4 =>
 LOOP3 (fun out_5 at_6 i_7 w next2 =>
 PURE Try.prog (BINS .geq 3 (.tmp 15) (.const (.int .i64 0)) i_7 (.int .i64 0)) fun v8 =>
 COND v8 (
 DRAWQ w fun S w =>
 PURE Try.prog (NILS w_1) fun v9 =>
 PURE Try.prog (Instr.fieldAt 122 v9 0) fun v10 =>
 READ Try.prog S (Instr.loadAt 117 v10) w fun v11 =>
 PURE Try.prog (NILS v11) fun v12 =>
 PURE Try.prog (Instr.fieldAt 156 v12 0) fun v13 =>
 READ Try.prog S (Instr.loadAt 45 v13) w fun v14 =>
 PURE Try.prog (Instr.indexAt 42 line_2 i_7) fun v15 =>
 READ Try.prog S (Instr.loadAt 5 v15) w fun v16 =>
 CALL Try.prog 74 [v14, at_6, v16] w E fun v17 w =>
 PURE Try.prog (BINS .lss 3 (.tmp 32) (.const (.int .i64 0)) v17 (.int .i64 0)) fun v18 =>
 COND v18 (
 J1 out_5 at_6 w) (
 PURE Try.prog (NILS w_1) fun v19 =>
 PURE Try.prog (Instr.fieldAt 122 v19 0) fun v20 =>
 RUN Try.prog (Instr.loadAt 117 v20) w fun v21 w =>
 CALL Try.prog 106 [v21, v17] w E fun v22 w =>
 COND v22 (
 PURE Try.prog (Instr.build 69 #[(0, i_7), (1, end_3)]) fun v23 =>
 RUN Try.prog (Instr.buildSlice 49 1 #[(0, v23)]) w fun v24 w =>
 RUN Try.prog (Builtin.append_ #[49, 49] 49 #[out_5, v24]) w fun v25 w =>
 PURE Try.prog (BINS .sub 3 (.tmp 17) (.const (.int .i64 1)) i_7 (.int .i64 1)) fun v26 =>
 next2 v25 v17 v26 w) (
 PURE Try.prog (BINS .sub 3 (.tmp 17) (.const (.int .i64 1)) i_7 (.int .i64 1)) fun v27 =>
 next2 out_5 v17 v27 w))) (
 J1 out_5 at_6 w)) (.slice Option.none 0 0) (.int .i64 0) v4 w) (fun out_28 at_29 w =>
 PURE Try.prog (NILS w_1) fun v30 =>
 PURE Try.prog (Instr.fieldAt 122 v30 0) fun v31 =>
 RUN Try.prog (Instr.loadAt 117 v31) w fun v32 w =>
 PURE Try.prog (NILS v32) fun v33 =>
 PURE Try.prog (Instr.fieldAt 156 v33 0) fun v34 =>
 RUN Try.prog (Instr.loadAt 45 v34) w fun v35 w =>
 CALL Try.prog 107 [v35, at_29] w E fun v36 w =>
 PURE Try.prog (BINS .sub 3 (.tmp 47) (.tmp 56) end_3 v36) fun v37 =>
 PURE Try.prog (BINS .eql 3 (.tmp 58) (.const (.int .i64 0)) v37 (.int .i64 0)) fun v38 =>
 COND v38 (
 PURE Try.prog (NILS w_1) fun v39 =>
 PURE Try.prog (Instr.fieldAt 122 v39 1) fun v40 =>
 RUN Try.prog (Instr.loadAt 119 v40) w fun v41 w =>
 CALL Try.prog 108 [v41, at_29] w E fun v42 w =>
 R (.tuple #[out_28, v42]) w) (
 DRAWQ w fun S w =>
 PURE Try.prog (NILS w_1) fun v43 =>
 PURE Try.prog (Instr.fieldAt 122 v43 1) fun v44 =>
 READ Try.prog S (Instr.loadAt 119 v44) w fun v45 =>
 PURE Try.prog (BINS .sub 3 (.tmp 74) (.const (.int .i64 1)) v37 (.int .i64 1)) fun v46 =>
 PURE Try.prog (Instr.indexAt 42 line_2 v46) fun v47 =>
 READ Try.prog S (Instr.loadAt 5 v47) w fun v48 =>
 CALL Try.prog 109 [v45, at_29, v48] w E fun v49 w =>
 R (.tuple #[out_28, v49]) w))
theorem by_cwalter_Walter_window {w_1 line_2 end_3 : Value} {R : Value → World → Prop} {w : World} (h : sh_cwalter_Walter_window w_1 line_2 end_3 NOPE R w) : RET Try.prog 99 [w_1, line_2, end_3] w R :=
  ⟨by kernel_rfl, calls_by [(4, [8, 9, 10]), (13011, [8, 9])] Try.func99 (by kernel_rfl) (by kernel_rfl) (by kernel_rfl) h⟩

def sh_math_bits_Mul (x_1 y_2 : Value) (E : List PanicEntry → World → Prop) (R : Value → World → Prop) (w : World) : Prop :=
 COND (.bool false) (
 PURE Try.prog (convert 165 173 x_1) fun v3 =>
 PURE Try.prog (convert 165 173 y_2) fun v4 =>
 CALL Try.prog 110 [v3, v4] w E fun v5 w =>
 PURE Try.prog (Instr.extract v5 0) fun v6 =>
 PURE Try.prog (Instr.extract v5 1) fun v7 =>
 PURE Try.prog (convert 173 165 v6) fun v8 =>
 PURE Try.prog (convert 173 165 v7) fun v9 =>
 R (.tuple #[v8, v9]) w) (
 CALL Try.prog 111 [x_1, y_2] w E fun v10 w =>
 PURE Try.prog (Instr.extract v10 0) fun v11 =>
 PURE Try.prog (Instr.extract v10 1) fun v12 =>
 R (.tuple #[v11, v12]) w)
theorem by_math_bits_Mul {x_1 y_2 : Value} {R : Value → World → Prop} {w : World} (h : sh_math_bits_Mul x_1 y_2 NOPE R w) : RET Try.prog 100 [x_1, y_2] w R :=
  ⟨by kernel_rfl, calls_by [] Try.func100 (by kernel_rfl) (by kernel_rfl) (by kernel_rfl) h⟩

def sh_links_Links_link_1 (n_1 v2 v3 v4 : Value) (E : List PanicEntry → World → Prop) (R : Value → World → Prop) (w : World) : Prop :=
 RUN Try.prog (Instr.loadAt 70 v2) w fun v5 w =>
 PURE Try.prog (NILS v5) fun v6 =>
 PURE Try.prog (Instr.fieldAt 127 v6 0) fun v7 =>
 RUN Try.prog (Instr.loadAt 72 v7) w fun v8 w =>
 PURE Try.prog (Instr.indexAt 72 v8 n_1) fun v9 =>
 RUN Try.prog (Instr.loadAt 3 v9) w fun v10 w =>
 LOOP1 (fun n_11 w next1 =>
 PURE Try.prog (BINS .geq 3 (.tmp 14) (.const (.int .i64 0)) n_11 (.int .i64 0)) fun v12 =>
 COND v12 (
 RUN Try.prog (Instr.loadAt 45 v3) w fun v13 w =>
 RUN Try.prog (Instr.loadAt 5 v4) w fun v14 w =>
 CALL Try.prog 74 [v13, n_11, v14] w E fun v15 w =>
 PURE Try.prog (BINS .geq 3 (.tmp 27) (.const (.int .i64 0)) v15 (.int .i64 0)) fun v16 =>
 COND v16 (
 R v15 w) (
 RUN Try.prog (Instr.loadAt 70 v2) w fun v17 w =>
 PURE Try.prog (NILS v17) fun v18 =>
 PURE Try.prog (Instr.fieldAt 127 v18 0) fun v19 =>
 RUN Try.prog (Instr.loadAt 72 v19) w fun v20 w =>
 PURE Try.prog (Instr.indexAt 72 v20 n_11) fun v21 =>
 RUN Try.prog (Instr.loadAt 3 v21) w fun v22 w =>
 next1 v22 w)) (
 R (.int .i64 0) w)) v10 w
theorem by_links_Links_link_1 {n_1 v2 v3 v4 : Value} {R : Value → World → Prop} {w : World} (h : sh_links_Links_link_1 n_1 v2 v3 v4 NOPE R w) : RET Try.prog 101 [n_1, v2, v3, v4] w R :=
  ⟨by kernel_rfl, calls_by [(2, [0])] Try.func101 (by kernel_rfl) (by kernel_rfl) (by kernel_rfl) h⟩

def sh_trie_Trie_Word (t_1 node_2 : Value) (E : List PanicEntry → World → Prop) (R : Value → World → Prop) (w : World) : Prop :=
 CALL Try.prog 81 [t_1, node_2] w E fun v3 w =>
 PURE Try.prog (Op.unary .not v3) fun v4 =>
 COND v4 (
 R (.int .i64 (-1)) w) (
 PURE Try.prog (NILS t_1) fun v5 =>
 PURE Try.prog (Instr.fieldAt 91 v5 0) fun v6 =>
 RUN Try.prog (Instr.loadAt 88 v6) w fun v7 w =>
 PURE Try.prog (Instr.indexAt 88 v7 node_2) fun v8 =>
 PURE Try.prog (Instr.fieldAt 87 v8 2) fun v9 =>
 RUN Try.prog (Instr.loadAt 3 v9) w fun v10 w =>
 R v10 w)
theorem by_trie_Trie_Word {t_1 node_2 : Value} {R : Value → World → Prop} {w : World} (h : sh_trie_Trie_Word t_1 node_2 NOPE R w) : RET Try.prog 102 [t_1, node_2] w R :=
  ⟨by kernel_rfl, calls_by [] Try.func102 (by kernel_rfl) (by kernel_rfl) (by kernel_rfl) h⟩

def sh_suffix_Max (b_1 turned_2 : Value) (E : List PanicEntry → World → Prop) (R : Value → World → Prop) (w : World) : Prop :=
 PURE Try.prog (Builtin.len_ #[42] 3 #[b_1]) fun v3 =>
 PURE Try.prog (BINS .eql 3 (.tmp 14) (.const (.int .i64 0)) v3 (.int .i64 0)) fun v4 =>
 COND v4 (
 R (.tuple #[(.int .i64 0), (.int .i64 0)]) w) (
 CALL Try.prog 112 [turned_2] w E fun v5 w =>
 RUN Try.prog (Instr.alloc 180 true (.tuple #[])) w fun o_6 w =>
 RUNU Try.prog (Instr.storeAt 180 o_6 v5) w fun w =>
 LOOP4 (fun at_7 next_8 k_9 per_10 w next1 =>
 PURE Try.prog (BINS .add 3 (.tmp 18) (.tmp 19) next_8 k_9) fun v11 =>
 PURE Try.prog (Builtin.len_ #[42] 3 #[b_1]) fun v12 =>
 PURE Try.prog (BINS .lss 3 (.tmp 20) (.tmp 22) v11 v12) fun v13 =>
 COND v13 (
 DRAWQ w fun S w =>
 PURE Try.prog (BINS .add 3 (.tmp 25) (.tmp 26) at_7 k_9) fun v14 =>
 PURE Try.prog (Instr.indexAt 42 b_1 v14) fun v15 =>
 READ Try.prog S (Instr.loadAt 5 v15) w fun v16 =>
 PURE Try.prog (BINS .add 3 (.tmp 31) (.tmp 32) next_8 k_9) fun v17 =>
 PURE Try.prog (Instr.indexAt 42 b_1 v17) fun v18 =>
 READ Try.prog S (Instr.loadAt 5 v18) w fun v19 =>
 PURE Try.prog (Instr.fieldAt 180 o_6 0) fun v20 =>
 RUN Try.prog (Instr.loadAt 178 v20) w fun v21 w =>
 CALLV Try.prog v21 [v19, v16] w E fun v22 w =>
 COND v22 (
 PURE Try.prog (BINS .add 3 (.tmp 46) (.const (.int .i64 1)) k_9 (.int .i64 1)) fun v23 =>
 PURE Try.prog (BINS .add 3 (.tmp 45) (.tmp 47) next_8 v23) fun v24 =>
 PURE Try.prog (BINS .sub 3 (.tmp 49) (.tmp 50) v24 at_7) fun v25 =>
 next1 at_7 v24 (.int .i64 0) v25 w) (
 JOIN1 (fun J2 =>
 PURE Try.prog (BINS .eql 5 (.tmp 53) (.tmp 54) v16 v19) fun v26 =>
 COND v26 (
 PURE Try.prog (BINS .add 3 (.tmp 57) (.const (.int .i64 1)) k_9 (.int .i64 1)) fun v27 =>
 PURE Try.prog (BINS .lss 3 (.tmp 58) (.tmp 59) v27 per_10) fun v28 =>
 J2 v28 w) (
 J2 (.bool false) w)) (fun v29 w =>
 COND v29 (
 PURE Try.prog (BINS .add 3 (.tmp 62) (.const (.int .i64 1)) k_9 (.int .i64 1)) fun v30 =>
 next1 at_7 next_8 v30 per_10 w) (
 PURE Try.prog (BINS .eql 5 (.tmp 65) (.tmp 66) v16 v19) fun v31 =>
 COND v31 (
 PURE Try.prog (BINS .add 3 (.tmp 68) (.tmp 69) next_8 per_10) fun v32 =>
 next1 at_7 v32 (.int .i64 0) per_10 w) (
 PURE Try.prog (BINS .add 3 (.tmp 37) (.const (.int .i64 1)) next_8 (.int .i64 1)) fun v33 =>
 next1 next_8 v33 (.int .i64 0) (.int .i64 1) w))))) (
 R (.tuple #[at_7, per_10]) w)) (.int .i64 0) (.int .i64 1) (.int .i64 0) (.int .i64 1) w)
theorem by_suffix_Max {b_1 turned_2 : Value} {R : Value → World → Prop} {w : World} (h : sh_suffix_Max b_1 turned_2 NOPE R w) : RET Try.prog 103 [b_1, turned_2] w R :=
  ⟨by kernel_rfl, calls_by [(5, [7, 8, 9, 10]), (22013, [52])] Try.func103 (by kernel_rfl) (by kernel_rfl) (by kernel_rfl) h⟩

def sh_shifts_Shifts_goes_1 (at_1 n_2 : Value) (E : List PanicEntry → World → Prop) (R : Value → World → Prop) (w : World) : Prop :=
 PURE Try.prog (NILS at_1) fun v3 =>
 RUN Try.prog (Instr.loadAt 3 v3) w fun v4 w =>
 PURE Try.prog (Builtin.min_ #[3, 3] 3 #[v4, n_2]) fun v5 =>
 PURE Try.prog (NILS at_1) fun v6 =>
 RUNU Try.prog (Instr.storeAt 3 v6 v5) w fun w =>
 R (.tuple #[]) w
theorem by_shifts_Shifts_goes_1 {at_1 n_2 : Value} {R : Value → World → Prop} {w : World} (h : sh_shifts_Shifts_goes_1 at_1 n_2 NOPE R w) : RET Try.prog 104 [at_1, n_2] w R :=
  ⟨by kernel_rfl, calls_by [] Try.func104 (by kernel_rfl) (by kernel_rfl) (by kernel_rfl) h⟩

def sh_trie_Trie_Find (t_1 b_2 : Value) (E : List PanicEntry → World → Prop) (R : Value → World → Prop) (w : World) : Prop :=
 CALL Try.prog 23 [t_1] w E fun v3 w =>
 PURE Try.prog (BINS .sub 3 (.tmp 9) (.const (.int .i64 1)) v3 (.int .i64 1)) fun v4 =>
 PURE Try.prog (Builtin.min_ #[3, 3] 3 #[(.int .i64 0), v4]) fun v5 =>
 PURE Try.prog (Builtin.len_ #[42] 3 #[b_2]) fun v6 =>
 LOOP2 (fun at_7 v8 w next1 =>
 PURE Try.prog (BINS .lss 3 (.tmp 14) (.tmp 13) v8 v6) fun v9 =>
 COND v9 (
 PURE Try.prog (Instr.indexAt 42 b_2 v8) fun v10 =>
 RUN Try.prog (Instr.loadAt 5 v10) w fun v11 w =>
 CALL Try.prog 74 [t_1, at_7, v11] w E fun v12 w =>
 PURE Try.prog (BINS .add 3 (.tmp 14) (.const (.int .i64 1)) v8 (.int .i64 1)) fun v13 =>
 next1 v12 v13 w) (
 R at_7 w)) v5 (.int .i64 0) w
theorem by_trie_Trie_Find {t_1 b_2 : Value} {R : Value → World → Prop} {w : World} (h : sh_trie_Trie_Find t_1 b_2 NOPE R w) : RET Try.prog 105 [t_1, b_2] w R :=
  ⟨by kernel_rfl, calls_by [(3, [5, 14])] Try.func105 (by kernel_rfl) (by kernel_rfl) (by kernel_rfl) h⟩

def sh_back_Back_Whole (b_1 node_2 : Value) (E : List PanicEntry → World → Prop) (R : Value → World → Prop) (w : World) : Prop :=
 PURE Try.prog (BINS .neq 117 (.tmp 5) (.const (.pointer Option.none)) b_1 (.pointer Option.none)) fun v3 =>
 COND v3 (
 PURE Try.prog (NILS b_1) fun v4 =>
 PURE Try.prog (Instr.fieldAt 156 v4 0) fun v5 =>
 RUN Try.prog (Instr.loadAt 45 v5) w fun v6 w =>
 CALL Try.prog 102 [v6, node_2] w E fun v7 w =>
 PURE Try.prog (BINS .geq 3 (.tmp 13) (.const (.int .i64 0)) v7 (.int .i64 0)) fun v8 =>
 R v8 w) (
 R (.bool false) w)
theorem by_back_Back_Whole {b_1 node_2 : Value} {R : Value → World → Prop} {w : World} (h : sh_back_Back_Whole b_1 node_2 NOPE R w) : RET Try.prog 106 [b_1, node_2] w R :=
  ⟨by kernel_rfl, calls_by [] Try.func106 (by kernel_rfl) (by kernel_rfl) (by kernel_rfl) h⟩

def sh_trie_Trie_Depth (t_1 node_2 : Value) (E : List PanicEntry → World → Prop) (R : Value → World → Prop) (w : World) : Prop :=
 CALL Try.prog 81 [t_1, node_2] w E fun v3 w =>
 PURE Try.prog (Op.unary .not v3) fun v4 =>
 COND v4 (
 R (.int .i64 0) w) (
 PURE Try.prog (NILS t_1) fun v5 =>
 PURE Try.prog (Instr.fieldAt 91 v5 0) fun v6 =>
 RUN Try.prog (Instr.loadAt 88 v6) w fun v7 w =>
 PURE Try.prog (Instr.indexAt 88 v7 node_2) fun v8 =>
 PURE Try.prog (Instr.fieldAt 87 v8 1) fun v9 =>
 RUN Try.prog (Instr.loadAt 3 v9) w fun v10 w =>
 R v10 w)
theorem by_trie_Trie_Depth {t_1 node_2 : Value} {R : Value → World → Prop} {w : World} (h : sh_trie_Trie_Depth t_1 node_2 NOPE R w) : RET Try.prog 107 [t_1, node_2] w R :=
  ⟨by kernel_rfl, calls_by [] Try.func107 (by kernel_rfl) (by kernel_rfl) (by kernel_rfl) h⟩

def sh_shifts_Shifts_Second (s_1 node_2 : Value) (E : List PanicEntry → World → Prop) (R : Value → World → Prop) (w : World) : Prop :=
 CALL Try.prog 113 [s_1, node_2] w E fun v3 w =>
 PURE Try.prog (Instr.index 161 v3 (.int .i64 1)) fun v4 =>
 R v4 w
theorem by_shifts_Shifts_Second {s_1 node_2 : Value} {R : Value → World → Prop} {w : World} (h : sh_shifts_Shifts_Second s_1 node_2 NOPE R w) : RET Try.prog 108 [s_1, node_2] w R :=
  ⟨by kernel_rfl, calls_by [] Try.func108 (by kernel_rfl) (by kernel_rfl) (by kernel_rfl) h⟩

def sh_shifts_Shifts_Far (s_1 node_2 c_3 : Value) (E : List PanicEntry → World → Prop) (R : Value → World → Prop) (w : World) : Prop :=
 CALL Try.prog 113 [s_1, node_2] w E fun v4 w =>
 RUN Try.prog (Instr.alloc 161 true (.tuple #[])) w fun two_5 w =>
 RUNU Try.prog (Instr.storeAt 161 two_5 v4) w fun w =>
 RUN Try.prog (Instr.loadAt 161 two_5) w fun v6 w =>
 PURE Try.prog (Instr.build 161 #[]) fun v7 =>
 PURE Try.prog (BINS .eql 161 (.tmp 13) (.tmp 14) v6 v7) fun v8 =>
 COND v8 (
 R (.int .i64 0) w) (
 PURE Try.prog (NILS s_1) fun v9 =>
 PURE Try.prog (Instr.fieldAt 160 v9 0) fun v10 =>
 RUN Try.prog (Instr.loadAt 117 v10) w fun v11 w =>
 CALL Try.prog 97 [v11] w E fun v12 w =>
 PURE Try.prog (BINS .add 3 (.tmp 20) (.const (.int .i64 1)) v12 (.int .i64 1)) fun v13 =>
 JOIN1 (fun J1 =>
 PURE Try.prog (NILS s_1) fun v14 =>
 PURE Try.prog (Instr.fieldAt 160 v14 0) fun v15 =>
 RUN Try.prog (Instr.loadAt 117 v15) w fun v16 w =>
 CALL Try.prog 114 [v16, c_3] w E fun v17 w =>
 PURE Try.prog (BINS .gtr 3 (.tmp 28) (.const (.int .i64 0)) v17 (.int .i64 0)) fun v18 =>
 COND v18 (
 PURE Try.prog (Builtin.min_ #[3, 3] 3 #[v13, v17]) fun v19 =>
 J1 v19 w) (
 J1 v13 w)) (fun k_20 w =>
 DRAW w fun S w =>
 PURE Try.prog (Instr.indexAt 161 two_5 (.int .i64 1)) fun v21 =>
 READ Try.prog S (Instr.loadAt 3 v21) w fun v22 =>
 PURE Try.prog (Instr.indexAt 161 two_5 (.int .i64 0)) fun v23 =>
 READ Try.prog S (Instr.loadAt 3 v23) w fun v24 =>
 PURE Try.prog (NILS s_1) fun v25 =>
 PURE Try.prog (Instr.fieldAt 160 v25 0) fun v26 =>
 READ Try.prog S (Instr.loadAt 117 v26) w fun v27 =>
 PURE Try.prog (NILS v27) fun v28 =>
 PURE Try.prog (Instr.fieldAt 156 v28 0) fun v29 =>
 READ Try.prog S (Instr.loadAt 45 v29) w fun v30 =>
 CALL Try.prog 107 [v30, node_2] w E fun v31 w =>
 KEEPS S w fun S =>
 PURE Try.prog (BINS .sub 3 (.tmp 37) (.tmp 46) k_20 v31) fun v32 =>
 PURE Try.prog (BINS .sub 3 (.tmp 47) (.const (.int .i64 1)) v32 (.int .i64 1)) fun v33 =>
 PURE Try.prog (Builtin.max_ #[3, 3] 3 #[v24, v33]) fun v34 =>
 PURE Try.prog (Builtin.min_ #[3, 3] 3 #[v22, v34]) fun v35 =>
 R v35 w))
theorem by_shifts_Shifts_Far {s_1 node_2 c_3 : Value} {R : Value → World → Prop} {w : World} (h : sh_shifts_Shifts_Far s_1 node_2 c_3 NOPE R w) : RET Try.prog 109 [s_1, node_2, c_3] w R :=
  ⟨by kernel_rfl, calls_by [(15008, [8])] Try.func109 (by kernel_rfl) (by kernel_rfl) (by kernel_rfl) h⟩

def sh_math_bits_Mul32 (x_1 y_2 : Value) (E : List PanicEntry → World → Prop) (R : Value → World → Prop) (w : World) : Prop :=
 PURE Try.prog (convert 173 75 x_1) fun v3 =>
 PURE Try.prog (convert 173 75 y_2) fun v4 =>
 PURE Try.prog (BINS .mul 75 (.tmp 8) (.tmp 10) v3 v4) fun v5 =>
 PURE Try.prog (BINS .shr 75 (.tmp 12) (.const (.int .u64 32)) v5 (.int .u64 32)) fun v6 =>
 PURE Try.prog (convert 75 173 v6) fun v7 =>
 PURE Try.prog (convert 75 173 v5) fun v8 =>
 R (.tuple #[v7, v8]) w
theorem by_math_bits_Mul32 {x_1 y_2 : Value} {R : Value → World → Prop} {w : World} (h : sh_math_bits_Mul32 x_1 y_2 NOPE R w) : RET Try.prog 110 [x_1, y_2] w R :=
  ⟨by kernel_rfl, calls_by [] Try.func110 (by kernel_rfl) (by kernel_rfl) (by kernel_rfl) h⟩

def sh_math_bits_Mul64 (x_1 y_2 : Value) (E : List PanicEntry → World → Prop) (R : Value → World → Prop) (w : World) : Prop :=
 PURE Try.prog (BINS .and 75 (.tmp 14) (.const (.int .u64 4294967295)) x_1 (.int .u64 4294967295)) fun v3 =>
 PURE Try.prog (BINS .shr 75 (.tmp 16) (.const (.int .u64 32)) x_1 (.int .u64 32)) fun v4 =>
 PURE Try.prog (BINS .and 75 (.tmp 18) (.const (.int .u64 4294967295)) y_2 (.int .u64 4294967295)) fun v5 =>
 PURE Try.prog (BINS .shr 75 (.tmp 20) (.const (.int .u64 32)) y_2 (.int .u64 32)) fun v6 =>
 PURE Try.prog (BINS .mul 75 (.tmp 22) (.tmp 23) v3 v5) fun v7 =>
 PURE Try.prog (BINS .mul 75 (.tmp 25) (.tmp 26) v4 v5) fun v8 =>
 PURE Try.prog (BINS .shr 75 (.tmp 28) (.const (.int .u64 32)) v7 (.int .u64 32)) fun v9 =>
 PURE Try.prog (BINS .add 75 (.tmp 27) (.tmp 29) v8 v9) fun v10 =>
 PURE Try.prog (BINS .and 75 (.tmp 31) (.const (.int .u64 4294967295)) v10 (.int .u64 4294967295)) fun v11 =>
 PURE Try.prog (BINS .shr 75 (.tmp 33) (.const (.int .u64 32)) v10 (.int .u64 32)) fun v12 =>
 PURE Try.prog (BINS .mul 75 (.tmp 36) (.tmp 37) v3 v6) fun v13 =>
 PURE Try.prog (BINS .add 75 (.tmp 35) (.tmp 38) v11 v13) fun v14 =>
 PURE Try.prog (BINS .mul 75 (.tmp 40) (.tmp 41) v4 v6) fun v15 =>
 PURE Try.prog (BINS .add 75 (.tmp 42) (.tmp 43) v15 v12) fun v16 =>
 PURE Try.prog (BINS .shr 75 (.tmp 45) (.const (.int .u64 32)) v14 (.int .u64 32)) fun v17 =>
 PURE Try.prog (BINS .add 75 (.tmp 44) (.tmp 46) v16 v17) fun v18 =>
 PURE Try.prog (BINS .mul 75 (.tmp 48) (.tmp 49) x_1 y_2) fun v19 =>
 R (.tuple #[v18, v19]) w
theorem by_math_bits_Mul64 {x_1 y_2 : Value} {R : Value → World → Prop} {w : World} (h : sh_math_bits_Mul64 x_1 y_2 NOPE R w) : RET Try.prog 111 [x_1, y_2] w R :=
  ⟨by kernel_rfl, calls_by [] Try.func111 (by kernel_rfl) (by kernel_rfl) (by kernel_rfl) h⟩

def sh_suffix_by (turned_1 : Value) (E : List PanicEntry → World → Prop) (R : Value → World → Prop) (w : World) : Prop :=
 RUN Try.prog (Instr.box 4 turned_1) w fun turned_2 w =>
 RUN Try.prog (Instr.alloc 180 true (.tuple #[])) w fun v3 w =>
 PURE Try.prog (Instr.makeFunc (Go.Fn.func 115) #[] #[turned_2]) fun v4 =>
 PURE Try.prog (Instr.build 180 #[(0, v4)]) fun v5 =>
 RUNU Try.prog (Instr.storeAt 180 v3 v5) w fun w =>
 LOADRES Try.prog 180 v3 w fun r => R r w
theorem by_suffix_by {turned_1 : Value} {R : Value → World → Prop} {w : World} (h : sh_suffix_by turned_1 NOPE R w) : RET Try.prog 112 [turned_1] w R :=
  ⟨by kernel_rfl, calls_by [] Try.func112 (by kernel_rfl) (by kernel_rfl) (by kernel_rfl) h⟩

def sh_shifts_Shifts_of (s_1 node_2 : Value) (E : List PanicEntry → World → Prop) (R : Value → World → Prop) (w : World) : Prop :=
 RUN Try.prog (Instr.alloc 161 true (.tuple #[])) w fun v3 w =>
 JOIN0 (fun J1 =>
 PURE Try.prog (BINS .eql 119 (.tmp 5) (.const (.pointer Option.none)) s_1 (.pointer Option.none)) fun v4 =>
 COND v4 (
 COND (.bool true) (
 PURE Try.prog (Instr.build 161 #[]) fun v5 =>
 RUNU Try.prog (Instr.storeAt 161 v3 v5) w fun w =>
 LOADRES Try.prog 161 v3 w fun r => R r w) (
 J1 w)) (
 PURE Try.prog (BINS .lss 3 (.tmp 8) (.const (.int .i64 0)) node_2 (.int .i64 0)) fun v6 =>
 COND v6 (
 COND (.bool true) (
 PURE Try.prog (Instr.build 161 #[]) fun v7 =>
 RUNU Try.prog (Instr.storeAt 161 v3 v7) w fun w =>
 LOADRES Try.prog 161 v3 w fun r => R r w) (
 J1 w)) (
 PURE Try.prog (NILS s_1) fun v8 =>
 PURE Try.prog (Instr.fieldAt 160 v8 1) fun v9 =>
 RUN Try.prog (Instr.loadAt 158 v9) w fun v10 w =>
 PURE Try.prog (Builtin.len_ #[158] 3 #[v10]) fun v11 =>
 PURE Try.prog (BINS .geq 3 (.tmp 12) (.tmp 17) node_2 v11) fun v12 =>
 COND v12 (
 PURE Try.prog (Instr.build 161 #[]) fun v13 =>
 RUNU Try.prog (Instr.storeAt 161 v3 v13) w fun w =>
 LOADRES Try.prog 161 v3 w fun r => R r w) (
 J1 w)))) (fun w =>
 PURE Try.prog (NILS s_1) fun v14 =>
 PURE Try.prog (Instr.fieldAt 160 v14 1) fun v15 =>
 RUN Try.prog (Instr.loadAt 158 v15) w fun v16 w =>
 PURE Try.prog (Instr.indexAt 158 v16 node_2) fun v17 =>
 RUN Try.prog (Instr.loadAt 161 v17) w fun v18 w =>
 RUNU Try.prog (Instr.storeAt 161 v3 v18) w fun w =>
 LOADRES Try.prog 161 v3 w fun r => R r w)
theorem by_shifts_Shifts_of {s_1 node_2 : Value} {R : Value → World → Prop} {w : World} (h : sh_shifts_Shifts_of s_1 node_2 NOPE R w) : RET Try.prog 113 [s_1, node_2] w R :=
  ⟨by kernel_rfl, calls_by [(11003, [])] Try.func113 (by kernel_rfl) (by kernel_rfl) (by kernel_rfl) h⟩

def sh_back_Back_Near (b_1 c_2 : Value) (E : List PanicEntry → World → Prop) (R : Value → World → Prop) (w : World) : Prop :=
 PURE Try.prog (BINS .eql 117 (.tmp 5) (.const (.pointer Option.none)) b_1 (.pointer Option.none)) fun v3 =>
 COND v3 (
 R (.int .i64 0) w) (
 PURE Try.prog (NILS b_1) fun v4 =>
 PURE Try.prog (Instr.fieldAt 156 v4 2) fun v5 =>
 PURE Try.prog (Instr.indexAt 31 v5 c_2) fun v6 =>
 RUN Try.prog (Instr.loadAt 3 v6) w fun v7 w =>
 R v7 w)
theorem by_back_Back_Near {b_1 c_2 : Value} {R : Value → World → Prop} {w : World} (h : sh_back_Back_Near b_1 c_2 NOPE R w) : RET Try.prog 114 [b_1, c_2] w R :=
  ⟨by kernel_rfl, calls_by [] Try.func114 (by kernel_rfl) (by kernel_rfl) (by kernel_rfl) h⟩

def sh_suffix_by_1 (a_1 b_2 v3 : Value) (E : List PanicEntry → World → Prop) (R : Value → World → Prop) (w : World) : Prop :=
 PURE Try.prog (BINS .neq 5 (.tmp 6) (.tmp 7) a_1 b_2) fun v4 =>
 COND v4 (
 PURE Try.prog (BINS .lss 5 (.tmp 10) (.tmp 11) a_1 b_2) fun v5 =>
 RUN Try.prog (Instr.loadAt 4 v3) w fun v6 w =>
 PURE Try.prog (BINS .neq 4 (.tmp 12) (.tmp 13) v5 v6) fun v7 =>
 R v7 w) (
 R (.bool false) w)
theorem by_suffix_by_1 {a_1 b_2 v3 : Value} {R : Value → World → Prop} {w : World} (h : sh_suffix_by_1 a_1 b_2 v3 NOPE R w) : RET Try.prog 115 [a_1, b_2, v3] w R :=
  ⟨by kernel_rfl, calls_by [] Try.func115 (by kernel_rfl) (by kernel_rfl) (by kernel_rfl) h⟩
end Go.Proofs.Ytopdjdkkhpkmiaa.Y
