import Derived.Test.YtgjfhmahiiokeaaGreatLib
import Derived.Test.YtgjfhmahiiokeaaGreatProg
import Derived.KernelRfl
set_option linter.unusedVariables false
set_option linter.unusedSimpArgs false
set_option linter.unusedVariables false
set_option maxRecDepth 100000
namespace Go.Proofs.YtgjfhmahiiokeaaGreat.Y
open Go Go.Sx
def sh_seinelaw17_EngineSame (l_1 line_2 a_3 b_4 : Value) (E : List PanicEntry → World → Prop) (R : Value → World → Prop) (w : World) : Prop :=
 CALL Tryz.prog 8 [] w E fun v5 w =>
 PURE Tryz.prog (Op.unary .not v5) fun v6 =>
 COND v6 (
 R (.bool false) w) (
 CALL Tryz.prog 9 [l_1] w E fun v7 w =>
 PURE Tryz.prog (Instr.extract v7 0) fun v8 =>
 PURE Tryz.prog (Instr.extract v7 1) fun v9 =>
 JOIN0 (fun J1 =>
 PURE Tryz.prog (Op.unary .not v9) fun v10 =>
 COND v10 (
 COND (.bool true) (
 R (.bool true) w) (
 J1 w)) (
 PURE Tryz.prog (Builtin.len_ #[23] 3 #[line_2]) fun v11 =>
 PURE Tryz.prog (BINS .gtr 3 (.tmp 29) (.const (.int .i64 300)) v11 (.int .i64 300)) fun v12 =>
 COND v12 (
 R (.bool true) w) (
 J1 w))) (fun w =>
 CALL Tryz.prog 10 [l_1] w E fun v13 w =>
 RUN Tryz.prog (Instr.alloc 30 true (.tuple #[])) w fun p_14 w =>
 RUNU Tryz.prog (Instr.storeAt 30 p_14 v13) w fun w =>
 PURE Tryz.prog (BINS .rem 5 (.tmp 35) (.const (.int .u8 4)) a_3 (.int .u8 4)) fun v15 =>
 PURE Tryz.prog (convert 5 3 v15) fun v16 =>
 RUN Tryz.prog (Instr.loadAt 30 p_14) w fun v17 w =>
 CALL Tryz.prog 11 [v16, v17] w E fun v18 w =>
 PURE Tryz.prog (Instr.extract v18 0) fun v19 =>
 PURE Tryz.prog (Instr.extract v18 1) fun v20 =>
 PURE Tryz.prog (BINS .rem 5 (.tmp 43) (.const (.int .u8 4)) b_4 (.int .u8 4)) fun v21 =>
 PURE Tryz.prog (convert 5 3 v21) fun v22 =>
 RUN Tryz.prog (Instr.loadAt 30 p_14) w fun v23 w =>
 CALL Tryz.prog 11 [v22, v23] w E fun v24 w =>
 PURE Tryz.prog (Instr.extract v24 0) fun v25 =>
 PURE Tryz.prog (Instr.extract v24 1) fun v26 =>
 JOIN1 (fun J2 =>
 PURE Tryz.prog (BINS .neq 33 (.tmp 50) (.const (.int .i64 0)) v20 (.int .i64 0)) fun v27 =>
 COND v27 (
 J2 (.bool true) w) (
 PURE Tryz.prog (BINS .neq 33 (.tmp 53) (.const (.int .i64 0)) v26 (.int .i64 0)) fun v28 =>
 J2 v28 w)) (fun v29 w =>
 COND v29 (
 PURE Tryz.prog (BINS .eql 33 (.tmp 56) (.const (.int .i64 0)) v20 (.int .i64 0)) fun v30 =>
 COND v30 (
 R (.bool true) w) (
 PURE Tryz.prog (BINS .eql 32 (.tmp 59) (.const (.pointer Option.none)) v19 (.pointer Option.none)) fun v31 =>
 COND v31 (
 PURE Tryz.prog (BINS .eql 33 (.tmp 62) (.const (.int .i64 13)) v20 (.int .i64 13)) fun v32 =>
 COND v32 (
 R (.bool true) w) (
 PURE Tryz.prog (BINS .eql 33 (.tmp 65) (.const (.int .i64 14)) v20 (.int .i64 14)) fun v33 =>
 R v33 w)) (
 R (.bool false) w))) (
 CALL Tryz.prog 13 [v19, (.pointer Option.none), line_2] w E fun v34 w =>
 CALL Tryz.prog 13 [v25, (.pointer Option.none), line_2] w E fun v35 w =>
 CALL Tryz.prog 12 [v34, v35] w E fun v36 w =>
 R v36 w))))
theorem by_seinelaw17_EngineSame {l_1 line_2 a_3 b_4 : Value} {R : Value → World → Prop} {w : World} (h : sh_seinelaw17_EngineSame l_1 line_2 a_3 b_4 NOPE R w) : RET Tryz.prog 3 [l_1, line_2, a_3, b_4] w R :=
  ⟨by kernel_rfl, calls_by [(15007, []), (20011, [55])] Tryz.func3 (by kernel_rfl) (by kernel_rfl) (by kernel_rfl) h⟩

def sh_seinelaw17_EngineFinds (tag_1 l_2 line_3 : Value) (E : List PanicEntry → World → Prop) (R : Value → World → Prop) (w : World) : Prop :=
 CALL Tryz.prog 8 [] w E fun v4 w =>
 PURE Tryz.prog (Op.unary .not v4) fun v5 =>
 COND v5 (
 R (.bool false) w) (
 CALL Tryz.prog 9 [l_2] w E fun v6 w =>
 PURE Tryz.prog (Instr.extract v6 0) fun v7 =>
 PURE Tryz.prog (Instr.extract v6 1) fun v8 =>
 CALL Tryz.prog 14 [line_3] w E fun v9 w =>
 JOIN0 (fun J1 =>
 PURE Tryz.prog (Op.unary .not v8) fun v10 =>
 COND v10 (
 COND (.bool true) (
 R (.bool true) w) (
 J1 w)) (
 PURE Tryz.prog (Op.unary .not v9) fun v11 =>
 COND v11 (
 R (.bool true) w) (
 J1 w))) (fun w =>
 CALL Tryz.prog 15 [v7] w E fun v12 w =>
 RUN Tryz.prog (Instr.alloc 42 true (.tuple #[])) w fun w_13 w =>
 RUNU Tryz.prog (Instr.storeAt 42 w_13 v12) w fun w =>
 CALL Tryz.prog 10 [l_2] w E fun v14 w =>
 CALL Tryz.prog 11 [tag_1, v14] w E fun v15 w =>
 PURE Tryz.prog (Instr.extract v15 0) fun v16 =>
 PURE Tryz.prog (Instr.extract v15 1) fun v17 =>
 RUN Tryz.prog (Instr.loadAt 42 w_13) w fun v18 w =>
 CALL Tryz.prog 16 [tag_1, v18] w E fun v19 w =>
 JOIN0 (fun J2 =>
 PURE Tryz.prog (BINS .neq 33 (.tmp 47) (.tmp 48) v17 v19) fun v20 =>
 COND v20 (
 COND (.bool true) (
 R (.bool false) w) (
 J2 w)) (
 PURE Tryz.prog (BINS .eql 32 (.tmp 51) (.const (.pointer Option.none)) v16 (.pointer Option.none)) fun v21 =>
 PURE Tryz.prog (BINS .neq 33 (.tmp 53) (.const (.int .i64 0)) v19 (.int .i64 0)) fun v22 =>
 PURE Tryz.prog (BINS .neq 4 (.tmp 52) (.tmp 54) v21 v22) fun v23 =>
 COND v23 (
 COND (.bool true) (
 R (.bool false) w) (
 J2 w)) (
 CALL Tryz.prog 17 [tag_1] w E fun v24 w =>
 PURE Tryz.prog (BINS .geq 3 (.tmp 60) (.const (.int .i64 0)) tag_1 (.int .i64 0)) fun v25 =>
 COND v25 (
 PURE Tryz.prog (BINS .leq 3 (.tmp 63) (.const (.int .i64 3)) tag_1 (.int .i64 3)) fun v26 =>
 PURE Tryz.prog (BINS .neq 4 (.tmp 59) (.tmp 65) v24 v26) fun v27 =>
 COND v27 (
 R (.bool false) w) (
 J2 w)) (
 PURE Tryz.prog (BINS .neq 4 (.tmp 59) (.tmp 65) v24 (.bool false)) fun v28 =>
 COND v28 (
 R (.bool false) w) (
 J2 w))))) (fun w =>
 CALL Tryz.prog 18 [] w E fun v29 w =>
 CALL Tryz.prog 13 [v16, v29, line_3] w E fun v30 w =>
 PURE Tryz.prog (BINS .neq 33 (.tmp 73) (.const (.int .i64 0)) v19 (.int .i64 0)) fun v31 =>
 COND v31 (
 PURE Tryz.prog (Builtin.len_ #[37] 3 #[v30]) fun v32 =>
 PURE Tryz.prog (BINS .eql 3 (.tmp 76) (.const (.int .i64 0)) v32 (.int .i64 0)) fun v33 =>
 COND v33 (
 CALL Tryz.prog 19 [v29] w E fun v34 w =>
 PURE Tryz.prog (Instr.build 49 #[]) fun v35 =>
 PURE Tryz.prog (BINS .eql 49 (.tmp 80) (.tmp 81) v34 v35) fun v36 =>
 COND v36 (
 CALL Tryz.prog 20 [v16] w E fun v37 w =>
 PURE Tryz.prog (BINS .eql 3 (.tmp 86) (.const (.int .i64 (-1))) v37 (.int .i64 (-1))) fun v38 =>
 R v38 w) (
 R (.bool false) w)) (
 R (.bool false) w)) (
 RUN Tryz.prog (Instr.loadAt 42 w_13) w fun v39 w =>
 RUN Tryz.prog (convert 23 9 line_3) w fun v40 w =>
 CALL Tryz.prog 21 [tag_1, v39, v40] w E fun v41 w =>
 PURE Tryz.prog (Instr.extract v41 0) fun v42 =>
 PURE Tryz.prog (Instr.extract v41 1) fun v43 =>
 RUN Tryz.prog (Instr.loadAt 42 w_13) w fun v44 w =>
 RUN Tryz.prog (convert 23 9 line_3) w fun v45 w =>
 CALL Tryz.prog 22 [v44, v45] w E fun v46 w =>
 CALL Tryz.prog 12 [v30, v46] w E fun v47 w =>
 COND v47 (
 CALL Tryz.prog 19 [v29] w E fun v48 w =>
 PURE Tryz.prog (Instr.build 49 #[(0, v42), (1, v43)]) fun v49 =>
 PURE Tryz.prog (BINS .eql 49 (.tmp 105) (.tmp 108) v48 v49) fun v50 =>
 COND v50 (
 CALL Tryz.prog 20 [v16] w E fun v51 w =>
 PURE Tryz.prog (BINS .eql 3 (.tmp 113) (.tmp 114) v51 tag_1) fun v52 =>
 R v52 w) (
 R (.bool false) w)) (
 R (.bool false) w)))))
theorem by_seinelaw17_EngineFinds {tag_1 l_2 line_3 : Value} {R : Value → World → Prop} {w : World} (h : sh_seinelaw17_EngineFinds tag_1 l_2 line_3 NOPE R w) : RET Tryz.prog 4 [tag_1, l_2, line_3] w R :=
  ⟨by kernel_rfl, calls_by [(16008, []), (21013, [])] Tryz.func4 (by kernel_rfl) (by kernel_rfl) (by kernel_rfl) h⟩

def sh_seinelaw17_EngineEmpty (l_1 line_2 a_3 : Value) (E : List PanicEntry → World → Prop) (R : Value → World → Prop) (w : World) : Prop :=
 CALL Tryz.prog 8 [] w E fun v4 w =>
 PURE Tryz.prog (Op.unary .not v4) fun v5 =>
 COND v5 (
 R (.bool false) w) (
 CALL Tryz.prog 9 [l_1] w E fun v6 w =>
 PURE Tryz.prog (Instr.extract v6 0) fun v7 =>
 PURE Tryz.prog (Instr.extract v6 1) fun v8 =>
 PURE Tryz.prog (BINS .rem 5 (.tmp 34) (.const (.int .u8 4)) a_3 (.int .u8 4)) fun v9 =>
 PURE Tryz.prog (convert 5 3 v9) fun v10 =>
 JOIN0 (fun J1 =>
 PURE Tryz.prog (Op.unary .not v8) fun v11 =>
 COND v11 (
 COND (.bool true) (
 R (.bool true) w) (
 J1 w)) (
 PURE Tryz.prog (Builtin.len_ #[23] 3 #[line_2]) fun v12 =>
 PURE Tryz.prog (BINS .gtr 3 (.tmp 41) (.const (.int .i64 300)) v12 (.int .i64 300)) fun v13 =>
 COND v13 (
 COND (.bool true) (
 R (.bool true) w) (
 J1 w)) (
 PURE Tryz.prog (BINS .eql 3 (.tmp 45) (.const (.int .i64 2)) v10 (.int .i64 2)) fun v14 =>
 COND v14 (
 R (.bool true) w) (
 J1 w)))) (fun w =>
 RUN Tryz.prog (Builtin.append_ #[22, 22] 22 #[(.slice Option.none 0 0), l_1]) w fun v15 w =>
 RUN Tryz.prog (Instr.buildSlice 22 1 #[(0, (.slice Option.none 0 0))]) w fun v16 w =>
 RUN Tryz.prog (Builtin.append_ #[22, 22] 22 #[v15, v16]) w fun v17 w =>
 CALL Tryz.prog 10 [v17] w E fun v18 w =>
 CALL Tryz.prog 11 [v10, v18] w E fun v19 w =>
 PURE Tryz.prog (Instr.extract v19 0) fun v20 =>
 PURE Tryz.prog (Instr.extract v19 1) fun v21 =>
 RUN Tryz.prog (Instr.buildSlice 23 0 #[]) w fun v22 w =>
 RUN Tryz.prog (Instr.buildSlice 22 2 #[(0, (.slice Option.none 0 0)), (1, v22)]) w fun v23 w =>
 CALL Tryz.prog 10 [v23] w E fun v24 w =>
 CALL Tryz.prog 11 [v10, v24] w E fun v25 w =>
 PURE Tryz.prog (Instr.extract v25 0) fun v26 =>
 PURE Tryz.prog (Instr.extract v25 1) fun v27 =>
 PURE Tryz.prog (BINS .neq 33 (.tmp 69) (.const (.int .i64 0)) v21 (.int .i64 0)) fun v28 =>
 COND v28 (
 PURE Tryz.prog (BINS .eql 3 (.tmp 71) (.const (.int .i64 1)) v10 (.int .i64 1)) fun v29 =>
 COND v29 (
 PURE Tryz.prog (BINS .eql 33 (.tmp 74) (.const (.int .i64 14)) v21 (.int .i64 14)) fun v30 =>
 COND v30 (
 PURE Tryz.prog (BINS .eql 32 (.tmp 78) (.const (.pointer Option.none)) v20 (.pointer Option.none)) fun v31 =>
 R v31 w) (
 R (.bool false) w)) (
 R (.bool false) w)) (
 CALL Tryz.prog 18 [] w E fun v32 w =>
 CALL Tryz.prog 13 [v26, v32, line_2] w E fun v33 w =>
 JOIN0 (fun J2 =>
 PURE Tryz.prog (BINS .neq 33 (.tmp 86) (.const (.int .i64 0)) v27 (.int .i64 0)) fun v34 =>
 COND v34 (
 COND (.bool true) (
 R (.bool false) w) (
 J2 w)) (
 CALL Tryz.prog 19 [v32] w E fun v35 w =>
 PURE Tryz.prog (Instr.build 49 #[]) fun v36 =>
 PURE Tryz.prog (BINS .neq 49 (.tmp 90) (.tmp 91) v35 v36) fun v37 =>
 COND v37 (
 COND (.bool true) (
 R (.bool false) w) (
 J2 w)) (
 PURE Tryz.prog (Builtin.len_ #[37] 3 #[v33]) fun v38 =>
 PURE Tryz.prog (Builtin.len_ #[23] 3 #[line_2]) fun v39 =>
 PURE Tryz.prog (BINS .add 3 (.tmp 98) (.const (.int .i64 1)) v39 (.int .i64 1)) fun v40 =>
 PURE Tryz.prog (BINS .neq 3 (.tmp 96) (.tmp 99) v38 v40) fun v41 =>
 COND v41 (
 R (.bool false) w) (
 J2 w)))) (fun w =>
 CALL Tryz.prog 13 [v20, (.pointer Option.none), line_2] w E fun v42 w =>
 LOOP3 (fun rest_43 k_44 i_45 w next3 =>
 PURE Tryz.prog (Builtin.len_ #[37] 3 #[v42]) fun v46 =>
 PURE Tryz.prog (BINS .lss 3 (.tmp 105) (.tmp 107) i_45 v46) fun v47 =>
 COND v47 (
 DRAWQ w fun S w =>
 PURE Tryz.prog (Instr.indexAt 37 v42 i_45) fun v48 =>
 PURE Tryz.prog (Instr.fieldAt 57 v48 0) fun v49 =>
 READ Tryz.prog S (Instr.loadAt 3 v49) w fun v50 =>
 PURE Tryz.prog (Instr.indexAt 37 v42 i_45) fun v51 =>
 PURE Tryz.prog (Instr.fieldAt 57 v51 1) fun v52 =>
 READ Tryz.prog S (Instr.loadAt 3 v52) w fun v53 =>
 PURE Tryz.prog (BINS .eql 3 (.tmp 115) (.tmp 120) v50 v53) fun v54 =>
 COND v54 (
 PURE Tryz.prog (Instr.indexAt 37 v42 i_45) fun v55 =>
 PURE Tryz.prog (Instr.fieldAt 57 v55 0) fun v56 =>
 RUN Tryz.prog (Instr.loadAt 3 v56) w fun v57 w =>
 PURE Tryz.prog (BINS .neq 3 (.tmp 126) (.tmp 127) v57 k_44) fun v58 =>
 COND v58 (
 R (.bool false) w) (
 PURE Tryz.prog (BINS .add 3 (.tmp 129) (.const (.int .i64 1)) k_44 (.int .i64 1)) fun v59 =>
 PURE Tryz.prog (BINS .add 3 (.tmp 109) (.const (.int .i64 1)) i_45 (.int .i64 1)) fun v60 =>
 next3 rest_43 v59 v60 w)) (
 PURE Tryz.prog (Instr.indexAt 37 v42 i_45) fun v61 =>
 RUN Tryz.prog (Instr.loadAt 57 v61) w fun v62 w =>
 RUN Tryz.prog (Instr.buildSlice 37 1 #[(0, v62)]) w fun v63 w =>
 RUN Tryz.prog (Builtin.append_ #[37, 37] 37 #[rest_43, v63]) w fun v64 w =>
 PURE Tryz.prog (BINS .add 3 (.tmp 109) (.const (.int .i64 1)) i_45 (.int .i64 1)) fun v65 =>
 next3 v64 k_44 v65 w)) (
 LOOP2 (fun plain_66 i_67 w next4 =>
 PURE Tryz.prog (Builtin.len_ #[22] 3 #[l_1]) fun v68 =>
 PURE Tryz.prog (BINS .lss 3 (.tmp 138) (.tmp 140) i_67 v68) fun v69 =>
 COND v69 (
 PURE Tryz.prog (Instr.indexAt 22 l_1 i_67) fun v70 =>
 RUN Tryz.prog (Instr.loadAt 23 v70) w fun v71 w =>
 PURE Tryz.prog (Builtin.len_ #[23] 3 #[v71]) fun v72 =>
 PURE Tryz.prog (BINS .gtr 3 (.tmp 148) (.const (.int .i64 0)) v72 (.int .i64 0)) fun v73 =>
 COND v73 (
 PURE Tryz.prog (Instr.indexAt 22 l_1 i_67) fun v74 =>
 RUN Tryz.prog (Instr.loadAt 23 v74) w fun v75 w =>
 RUN Tryz.prog (Instr.buildSlice 22 1 #[(0, v75)]) w fun v76 w =>
 RUN Tryz.prog (Builtin.append_ #[22, 22] 22 #[plain_66, v76]) w fun v77 w =>
 PURE Tryz.prog (BINS .add 3 (.tmp 142) (.const (.int .i64 1)) i_67 (.int .i64 1)) fun v78 =>
 next4 v77 v78 w) (
 PURE Tryz.prog (BINS .add 3 (.tmp 142) (.const (.int .i64 1)) i_67 (.int .i64 1)) fun v79 =>
 next4 plain_66 v79 w)) (
 CALL Tryz.prog 10 [plain_66] w E fun v80 w =>
 CALL Tryz.prog 11 [v10, v80] w E fun v81 w =>
 PURE Tryz.prog (Instr.extract v81 0) fun v82 =>
 PURE Tryz.prog (Instr.extract v81 1) fun v83 =>
 PURE Tryz.prog (Builtin.len_ #[23] 3 #[line_2]) fun v84 =>
 PURE Tryz.prog (BINS .add 3 (.tmp 166) (.const (.int .i64 1)) v84 (.int .i64 1)) fun v85 =>
 PURE Tryz.prog (BINS .eql 3 (.tmp 164) (.tmp 167) k_44 v85) fun v86 =>
 COND v86 (
 PURE Tryz.prog (BINS .eql 33 (.tmp 170) (.const (.int .i64 0)) v83 (.int .i64 0)) fun v87 =>
 COND v87 (
 CALL Tryz.prog 13 [v82, (.pointer Option.none), line_2] w E fun v88 w =>
 CALL Tryz.prog 12 [rest_43, v88] w E fun v89 w =>
 R v89 w) (
 R (.bool false) w)) (
 R (.bool false) w))) (.slice Option.none 0 0) (.int .i64 0) w)) (.slice Option.none 0 0) (.int .i64 0) (.int .i64 0) w))))
theorem by_seinelaw17_EngineEmpty {l_1 line_2 a_3 : Value} {R : Value → World → Prop} {w : World} (h : sh_seinelaw17_EngineEmpty l_1 line_2 a_3 NOPE R w) : RET Tryz.prog 5 [l_1, line_2, a_3] w R :=
  ⟨by kernel_rfl, calls_by [(23, [19, 20, 21]), (32, [22, 23]), (16008, []), (27019, [])] Tryz.func5 (by kernel_rfl) (by kernel_rfl) (by kernel_rfl) h⟩

def sh_seinelaw17_EngineErrors (l_1 tag_2 : Value) (E : List PanicEntry → World → Prop) (R : Value → World → Prop) (w : World) : Prop :=
 CALL Tryz.prog 8 [] w E fun v3 w =>
 PURE Tryz.prog (Op.unary .not v3) fun v4 =>
 COND v4 (
 R (.bool false) w) (
 CALL Tryz.prog 9 [l_1] w E fun v5 w =>
 PURE Tryz.prog (Instr.extract v5 0) fun v6 =>
 PURE Tryz.prog (Instr.extract v5 1) fun v7 =>
 PURE Tryz.prog (Op.unary .not v7) fun v8 =>
 COND v8 (
 R (.bool true) w) (
 CALL Tryz.prog 10 [l_1] w E fun v9 w =>
 RUN Tryz.prog (Instr.alloc 30 true (.tuple #[])) w fun p_10 w =>
 RUNU Tryz.prog (Instr.storeAt 30 p_10 v9) w fun w =>
 RUN Tryz.prog (Instr.loadAt 30 p_10) w fun v11 w =>
 CALL Tryz.prog 23 [v11] w E fun v12 w =>
 PURE Tryz.prog (Builtin.len_ #[22] 3 #[v12]) fun v13 =>
 RUN Tryz.prog (Instr.loadAt 30 p_10) w fun v14 w =>
 CALL Tryz.prog 11 [(.int .i64 0), v14] w E fun v15 w =>
 PURE Tryz.prog (Instr.extract v15 0) fun v16 =>
 PURE Tryz.prog (Instr.extract v15 1) fun v17 =>
 RUN Tryz.prog (Instr.loadAt 30 p_10) w fun v18 w =>
 CALL Tryz.prog 11 [(.int .i64 3), v18] w E fun v19 w =>
 PURE Tryz.prog (Instr.extract v19 0) fun v20 =>
 PURE Tryz.prog (Instr.extract v19 1) fun v21 =>
 RUN Tryz.prog (Instr.loadAt 30 p_10) w fun v22 w =>
 CALL Tryz.prog 11 [(.int .i64 2), v22] w E fun v23 w =>
 PURE Tryz.prog (Instr.extract v23 0) fun v24 =>
 PURE Tryz.prog (Instr.extract v23 1) fun v25 =>
 RUN Tryz.prog (Instr.loadAt 30 p_10) w fun v26 w =>
 CALL Tryz.prog 11 [(.int .i64 1), v26] w E fun v27 w =>
 PURE Tryz.prog (Instr.extract v27 0) fun v28 =>
 PURE Tryz.prog (Instr.extract v27 1) fun v29 =>
 RUN Tryz.prog (Instr.loadAt 30 p_10) w fun v30 w =>
 CALL Tryz.prog 11 [tag_2, v30] w E fun v31 w =>
 PURE Tryz.prog (Instr.extract v31 0) fun v32 =>
 PURE Tryz.prog (Instr.extract v31 1) fun v33 =>
 JOIN0 (fun J1 =>
 PURE Tryz.prog (BINS .neq 33 (.tmp 61) (.const (.int .i64 0)) v17 (.int .i64 0)) fun v34 =>
 COND v34 (
 COND (.bool true) (
 R (.bool false) w) (
 J1 w)) (
 PURE Tryz.prog (BINS .neq 33 (.tmp 64) (.const (.int .i64 0)) v21 (.int .i64 0)) fun v35 =>
 COND v35 (
 COND (.bool true) (
 R (.bool false) w) (
 J1 w)) (
 PURE Tryz.prog (BINS .eql 33 (.tmp 68) (.const (.int .i64 0)) v25 (.int .i64 0)) fun v36 =>
 PURE Tryz.prog (BINS .eql 3 (.tmp 70) (.const (.int .i64 1)) v13 (.int .i64 1)) fun v37 =>
 COND v37 (
 RUN Tryz.prog (Instr.loadAt 30 p_10) w fun v38 w =>
 CALL Tryz.prog 24 [v38] w E fun v39 w =>
 PURE Tryz.prog (Op.unary .not v39) fun v40 =>
 PURE Tryz.prog (BINS .neq 4 (.tmp 69) (.tmp 76) v36 v40) fun v41 =>
 COND v41 (
 COND (.bool true) (
 R (.bool false) w) (
 J1 w)) (
 PURE Tryz.prog (BINS .neq 33 (.tmp 80) (.const (.int .i64 0)) v25 (.int .i64 0)) fun v42 =>
 COND v42 (
 PURE Tryz.prog (BINS .neq 33 (.tmp 83) (.const (.int .i64 13)) v25 (.int .i64 13)) fun v43 =>
 COND v43 (
 COND (.bool true) (
 R (.bool false) w) (
 J1 w)) (
 PURE Tryz.prog (BINS .neq 33 (.tmp 88) (.const (.int .i64 0)) v29 (.int .i64 0)) fun v44 =>
 COND v44 (
 PURE Tryz.prog (BINS .neq 33 (.tmp 91) (.const (.int .i64 14)) v29 (.int .i64 14)) fun v45 =>
 COND v45 (
 R (.bool false) w) (
 J1 w)) (
 COND (.bool false) (
 R (.bool false) w) (
 J1 w)))) (
 PURE Tryz.prog (BINS .neq 33 (.tmp 88) (.const (.int .i64 0)) v29 (.int .i64 0)) fun v46 =>
 COND v46 (
 PURE Tryz.prog (BINS .neq 33 (.tmp 91) (.const (.int .i64 14)) v29 (.int .i64 14)) fun v47 =>
 COND v47 (
 R (.bool false) w) (
 J1 w)) (
 COND (.bool false) (
 R (.bool false) w) (
 J1 w))))) (
 PURE Tryz.prog (BINS .neq 4 (.tmp 69) (.tmp 76) v36 (.bool false)) fun v48 =>
 COND v48 (
 COND (.bool true) (
 R (.bool false) w) (
 J1 w)) (
 PURE Tryz.prog (BINS .neq 33 (.tmp 80) (.const (.int .i64 0)) v25 (.int .i64 0)) fun v49 =>
 COND v49 (
 PURE Tryz.prog (BINS .neq 33 (.tmp 83) (.const (.int .i64 13)) v25 (.int .i64 13)) fun v50 =>
 COND v50 (
 COND (.bool true) (
 R (.bool false) w) (
 J1 w)) (
 PURE Tryz.prog (BINS .neq 33 (.tmp 88) (.const (.int .i64 0)) v29 (.int .i64 0)) fun v51 =>
 COND v51 (
 PURE Tryz.prog (BINS .neq 33 (.tmp 91) (.const (.int .i64 14)) v29 (.int .i64 14)) fun v52 =>
 COND v52 (
 R (.bool false) w) (
 J1 w)) (
 COND (.bool false) (
 R (.bool false) w) (
 J1 w)))) (
 PURE Tryz.prog (BINS .neq 33 (.tmp 88) (.const (.int .i64 0)) v29 (.int .i64 0)) fun v53 =>
 COND v53 (
 PURE Tryz.prog (BINS .neq 33 (.tmp 91) (.const (.int .i64 14)) v29 (.int .i64 14)) fun v54 =>
 COND v54 (
 R (.bool false) w) (
 J1 w)) (
 COND (.bool false) (
 R (.bool false) w) (
 J1 w)))))))) (fun w =>
 JOIN0 (fun J2 =>
 PURE Tryz.prog (BINS .eql 33 (.tmp 95) (.const (.int .i64 14)) v29 (.int .i64 14)) fun v55 =>
 COND v55 (
 RUN Tryz.prog (Instr.loadAt 30 p_10) w fun v56 w =>
 CALL Tryz.prog 25 [v56] w E fun v57 w =>
 PURE Tryz.prog (BINS .lss 3 (.tmp 99) (.const (.int .i64 160)) v57 (.int .i64 160)) fun v58 =>
 COND v58 (
 COND (.bool true) (
 R (.bool false) w) (
 J2 w)) (
 PURE Tryz.prog (BINS .eql 33 (.tmp 103) (.const (.int .i64 0)) v29 (.int .i64 0)) fun v59 =>
 COND v59 (
 PURE Tryz.prog (BINS .eql 3 (.tmp 106) (.const (.int .i64 1)) v13 (.int .i64 1)) fun v60 =>
 COND v60 (
 RUN Tryz.prog (Instr.loadAt 30 p_10) w fun v61 w =>
 CALL Tryz.prog 25 [v61] w E fun v62 w =>
 PURE Tryz.prog (BINS .geq 3 (.tmp 111) (.const (.int .i64 160)) v62 (.int .i64 160)) fun v63 =>
 COND v63 (
 R (.bool false) w) (
 J2 w)) (
 COND (.bool false) (
 R (.bool false) w) (
 J2 w))) (
 COND (.bool false) (
 R (.bool false) w) (
 J2 w)))) (
 PURE Tryz.prog (BINS .eql 33 (.tmp 103) (.const (.int .i64 0)) v29 (.int .i64 0)) fun v64 =>
 COND v64 (
 PURE Tryz.prog (BINS .eql 3 (.tmp 106) (.const (.int .i64 1)) v13 (.int .i64 1)) fun v65 =>
 COND v65 (
 RUN Tryz.prog (Instr.loadAt 30 p_10) w fun v66 w =>
 CALL Tryz.prog 25 [v66] w E fun v67 w =>
 PURE Tryz.prog (BINS .geq 3 (.tmp 111) (.const (.int .i64 160)) v67 (.int .i64 160)) fun v68 =>
 COND v68 (
 R (.bool false) w) (
 J2 w)) (
 COND (.bool false) (
 R (.bool false) w) (
 J2 w))) (
 COND (.bool false) (
 R (.bool false) w) (
 J2 w)))) (fun w =>
 CALL Tryz.prog 17 [tag_2] w E fun v69 w =>
 COND v69 (
 R (.bool true) w) (
 PURE Tryz.prog (BINS .eql 33 (.tmp 118) (.const (.int .i64 11)) v33 (.int .i64 11)) fun v70 =>
 COND v70 (
 PURE Tryz.prog (BINS .eql 32 (.tmp 121) (.const (.pointer Option.none)) v32 (.pointer Option.none)) fun v71 =>
 COND v71 (
 PURE Tryz.prog (Builtin.len_ #[25] 3 #[v6]) fun v72 =>
 PURE Tryz.prog (Builtin.len_ #[22] 3 #[l_1]) fun v73 =>
 PURE Tryz.prog (BINS .eql 3 (.tmp 126) (.tmp 128) v72 v73) fun v74 =>
 R v74 w) (
 R (.bool false) w)) (
 R (.bool false) w))))))
theorem by_seinelaw17_EngineErrors {l_1 tag_2 : Value} {R : Value → World → Prop} {w : World} (h : sh_seinelaw17_EngineErrors l_1 tag_2 NOPE R w) : RET Tryz.prog 6 [l_1, tag_2] w R :=
  ⟨by kernel_rfl, calls_by [(24016, []), (26018, [])] Tryz.func6 (by kernel_rfl) (by kernel_rfl) (by kernel_rfl) h⟩

def sh_seinelaw17_EngineCounts (l_1 x_2 y_3 a_4 : Value) (E : List PanicEntry → World → Prop) (R : Value → World → Prop) (w : World) : Prop :=
 CALL Tryz.prog 8 [] w E fun v5 w =>
 PURE Tryz.prog (Op.unary .not v5) fun v6 =>
 COND v6 (
 R (.bool false) w) (
 CALL Tryz.prog 9 [l_1] w E fun v7 w =>
 PURE Tryz.prog (Instr.extract v7 0) fun v8 =>
 PURE Tryz.prog (Instr.extract v7 1) fun v9 =>
 PURE Tryz.prog (BINS .rem 5 (.tmp 27) (.const (.int .u8 4)) a_4 (.int .u8 4)) fun v10 =>
 PURE Tryz.prog (convert 5 3 v10) fun v11 =>
 JOIN0 (fun J1 =>
 PURE Tryz.prog (Op.unary .not v9) fun v12 =>
 COND v12 (
 COND (.bool true) (
 R (.bool true) w) (
 J1 w)) (
 PURE Tryz.prog (Builtin.len_ #[23] 3 #[x_2]) fun v13 =>
 PURE Tryz.prog (BINS .gtr 3 (.tmp 34) (.const (.int .i64 400)) v13 (.int .i64 400)) fun v14 =>
 COND v14 (
 COND (.bool true) (
 R (.bool true) w) (
 J1 w)) (
 PURE Tryz.prog (Builtin.len_ #[23] 3 #[y_3]) fun v15 =>
 PURE Tryz.prog (BINS .gtr 3 (.tmp 39) (.const (.int .i64 400)) v15 (.int .i64 400)) fun v16 =>
 COND v16 (
 R (.bool true) w) (
 J1 w)))) (fun w =>
 CALL Tryz.prog 10 [l_1] w E fun v17 w =>
 RUN Tryz.prog (Instr.alloc 30 true (.tuple #[])) w fun p_18 w =>
 RUNU Tryz.prog (Instr.storeAt 30 p_18 v17) w fun w =>
 RUN Tryz.prog (Instr.loadAt 30 p_18) w fun v19 w =>
 CALL Tryz.prog 11 [v11, v19] w E fun v20 w =>
 PURE Tryz.prog (Instr.extract v20 0) fun v21 =>
 PURE Tryz.prog (Instr.extract v20 1) fun v22 =>
 PURE Tryz.prog (BINS .neq 33 (.tmp 50) (.const (.int .i64 0)) v22 (.int .i64 0)) fun v23 =>
 COND v23 (
 PURE Tryz.prog (BINS .eql 32 (.tmp 52) (.const (.pointer Option.none)) v21 (.pointer Option.none)) fun v24 =>
 R v24 w) (
 CALL Tryz.prog 18 [] w E fun v25 w =>
 CALL Tryz.prog 13 [v21, v25, x_2] w E fun v26 w =>
 CALL Tryz.prog 13 [v21, v25, y_3] w E fun v27 w =>
 CALL Tryz.prog 19 [v25] w E fun v28 w =>
 RUN Tryz.prog (Instr.alloc 49 true (.tuple #[])) w fun c_29 w =>
 RUNU Tryz.prog (Instr.storeAt 49 c_29 v28) w fun w =>
 PURE Tryz.prog (Builtin.len_ #[23] 3 #[x_2]) fun v30 =>
 PURE Tryz.prog (Builtin.len_ #[23] 3 #[y_3]) fun v31 =>
 PURE Tryz.prog (BINS .add 3 (.tmp 66) (.tmp 68) v30 v31) fun v32 =>
 JOIN0 (fun J2 =>
 RUN Tryz.prog (Instr.loadAt 30 p_18) w fun v33 w =>
 CALL Tryz.prog 25 [v33] w E fun v34 w =>
 PURE Tryz.prog (BINS .eql 3 (.tmp 71) (.const (.int .i64 0)) v34 (.int .i64 0)) fun v35 =>
 COND v35 (
 COND (.bool true) (
 RUN Tryz.prog (Instr.loadAt 49 c_29) w fun v36 w =>
 PURE Tryz.prog (Instr.build 49 #[]) fun v37 =>
 PURE Tryz.prog (BINS .eql 49 (.tmp 77) (.tmp 78) v36 v37) fun v38 =>
 R v38 w) (
 J2 w)) (
 PURE Tryz.prog (BINS .gtr 3 (.tmp 74) (.const (.int .i64 1)) v11 (.int .i64 1)) fun v39 =>
 COND v39 (
 RUN Tryz.prog (Instr.loadAt 49 c_29) w fun v40 w =>
 PURE Tryz.prog (Instr.build 49 #[]) fun v41 =>
 PURE Tryz.prog (BINS .eql 49 (.tmp 77) (.tmp 78) v40 v41) fun v42 =>
 R v42 w) (
 J2 w))) (fun w =>
 PURE Tryz.prog (Instr.fieldAt 49 c_29 0) fun v43 =>
 RUN Tryz.prog (Instr.loadAt 3 v43) w fun v44 w =>
 PURE Tryz.prog (BINS .eql 3 (.tmp 81) (.tmp 82) v44 v32) fun v45 =>
 COND v45 (
 PURE Tryz.prog (Instr.fieldAt 49 c_29 1) fun v46 =>
 RUN Tryz.prog (Instr.loadAt 3 v46) w fun v47 w =>
 PURE Tryz.prog (BINS .geq 3 (.tmp 86) (.tmp 87) v47 v32) fun v48 =>
 COND v48 (
 PURE Tryz.prog (Instr.fieldAt 49 c_29 1) fun v49 =>
 RUN Tryz.prog (Instr.loadAt 3 v49) w fun v50 w =>
 PURE Tryz.prog (BINS .mul 3 (.const (.int .i64 2)) (.tmp 93) (.int .i64 2) v32) fun v51 =>
 PURE Tryz.prog (BINS .leq 3 (.tmp 92) (.tmp 94) v50 v51) fun v52 =>
 COND v52 (
 PURE Tryz.prog (BINS .neq 3 (.tmp 98) (.const (.int .i64 1)) v11 (.int .i64 1)) fun v53 =>
 COND v53 (
 PURE Tryz.prog (Instr.fieldAt 49 c_29 2) fun v54 =>
 RUN Tryz.prog (Instr.loadAt 3 v54) w fun v55 w =>
 PURE Tryz.prog (BINS .eql 3 (.tmp 109) (.const (.int .i64 0)) v55 (.int .i64 0)) fun v56 =>
 COND v56 (
 PURE Tryz.prog (Instr.fieldAt 49 c_29 3) fun v57 =>
 RUN Tryz.prog (Instr.loadAt 3 v57) w fun v58 w =>
 PURE Tryz.prog (BINS .eql 3 (.tmp 114) (.const (.int .i64 0)) v58 (.int .i64 0)) fun v59 =>
 R v59 w) (
 R (.bool false) w)) (
 PURE Tryz.prog (Instr.fieldAt 49 c_29 1) fun v60 =>
 RUN Tryz.prog (Instr.loadAt 3 v60) w fun v61 w =>
 PURE Tryz.prog (BINS .eql 3 (.tmp 102) (.tmp 103) v61 v32) fun v62 =>
 COND v62 (
 PURE Tryz.prog (Instr.fieldAt 49 c_29 2) fun v63 =>
 RUN Tryz.prog (Instr.loadAt 3 v63) w fun v64 w =>
 PURE Tryz.prog (BINS .eql 3 (.tmp 109) (.const (.int .i64 0)) v64 (.int .i64 0)) fun v65 =>
 COND v65 (
 PURE Tryz.prog (Instr.fieldAt 49 c_29 3) fun v66 =>
 RUN Tryz.prog (Instr.loadAt 3 v66) w fun v67 w =>
 PURE Tryz.prog (BINS .eql 3 (.tmp 114) (.const (.int .i64 0)) v67 (.int .i64 0)) fun v68 =>
 R v68 w) (
 R (.bool false) w)) (
 R (.bool false) w))) (
 R (.bool false) w)) (
 R (.bool false) w)) (
 R (.bool false) w)))))
theorem by_seinelaw17_EngineCounts {l_1 x_2 y_3 a_4 : Value} {R : Value → World → Prop} {w : World} (h : sh_seinelaw17_EngineCounts l_1 x_2 y_3 a_4 NOPE R w) : RET Tryz.prog 7 [l_1, x_2, y_3, a_4] w R :=
  ⟨by kernel_rfl, calls_by [(16008, []), (27019, [])] Tryz.func7 (by kernel_rfl) (by kernel_rfl) (by kernel_rfl) h⟩

def sh_seinelaw17_awake (E : List PanicEntry → World → Prop) (R : Value → World → Prop) (w : World) : Prop :=
 RUN Tryz.prog (Instr.buildSlice 23 2 #[(0, (.int .u8 97)), (1, (.int .u8 98))]) w fun v1 w =>
 RUN Tryz.prog (convert 23 23 v1) w fun v2 w =>
 RUN Tryz.prog (Instr.buildSlice 22 2 #[(0, v2), (1, (.slice Option.none 0 0))]) w fun v3 w =>
 CALL Tryz.prog 10 [v3] w E fun v4 w =>
 RUN Tryz.prog (Instr.alloc 30 true (.tuple #[])) w fun p_5 w =>
 RUNU Tryz.prog (Instr.storeAt 30 p_5 v4) w fun w =>
 RUN Tryz.prog (Instr.loadAt 30 p_5) w fun v6 w =>
 CALL Tryz.prog 11 [(.int .i64 3), v6] w E fun v7 w =>
 PURE Tryz.prog (Instr.extract v7 0) fun v8 =>
 PURE Tryz.prog (Instr.extract v7 1) fun v9 =>
 RUN Tryz.prog (Instr.loadAt 30 p_5) w fun v10 w =>
 CALL Tryz.prog 11 [(.int .i64 2), v10] w E fun v11 w =>
 PURE Tryz.prog (Instr.extract v11 0) fun v12 =>
 PURE Tryz.prog (Instr.extract v11 1) fun v13 =>
 RUN Tryz.prog (Instr.loadAt 30 p_5) w fun v14 w =>
 CALL Tryz.prog 11 [(.int .i64 4), v14] w E fun v15 w =>
 PURE Tryz.prog (Instr.extract v15 0) fun v16 =>
 PURE Tryz.prog (Instr.extract v15 1) fun v17 =>
 RUN Tryz.prog (Instr.buildSlice 23 2 #[(0, (.int .u8 97)), (1, (.int .u8 98))]) w fun v18 w =>
 RUN Tryz.prog (convert 23 23 v18) w fun v19 w =>
 CALL Tryz.prog 13 [v8, (.pointer Option.none), v19] w E fun v20 w =>
 PURE Tryz.prog (BINS .eql 33 (.tmp 32) (.const (.int .i64 0)) v9 (.int .i64 0)) fun v21 =>
 COND v21 (
 PURE Tryz.prog (BINS .eql 33 (.tmp 35) (.const (.int .i64 13)) v13 (.int .i64 13)) fun v22 =>
 COND v22 (
 PURE Tryz.prog (BINS .eql 33 (.tmp 39) (.const (.int .i64 11)) v17 (.int .i64 11)) fun v23 =>
 COND v23 (
 CALL Tryz.prog 17 [(.int .i64 3)] w E fun v24 w =>
 COND v24 (
 CALL Tryz.prog 17 [(.int .i64 (-1))] w E fun v25 w =>
 PURE Tryz.prog (Op.unary .not v25) fun v26 =>
 COND v26 (
 CALL Tryz.prog 20 [v8] w E fun v27 w =>
 PURE Tryz.prog (BINS .eql 3 (.tmp 51) (.const (.int .i64 3)) v27 (.int .i64 3)) fun v28 =>
 COND v28 (
 PURE Tryz.prog (Instr.build 57 #[]) fun v29 =>
 PURE Tryz.prog (Instr.build 57 #[(0, (.int .i64 0)), (1, (.int .i64 2))]) fun v30 =>
 PURE Tryz.prog (Instr.build 57 #[(0, (.int .i64 1)), (1, (.int .i64 1))]) fun v31 =>
 PURE Tryz.prog (Instr.build 57 #[(0, (.int .i64 2)), (1, (.int .i64 2))]) fun v32 =>
 RUN Tryz.prog (Instr.buildSlice 37 4 #[(0, v29), (1, v30), (2, v31), (3, v32)]) w fun v33 w =>
 CALL Tryz.prog 12 [v20, v33] w E fun v34 w =>
 R v34 w) (
 R (.bool false) w)) (
 R (.bool false) w)) (
 R (.bool false) w)) (
 R (.bool false) w)) (
 R (.bool false) w)) (
 R (.bool false) w)
theorem by_seinelaw17_awake {R : Value → World → Prop} {w : World} (h : sh_seinelaw17_awake NOPE R w) : RET Tryz.prog 8 [] w R :=
  ⟨by kernel_rfl, calls_by [] Tryz.func8 (by kernel_rfl) (by kernel_rfl) (by kernel_rfl) h⟩

def sh_seinelaw17_texts (l_1 : Value) (E : List PanicEntry → World → Prop) (R : Value → World → Prop) (w : World) : Prop :=
 LOOP2 (fun out_2 i_3 w next1 =>
 PURE Tryz.prog (Builtin.len_ #[22] 3 #[l_1]) fun v4 =>
 PURE Tryz.prog (BINS .lss 3 (.tmp 6) (.tmp 8) i_3 v4) fun v5 =>
 COND v5 (
 PURE Tryz.prog (Instr.indexAt 22 l_1 i_3) fun v6 =>
 RUN Tryz.prog (Instr.loadAt 23 v6) w fun v7 w =>
 PURE Tryz.prog (Builtin.len_ #[23] 3 #[v7]) fun v8 =>
 PURE Tryz.prog (BINS .gtr 3 (.tmp 16) (.const (.int .i64 40)) v8 (.int .i64 40)) fun v9 =>
 COND v9 (
 R (.tuple #[(.slice Option.none 0 0), (.bool false)]) w) (
 PURE Tryz.prog (Instr.indexAt 22 l_1 i_3) fun v10 =>
 RUN Tryz.prog (Instr.loadAt 23 v10) w fun v11 w =>
 RUN Tryz.prog (convert 23 9 v11) w fun v12 w =>
 RUN Tryz.prog (Instr.buildSlice 25 1 #[(0, v12)]) w fun v13 w =>
 RUN Tryz.prog (Builtin.append_ #[25, 25] 25 #[out_2, v13]) w fun v14 w =>
 PURE Tryz.prog (BINS .add 3 (.tmp 10) (.const (.int .i64 1)) i_3 (.int .i64 1)) fun v15 =>
 next1 v14 v15 w)) (
 PURE Tryz.prog (Builtin.len_ #[22] 3 #[l_1]) fun v16 =>
 PURE Tryz.prog (BINS .leq 3 (.tmp 28) (.const (.int .i64 12)) v16 (.int .i64 12)) fun v17 =>
 R (.tuple #[out_2, v17]) w)) (.slice Option.none 0 0) (.int .i64 0) w
theorem by_seinelaw17_texts {l_1 : Value} {R : Value → World → Prop} {w : World} (h : sh_seinelaw17_texts l_1 NOPE R w) : RET Tryz.prog 9 [l_1] w R :=
  ⟨by kernel_rfl, calls_by [(3, [4, 5])] Tryz.func9 (by kernel_rfl) (by kernel_rfl) (by kernel_rfl) h⟩

def sh_patset_Of (l_1 : Value) (E : List PanicEntry → World → Prop) (R : Value → World → Prop) (w : World) : Prop :=
 RUN Tryz.prog (Instr.alloc 30 true (.tuple #[])) w fun v2 w =>
 RUN Tryz.prog (Instr.makeMap 28 none) w fun v3 w =>
 PURE Tryz.prog (Instr.build 30 #[(1, v3)]) fun v4 =>
 RUN Tryz.prog (Instr.alloc 30 true (.tuple #[])) w fun s_5 w =>
 RUNU Tryz.prog (Instr.storeAt 30 s_5 v4) w fun w =>
 PURE Tryz.prog (Builtin.len_ #[22] 3 #[l_1]) fun v6 =>
 LOOP1 (fun v7 w next1 =>
 PURE Tryz.prog (BINS .lss 3 (.tmp 12) (.tmp 11) v7 v6) fun v8 =>
 COND v8 (
 PURE Tryz.prog (Instr.indexAt 22 l_1 v7) fun v9 =>
 RUN Tryz.prog (Instr.loadAt 23 v9) w fun v10 w =>
 PURE Tryz.prog (Builtin.len_ #[23] 3 #[v10]) fun v11 =>
 PURE Tryz.prog (BINS .eql 3 (.tmp 17) (.const (.int .i64 0)) v11 (.int .i64 0)) fun v12 =>
 COND v12 (
 PURE Tryz.prog (Instr.fieldAt 30 s_5 2) fun v13 =>
 RUNU Tryz.prog (Instr.storeAt 4 v13 (.bool true)) w fun w =>
 PURE Tryz.prog (BINS .add 3 (.tmp 12) (.const (.int .i64 1)) v7 (.int .i64 1)) fun v14 =>
 next1 v14 w) (
 PURE Tryz.prog (Instr.fieldAt 30 s_5 1) fun v15 =>
 RUN Tryz.prog (Instr.loadAt 28 v15) w fun v16 w =>
 RUN Tryz.prog (convert 23 9 v10) w fun v17 w =>
 RUN Tryz.prog (Instr.lookup 28 v16 v17 Bool.true) w fun v18 w =>
 PURE Tryz.prog (Instr.extract v18 0) fun v19 =>
 PURE Tryz.prog (Instr.extract v18 1) fun v20 =>
 PURE Tryz.prog (Op.unary .not v20) fun v21 =>
 COND v21 (
 PURE Tryz.prog (Instr.fieldAt 30 s_5 1) fun v22 =>
 RUN Tryz.prog (Instr.loadAt 28 v22) w fun v23 w =>
 RUN Tryz.prog (convert 23 9 v10) w fun v24 w =>
 PURE Tryz.prog (Instr.fieldAt 30 s_5 0) fun v25 =>
 RUN Tryz.prog (Instr.loadAt 22 v25) w fun v26 w =>
 PURE Tryz.prog (Builtin.len_ #[22] 3 #[v26]) fun v27 =>
 RUNU Tryz.prog (Instr.mapUpdate 28 v23 v24 v27) w fun w =>
 DRAW w fun S w =>
 PURE Tryz.prog (Instr.fieldAt 30 s_5 0) fun v28 =>
 READ Tryz.prog S (Instr.loadAt 22 v28) w fun v29 =>
 CALL Tryz.prog 26 [v10] w E fun v30 w =>
 KEEPS S w fun S =>
 RUN Tryz.prog (Instr.buildSlice 22 1 #[(0, v30)]) w fun v31 w =>
 KEEPS S w fun S =>
 RUN Tryz.prog (Builtin.append_ #[22, 22] 22 #[v29, v31]) w fun v32 w =>
 PURE Tryz.prog (Instr.fieldAt 30 s_5 0) fun v33 =>
 RUNU Tryz.prog (Instr.storeAt 22 v33 v32) w fun w =>
 PURE Tryz.prog (BINS .add 3 (.tmp 12) (.const (.int .i64 1)) v7 (.int .i64 1)) fun v34 =>
 next1 v34 w) (
 PURE Tryz.prog (BINS .add 3 (.tmp 12) (.const (.int .i64 1)) v7 (.int .i64 1)) fun v35 =>
 next1 v35 w))) (
 RUN Tryz.prog (Instr.loadAt 30 s_5) w fun v36 w =>
 RUNU Tryz.prog (Instr.storeAt 30 v2 v36) w fun w =>
 LOADRES Tryz.prog 30 v2 w fun r => R r w)) (.int .i64 0) w
theorem by_patset_Of {l_1 : Value} {R : Value → World → Prop} {w : World} (h : sh_patset_Of l_1 NOPE R w) : RET Tryz.prog 10 [l_1] w R :=
  ⟨by kernel_rfl, calls_by [(3, [12])] Tryz.func10 (by kernel_rfl) (by kernel_rfl) (by kernel_rfl) h⟩

def sh_engine_New (tag_1 p_2 : Value) (E : List PanicEntry → World → Prop) (R : Value → World → Prop) (w : World) : Prop :=
 RUN Tryz.prog (Instr.box 30 p_2) w fun p_3 w =>
 RUN Tryz.prog (Instr.loadAt 30 p_3) w fun v4 w =>
 CALL Tryz.prog 23 [v4] w E fun v5 w =>
 RUN Tryz.prog (Instr.loadAt 30 p_3) w fun v6 w =>
 PURE Tryz.prog (Instr.build 67 #[(0, tag_1), (1, v6)]) fun v7 =>
 RUN Tryz.prog (Instr.box 67 v7) w fun v8 w =>
 PURE Tryz.prog (BINS .eql 3 (.tmp 18) (.const (.int .i64 0)) tag_1 (.int .i64 0)) fun v9 =>
 COND v9 (
 CALL Tryz.prog 27 [v5] w E fun v10 w =>
 PURE Tryz.prog (Instr.makeInterface 68 v10) fun v11 =>
 PURE Tryz.prog (NILS v8) fun v12 =>
 PURE Tryz.prog (Instr.fieldAt 67 v12 2) fun v13 =>
 RUNU Tryz.prog (Instr.storeAt 65 v13 v11) w fun w =>
 R (.tuple #[v8, (.int .i64 0)]) w) (
 PURE Tryz.prog (BINS .eql 3 (.tmp 18) (.const (.int .i64 1)) tag_1 (.int .i64 1)) fun v14 =>
 COND v14 (
 CALL Tryz.prog 28 [v5] w E fun v15 w =>
 PURE Tryz.prog (Instr.extract v15 0) fun v16 =>
 PURE Tryz.prog (Instr.extract v15 1) fun v17 =>
 PURE Tryz.prog (BINS .neq 33 (.tmp 34) (.const (.int .i64 0)) v17 (.int .i64 0)) fun v18 =>
 COND v18 (
 R (.tuple #[(.pointer Option.none), v17]) w) (
 PURE Tryz.prog (Instr.makeInterface 70 v16) fun v19 =>
 PURE Tryz.prog (NILS v8) fun v20 =>
 PURE Tryz.prog (Instr.fieldAt 67 v20 2) fun v21 =>
 RUNU Tryz.prog (Instr.storeAt 65 v21 v19) w fun w =>
 R (.tuple #[v8, (.int .i64 0)]) w)) (
 PURE Tryz.prog (BINS .eql 3 (.tmp 18) (.const (.int .i64 2)) tag_1 (.int .i64 2)) fun v22 =>
 COND v22 (
 JOIN0 (fun J1 =>
 PURE Tryz.prog (Builtin.len_ #[22] 3 #[v5]) fun v23 =>
 PURE Tryz.prog (BINS .neq 3 (.tmp 45) (.const (.int .i64 1)) v23 (.int .i64 1)) fun v24 =>
 COND v24 (
 COND (.bool true) (
 R (.tuple #[(.pointer Option.none), (.int .i64 13)]) w) (
 J1 w)) (
 RUN Tryz.prog (Instr.loadAt 30 p_3) w fun v25 w =>
 CALL Tryz.prog 24 [v25] w E fun v26 w =>
 COND v26 (
 R (.tuple #[(.pointer Option.none), (.int .i64 13)]) w) (
 J1 w))) (fun w =>
 PURE Tryz.prog (Instr.indexAt 22 v5 (.int .i64 0)) fun v27 =>
 RUN Tryz.prog (Instr.loadAt 23 v27) w fun v28 w =>
 CALL Tryz.prog 29 [v28] w E fun v29 w =>
 PURE Tryz.prog (Instr.extract v29 0) fun v30 =>
 PURE Tryz.prog (Instr.extract v29 1) fun v31 =>
 PURE Tryz.prog (Instr.makeFunc (Go.Fn.func 30) #[v30] #[]) fun v32 =>
 PURE Tryz.prog (Instr.build 78 #[(0, v32)]) fun v33 =>
 PURE Tryz.prog (Instr.makeInterface 78 v33) fun v34 =>
 PURE Tryz.prog (NILS v8) fun v35 =>
 PURE Tryz.prog (Instr.fieldAt 67 v35 2) fun v36 =>
 RUNU Tryz.prog (Instr.storeAt 65 v36 v34) w fun w =>
 R (.tuple #[v8, (.int .i64 0)]) w)) (
 PURE Tryz.prog (BINS .eql 3 (.tmp 18) (.const (.int .i64 3)) tag_1 (.int .i64 3)) fun v37 =>
 COND v37 (
 CALL Tryz.prog 31 [v5] w E fun v38 w =>
 PURE Tryz.prog (Instr.makeFunc (Go.Fn.func 32) #[v38] #[]) fun v39 =>
 PURE Tryz.prog (Instr.build 78 #[(0, v39)]) fun v40 =>
 PURE Tryz.prog (Instr.makeInterface 78 v40) fun v41 =>
 PURE Tryz.prog (NILS v8) fun v42 =>
 PURE Tryz.prog (Instr.fieldAt 67 v42 2) fun v43 =>
 RUNU Tryz.prog (Instr.storeAt 65 v43 v41) w fun w =>
 R (.tuple #[v8, (.int .i64 0)]) w) (
 R (.tuple #[(.pointer Option.none), (.int .i64 11)]) w))))
theorem by_engine_New {tag_1 p_2 : Value} {R : Value → World → Prop} {w : World} (h : sh_engine_New tag_1 p_2 NOPE R w) : RET Tryz.prog 11 [tag_1, p_2] w R :=
  ⟨by kernel_rfl, calls_by [(23015, [])] Tryz.func11 (by kernel_rfl) (by kernel_rfl) (by kernel_rfl) h⟩

def sh_seineref03_Same (a_1 b_2 : Value) (E : List PanicEntry → World → Prop) (R : Value → World → Prop) (w : World) : Prop :=
 PURE Tryz.prog (Builtin.len_ #[37] 3 #[a_1]) fun v3 =>
 PURE Tryz.prog (Builtin.len_ #[37] 3 #[b_2]) fun v4 =>
 PURE Tryz.prog (BINS .neq 3 (.tmp 7) (.tmp 9) v3 v4) fun v5 =>
 COND v5 (
 R (.bool false) w) (
 LOOP1 (fun i_6 w next1 =>
 PURE Tryz.prog (Builtin.len_ #[37] 3 #[a_1]) fun v7 =>
 PURE Tryz.prog (BINS .lss 3 (.tmp 11) (.tmp 13) i_6 v7) fun v8 =>
 COND v8 (
 DRAWQ w fun S w =>
 PURE Tryz.prog (Instr.indexAt 37 a_1 i_6) fun v9 =>
 READ Tryz.prog S (Instr.loadAt 57 v9) w fun v10 =>
 PURE Tryz.prog (Instr.indexAt 37 b_2 i_6) fun v11 =>
 READ Tryz.prog S (Instr.loadAt 57 v11) w fun v12 =>
 PURE Tryz.prog (BINS .neq 57 (.tmp 20) (.tmp 24) v10 v12) fun v13 =>
 COND v13 (
 R (.bool false) w) (
 PURE Tryz.prog (BINS .add 3 (.tmp 15) (.const (.int .i64 1)) i_6 (.int .i64 1)) fun v14 =>
 next1 v14 w)) (
 R (.bool true) w)) (.int .i64 0) w)
theorem by_seineref03_Same {a_1 b_2 : Value} {R : Value → World → Prop} {w : World} (h : sh_seineref03_Same a_1 b_2 NOPE R w) : RET Tryz.prog 12 [a_1, b_2] w R :=
  ⟨by kernel_rfl, calls_by [(4, [5])] Tryz.func12 (by kernel_rfl) (by kernel_rfl) (by kernel_rfl) h⟩

def sh_engine_Engine_Find (e_1 m_2 line_3 : Value) (E : List PanicEntry → World → Prop) (R : Value → World → Prop) (w : World) : Prop :=
 PURE Tryz.prog (BINS .eql 32 (.tmp 8) (.const (.pointer Option.none)) e_1 (.pointer Option.none)) fun v4 =>
 COND v4 (
 R (.slice Option.none 0 0) w) (
 JOIN1 (fun J1 =>
 PURE Tryz.prog (NILS e_1) fun v5 =>
 PURE Tryz.prog (Instr.fieldAt 67 v5 1) fun v6 =>
 RUN Tryz.prog (Instr.loadAt 30 v6) w fun v7 w =>
 CALL Tryz.prog 33 [v7] w E fun v8 w =>
 PURE Tryz.prog (BINS .gtr 3 (.tmp 14) (.const (.int .i64 0)) v8 (.int .i64 0)) fun v9 =>
 COND v9 (
 PURE Tryz.prog (NILS e_1) fun v10 =>
 PURE Tryz.prog (Instr.fieldAt 67 v10 2) fun v11 =>
 RUN Tryz.prog (Instr.loadAt 65 v11) w fun v12 w =>
 CALLI Tryz.prog v12 "Scan" [m_2, line_3] w E fun v13 w =>
 J1 v13 w) (
 J1 (.slice Option.none 0 0) w)) (fun out_14 w =>
 PURE Tryz.prog (NILS e_1) fun v15 =>
 PURE Tryz.prog (Instr.fieldAt 67 v15 1) fun v16 =>
 RUN Tryz.prog (Instr.loadAt 30 v16) w fun v17 w =>
 CALL Tryz.prog 24 [v17] w E fun v18 w =>
 COND v18 (
 PURE Tryz.prog (Builtin.len_ #[23] 3 #[line_3]) fun v19 =>
 CALL Tryz.prog 35 [v19] w E fun v20 w =>
 CALL Tryz.prog 34 [out_14, v20] w E fun v21 w =>
 R v21 w) (
 R out_14 w)))
theorem by_engine_Engine_Find {e_1 m_2 line_3 : Value} {R : Value → World → Prop} {w : World} (h : sh_engine_Engine_Find e_1 m_2 line_3 NOPE R w) : RET Tryz.prog 13 [e_1, m_2, line_3] w R :=
  ⟨by kernel_rfl, calls_by [(14006, [7])] Tryz.func13 (by kernel_rfl) (by kernel_rfl) (by kernel_rfl) h⟩

def sh_seinelaw17_few (b_1 : Value) (E : List PanicEntry → World → Prop) (R : Value → World → Prop) (w : World) : Prop :=
 PURE Tryz.prog (Builtin.len_ #[23] 3 #[b_1]) fun v2 =>
 PURE Tryz.prog (BINS .leq 3 (.tmp 4) (.const (.int .i64 120)) v2 (.int .i64 120)) fun v3 =>
 R v3 w
theorem by_seinelaw17_few {b_1 : Value} {R : Value → World → Prop} {w : World} (h : sh_seinelaw17_few b_1 NOPE R w) : RET Tryz.prog 14 [b_1] w R :=
  ⟨by kernel_rfl, calls_by [] Tryz.func14 (by kernel_rfl) (by kernel_rfl) (by kernel_rfl) h⟩

def sh_seineref04_Of (l_1 : Value) (E : List PanicEntry → World → Prop) (R : Value → World → Prop) (w : World) : Prop :=
 RUN Tryz.prog (Instr.alloc 42 true (.tuple #[])) w fun v2 w =>
 PURE Tryz.prog (Instr.build 42 #[]) fun v3 =>
 RUN Tryz.prog (Instr.alloc 42 true (.tuple #[])) w fun s_4 w =>
 RUNU Tryz.prog (Instr.storeAt 42 s_4 v3) w fun w =>
 LOOP1 (fun i_5 w next1 =>
 PURE Tryz.prog (Builtin.len_ #[25] 3 #[l_1]) fun v6 =>
 PURE Tryz.prog (BINS .lss 3 (.tmp 6) (.tmp 8) i_5 v6) fun v7 =>
 COND v7 (
 PURE Tryz.prog (Instr.indexAt 25 l_1 i_5) fun v8 =>
 RUN Tryz.prog (Instr.loadAt 9 v8) w fun v9 w =>
 PURE Tryz.prog (BINS .eql 9 (.tmp 15) (.const (.string { data := #[] })) v9 (.string { data := #[] })) fun v10 =>
 COND v10 (
 PURE Tryz.prog (Instr.fieldAt 42 s_4 1) fun v11 =>
 RUNU Tryz.prog (Instr.storeAt 4 v11 (.bool true)) w fun w =>
 PURE Tryz.prog (BINS .add 3 (.tmp 10) (.const (.int .i64 1)) i_5 (.int .i64 1)) fun v12 =>
 next1 v12 w) (
 DRAWQ w fun S w =>
 PURE Tryz.prog (Instr.fieldAt 42 s_4 0) fun v13 =>
 READ Tryz.prog S (Instr.loadAt 25 v13) w fun v14 =>
 PURE Tryz.prog (Instr.indexAt 25 l_1 i_5) fun v15 =>
 READ Tryz.prog S (Instr.loadAt 9 v15) w fun v16 =>
 CALL Tryz.prog 36 [v14, v16] w E fun v17 w =>
 PURE Tryz.prog (Op.unary .not v17) fun v18 =>
 COND v18 (
 DRAW w fun S w =>
 PURE Tryz.prog (Instr.fieldAt 42 s_4 0) fun v19 =>
 READ Tryz.prog S (Instr.loadAt 25 v19) w fun v20 =>
 PURE Tryz.prog (Instr.indexAt 25 l_1 i_5) fun v21 =>
 READ Tryz.prog S (Instr.loadAt 9 v21) w fun v22 =>
 RUN Tryz.prog (Instr.buildSlice 25 1 #[(0, v22)]) w fun v23 w =>
 KEEPS S w fun S =>
 RUN Tryz.prog (Builtin.append_ #[25, 25] 25 #[v20, v23]) w fun v24 w =>
 PURE Tryz.prog (Instr.fieldAt 42 s_4 0) fun v25 =>
 RUNU Tryz.prog (Instr.storeAt 25 v25 v24) w fun w =>
 PURE Tryz.prog (BINS .add 3 (.tmp 10) (.const (.int .i64 1)) i_5 (.int .i64 1)) fun v26 =>
 next1 v26 w) (
 PURE Tryz.prog (BINS .add 3 (.tmp 10) (.const (.int .i64 1)) i_5 (.int .i64 1)) fun v27 =>
 next1 v27 w))) (
 RUN Tryz.prog (Instr.loadAt 42 s_4) w fun v28 w =>
 RUNU Tryz.prog (Instr.storeAt 42 v2 v28) w fun w =>
 LOADRES Tryz.prog 42 v2 w fun r => R r w)) (.int .i64 0) w
theorem by_seineref04_Of {l_1 : Value} {R : Value → World → Prop} {w : World} (h : sh_seineref04_Of l_1 NOPE R w) : RET Tryz.prog 15 [l_1] w R :=
  ⟨by kernel_rfl, calls_by [(3, [4])] Tryz.func15 (by kernel_rfl) (by kernel_rfl) (by kernel_rfl) h⟩

def sh_seineref17_Wrong (tag_1 p_2 : Value) (E : List PanicEntry → World → Prop) (R : Value → World → Prop) (w : World) : Prop :=
 RUN Tryz.prog (Instr.box 42 p_2) w fun p_3 w =>
 JOIN0 (fun J1 =>
 PURE Tryz.prog (BINS .lss 3 (.tmp 5) (.const (.int .i64 0)) tag_1 (.int .i64 0)) fun v4 =>
 COND v4 (
 COND (.bool true) (
 R (.int .i64 11) w) (
 J1 w)) (
 PURE Tryz.prog (BINS .gtr 3 (.tmp 8) (.const (.int .i64 3)) tag_1 (.int .i64 3)) fun v5 =>
 COND v5 (
 R (.int .i64 11) w) (
 J1 w))) (fun w =>
 JOIN0 (fun J2 =>
 PURE Tryz.prog (BINS .eql 3 (.tmp 11) (.const (.int .i64 2)) tag_1 (.int .i64 2)) fun v6 =>
 COND v6 (
 PURE Tryz.prog (Instr.fieldAt 42 p_3 0) fun v7 =>
 RUN Tryz.prog (Instr.loadAt 25 v7) w fun v8 w =>
 PURE Tryz.prog (Builtin.len_ #[25] 3 #[v8]) fun v9 =>
 PURE Tryz.prog (BINS .neq 3 (.tmp 16) (.const (.int .i64 1)) v9 (.int .i64 1)) fun v10 =>
 COND v10 (
 COND (.bool true) (
 R (.int .i64 13) w) (
 J2 w)) (
 PURE Tryz.prog (Instr.fieldAt 42 p_3 1) fun v11 =>
 RUN Tryz.prog (Instr.loadAt 4 v11) w fun v12 w =>
 COND v12 (
 R (.int .i64 13) w) (
 J2 w))) (
 COND (.bool false) (
 R (.int .i64 13) w) (
 J2 w))) (fun w =>
 PURE Tryz.prog (BINS .eql 3 (.tmp 23) (.const (.int .i64 1)) tag_1 (.int .i64 1)) fun v13 =>
 COND v13 (
 PURE Tryz.prog (Instr.fieldAt 42 p_3 0) fun v14 =>
 RUN Tryz.prog (Instr.loadAt 25 v14) w fun v15 w =>
 CALL Tryz.prog 37 [v15] w E fun v16 w =>
 PURE Tryz.prog (Builtin.len_ #[25] 3 #[v16]) fun v17 =>
 PURE Tryz.prog (BINS .gtr 3 (.tmp 29) (.const (.int .i64 160)) v17 (.int .i64 160)) fun v18 =>
 COND v18 (
 R (.int .i64 14) w) (
 R (.int .i64 0) w)) (
 COND (.bool false) (
 R (.int .i64 14) w) (
 R (.int .i64 0) w))))
theorem by_seineref17_Wrong {tag_1 p_2 : Value} {R : Value → World → Prop} {w : World} (h : sh_seineref17_Wrong tag_1 p_2 NOPE R w) : RET Tryz.prog 16 [tag_1, p_2] w R :=
  ⟨by kernel_rfl, calls_by [(11003, []), (13005, [])] Tryz.func16 (by kernel_rfl) (by kernel_rfl) (by kernel_rfl) h⟩

def sh_engine_Is (tag_1 : Value) (E : List PanicEntry → World → Prop) (R : Value → World → Prop) (w : World) : Prop :=
 PURE Tryz.prog (BINS .geq 3 (.tmp 3) (.const (.int .i64 0)) tag_1 (.int .i64 0)) fun v2 =>
 COND v2 (
 PURE Tryz.prog (BINS .lss 3 (.tmp 6) (.const (.int .i64 4)) tag_1 (.int .i64 4)) fun v3 =>
 R v3 w) (
 R (.bool false) w)
theorem by_engine_Is {tag_1 : Value} {R : Value → World → Prop} {w : World} (h : sh_engine_Is tag_1 NOPE R w) : RET Tryz.prog 17 [tag_1] w R :=
  ⟨by kernel_rfl, calls_by [] Tryz.func17 (by kernel_rfl) (by kernel_rfl) (by kernel_rfl) h⟩

def sh_meter_New (E : List PanicEntry → World → Prop) (R : Value → World → Prop) (w : World) : Prop :=
 PURE Tryz.prog (Instr.build 86 #[]) fun v1 =>
 RUN Tryz.prog (Instr.box 86 v1) w fun v2 w =>
 R v2 w
theorem by_meter_New {R : Value → World → Prop} {w : World} (h : sh_meter_New NOPE R w) : RET Tryz.prog 18 [] w R :=
  ⟨by kernel_rfl, calls_by [] Tryz.func18 (by kernel_rfl) (by kernel_rfl) (by kernel_rfl) h⟩

def sh_meter_Meter_Counts (m_1 : Value) (E : List PanicEntry → World → Prop) (R : Value → World → Prop) (w : World) : Prop :=
 RUN Tryz.prog (Instr.alloc 49 true (.tuple #[])) w fun v2 w =>
 PURE Tryz.prog (BINS .eql 46 (.tmp 3) (.const (.pointer Option.none)) m_1 (.pointer Option.none)) fun v3 =>
 COND v3 (
 PURE Tryz.prog (Instr.build 49 #[]) fun v4 =>
 RUNU Tryz.prog (Instr.storeAt 49 v2 v4) w fun w =>
 LOADRES Tryz.prog 49 v2 w fun r => R r w) (
 PURE Tryz.prog (NILS m_1) fun v5 =>
 PURE Tryz.prog (Instr.fieldAt 86 v5 0) fun v6 =>
 RUN Tryz.prog (Instr.loadAt 49 v6) w fun v7 w =>
 RUNU Tryz.prog (Instr.storeAt 49 v2 v7) w fun w =>
 LOADRES Tryz.prog 49 v2 w fun r => R r w)
theorem by_meter_Meter_Counts {m_1 : Value} {R : Value → World → Prop} {w : World} (h : sh_meter_Meter_Counts m_1 NOPE R w) : RET Tryz.prog 19 [m_1] w R :=
  ⟨by kernel_rfl, calls_by [] Tryz.func19 (by kernel_rfl) (by kernel_rfl) (by kernel_rfl) h⟩

def sh_engine_Engine_Tag (e_1 : Value) (E : List PanicEntry → World → Prop) (R : Value → World → Prop) (w : World) : Prop :=
 PURE Tryz.prog (BINS .eql 32 (.tmp 3) (.const (.pointer Option.none)) e_1 (.pointer Option.none)) fun v2 =>
 COND v2 (
 R (.int .i64 (-1)) w) (
 PURE Tryz.prog (NILS e_1) fun v3 =>
 PURE Tryz.prog (Instr.fieldAt 67 v3 0) fun v4 =>
 RUN Tryz.prog (Instr.loadAt 3 v4) w fun v5 w =>
 R v5 w)
theorem by_engine_Engine_Tag {e_1 : Value} {R : Value → World → Prop} {w : World} (h : sh_engine_Engine_Tag e_1 NOPE R w) : RET Tryz.prog 20 [e_1] w R :=
  ⟨by kernel_rfl, calls_by [] Tryz.func20 (by kernel_rfl) (by kernel_rfl) (by kernel_rfl) h⟩

def sh_seineref17_Counts (tag_1 p_2 line_3 : Value) (E : List PanicEntry → World → Prop) (R : Value → World → Prop) (w : World) : Prop :=
 RUN Tryz.prog (Instr.box 42 p_2) w fun p_4 w =>
 JOIN0 (fun J1 =>
 PURE Tryz.prog (Instr.fieldAt 42 p_4 0) fun v5 =>
 RUN Tryz.prog (Instr.loadAt 25 v5) w fun v6 w =>
 PURE Tryz.prog (Builtin.len_ #[25] 3 #[v6]) fun v7 =>
 PURE Tryz.prog (BINS .eql 3 (.tmp 10) (.const (.int .i64 0)) v7 (.int .i64 0)) fun v8 =>
 COND v8 (
 COND (.bool true) (
 R (.tuple #[(.int .i64 0), (.int .i64 0)]) w) (
 J1 w)) (
 PURE Tryz.prog (BINS .gtr 3 (.tmp 13) (.const (.int .i64 1)) tag_1 (.int .i64 1)) fun v9 =>
 COND v9 (
 R (.tuple #[(.int .i64 0), (.int .i64 0)]) w) (
 J1 w))) (fun w =>
 PURE Tryz.prog (BINS .eql 3 (.tmp 16) (.const (.int .i64 1)) tag_1 (.int .i64 1)) fun v10 =>
 COND v10 (
 PURE Tryz.prog (Builtin.len_ #[9] 3 #[line_3]) fun v11 =>
 PURE Tryz.prog (Builtin.len_ #[9] 3 #[line_3]) fun v12 =>
 R (.tuple #[v11, v12]) w) (
 PURE Tryz.prog (Builtin.len_ #[9] 3 #[line_3]) fun v13 =>
 PURE Tryz.prog (Instr.fieldAt 42 p_4 0) fun v14 =>
 RUN Tryz.prog (Instr.loadAt 25 v14) w fun v15 w =>
 CALL Tryz.prog 37 [v15] w E fun v16 w =>
 CALL Tryz.prog 38 [v16, line_3] w E fun v17 w =>
 R (.tuple #[v13, v17]) w))
theorem by_seineref17_Counts {tag_1 p_2 line_3 : Value} {R : Value → World → Prop} {w : World} (h : sh_seineref17_Counts tag_1 p_2 line_3 NOPE R w) : RET Tryz.prog 21 [tag_1, p_2, line_3] w R :=
  ⟨by kernel_rfl, calls_by [(11003, [])] Tryz.func21 (by kernel_rfl) (by kernel_rfl) (by kernel_rfl) h⟩

def sh_seineref17_Find (p_1 line_2 : Value) (E : List PanicEntry → World → Prop) (R : Value → World → Prop) (w : World) : Prop :=
 RUN Tryz.prog (Instr.box 42 p_1) w fun p_3 w =>
 PURE Tryz.prog (Instr.fieldAt 42 p_3 0) fun v4 =>
 RUN Tryz.prog (Instr.loadAt 25 v4) w fun v5 w =>
 CALL Tryz.prog 39 [line_2, v5] w E fun v6 w =>
 LOOP2 (fun out_7 i_8 w next1 =>
 PURE Tryz.prog (Builtin.len_ #[9] 3 #[line_2]) fun v9 =>
 PURE Tryz.prog (BINS .leq 3 (.tmp 11) (.tmp 13) i_8 v9) fun v10 =>
 COND v10 (
 PURE Tryz.prog (Instr.fieldAt 42 p_3 1) fun v11 =>
 RUN Tryz.prog (Instr.loadAt 4 v11) w fun v12 w =>
 COND v12 (
 PURE Tryz.prog (Instr.build 57 #[(0, i_8), (1, i_8)]) fun v13 =>
 CALL Tryz.prog 40 [out_7, v13] w E fun v14 w =>
 PURE Tryz.prog (BINS .add 3 (.tmp 19) (.const (.int .i64 1)) i_8 (.int .i64 1)) fun v15 =>
 next1 v14 v15 w) (
 R out_7 w)) (
 COND (.bool false) (
 PURE Tryz.prog (Instr.build 57 #[(0, i_8), (1, i_8)]) fun v16 =>
 CALL Tryz.prog 40 [out_7, v16] w E fun v17 w =>
 PURE Tryz.prog (BINS .add 3 (.tmp 19) (.const (.int .i64 1)) i_8 (.int .i64 1)) fun v18 =>
 next1 v17 v18 w) (
 R out_7 w))) v6 (.int .i64 0) w
theorem by_seineref17_Find {p_1 line_2 : Value} {R : Value → World → Prop} {w : World} (h : sh_seineref17_Find p_1 line_2 NOPE R w) : RET Tryz.prog 22 [p_1, line_2] w R :=
  ⟨by kernel_rfl, calls_by [(3, [5, 6])] Tryz.func22 (by kernel_rfl) (by kernel_rfl) (by kernel_rfl) h⟩

def sh_patset_Set_Patterns (s_1 : Value) (E : List PanicEntry → World → Prop) (R : Value → World → Prop) (w : World) : Prop :=
 RUN Tryz.prog (Instr.box 30 s_1) w fun s_2 w =>
 PURE Tryz.prog (Instr.fieldAt 30 s_2 0) fun v3 =>
 RUN Tryz.prog (Instr.loadAt 22 v3) w fun v4 w =>
 PURE Tryz.prog (Builtin.len_ #[22] 3 #[v4]) fun v5 =>
 LOOP2 (fun out_6 v7 w next1 =>
 PURE Tryz.prog (BINS .lss 3 (.tmp 9) (.tmp 8) v7 v5) fun v8 =>
 COND v8 (
 PURE Tryz.prog (Instr.indexAt 22 v4 v7) fun v9 =>
 RUN Tryz.prog (Instr.loadAt 23 v9) w fun v10 w =>
 CALL Tryz.prog 26 [v10] w E fun v11 w =>
 RUN Tryz.prog (Instr.buildSlice 22 1 #[(0, v11)]) w fun v12 w =>
 RUN Tryz.prog (Builtin.append_ #[22, 22] 22 #[out_6, v12]) w fun v13 w =>
 PURE Tryz.prog (BINS .add 3 (.tmp 9) (.const (.int .i64 1)) v7 (.int .i64 1)) fun v14 =>
 next1 v13 v14 w) (
 R out_6 w)) (.slice Option.none 0 0) (.int .i64 0) w
theorem by_patset_Set_Patterns {s_1 : Value} {R : Value → World → Prop} {w : World} (h : sh_patset_Set_Patterns s_1 NOPE R w) : RET Tryz.prog 23 [s_1] w R :=
  ⟨by kernel_rfl, calls_by [(3, [3, 9])] Tryz.func23 (by kernel_rfl) (by kernel_rfl) (by kernel_rfl) h⟩

def sh_patset_Set_Empty (s_1 : Value) (E : List PanicEntry → World → Prop) (R : Value → World → Prop) (w : World) : Prop :=
 RUN Tryz.prog (Instr.box 30 s_1) w fun s_2 w =>
 PURE Tryz.prog (Instr.fieldAt 30 s_2 2) fun v3 =>
 RUN Tryz.prog (Instr.loadAt 4 v3) w fun v4 w =>
 R v4 w
theorem by_patset_Set_Empty {s_1 : Value} {R : Value → World → Prop} {w : World} (h : sh_patset_Set_Empty s_1 NOPE R w) : RET Tryz.prog 24 [s_1] w R :=
  ⟨by kernel_rfl, calls_by [] Tryz.func24 (by kernel_rfl) (by kernel_rfl) (by kernel_rfl) h⟩

def sh_patset_Set_Size (s_1 : Value) (E : List PanicEntry → World → Prop) (R : Value → World → Prop) (w : World) : Prop :=
 RUN Tryz.prog (Instr.box 30 s_1) w fun s_2 w =>
 PURE Tryz.prog (Instr.fieldAt 30 s_2 0) fun v3 =>
 RUN Tryz.prog (Instr.loadAt 22 v3) w fun v4 w =>
 PURE Tryz.prog (Builtin.len_ #[22] 3 #[v4]) fun v5 =>
 LOOP2 (fun n_6 v7 w next1 =>
 PURE Tryz.prog (BINS .lss 3 (.tmp 9) (.tmp 8) v7 v5) fun v8 =>
 COND v8 (
 PURE Tryz.prog (Instr.indexAt 22 v4 v7) fun v9 =>
 RUN Tryz.prog (Instr.loadAt 23 v9) w fun v10 w =>
 PURE Tryz.prog (Builtin.len_ #[23] 3 #[v10]) fun v11 =>
 PURE Tryz.prog (BINS .add 3 (.tmp 13) (.tmp 15) n_6 v11) fun v12 =>
 PURE Tryz.prog (BINS .add 3 (.tmp 9) (.const (.int .i64 1)) v7 (.int .i64 1)) fun v13 =>
 next1 v12 v13 w) (
 R n_6 w)) (.int .i64 0) (.int .i64 0) w
theorem by_patset_Set_Size {s_1 : Value} {R : Value → World → Prop} {w : World} (h : sh_patset_Set_Size s_1 NOPE R w) : RET Tryz.prog 25 [s_1] w R :=
  ⟨by kernel_rfl, calls_by [(3, [3, 9])] Tryz.func25 (by kernel_rfl) (by kernel_rfl) (by kernel_rfl) h⟩

def sh_slices_Clone_byte_byte (s_1 : Value) (E : List PanicEntry → World → Prop) (R : Value → World → Prop) (w : World) : Prop :=
 PURE Tryz.prog (BINS .eql 23 (.tmp 3) (.const (.slice Option.none 0 0)) s_1 (.slice Option.none 0 0)) fun v2 =>
 COND v2 (
 R (.slice Option.none 0 0) w) (
 RUN Tryz.prog (Instr.buildSlice 23 0 #[]) w fun v3 w =>
 RUN Tryz.prog (Builtin.append_ #[23, 23] 23 #[v3, s_1]) w fun v4 w =>
 R v4 w)
theorem by_slices_Clone_byte_byte {s_1 : Value} {R : Value → World → Prop} {w : World} (h : sh_slices_Clone_byte_byte s_1 NOPE R w) : RET Tryz.prog 26 [s_1] w R :=
  ⟨by kernel_rfl, calls_by [] Tryz.func26 (by kernel_rfl) (by kernel_rfl) (by kernel_rfl) h⟩

def sh_sparse_New (l_1 : Value) (E : List PanicEntry → World → Prop) (R : Value → World → Prop) (w : World) : Prop :=
 CALL Tryz.prog 41 [l_1] w E fun v2 w =>
 CALL Tryz.prog 42 [v2] w E fun v3 w =>
 PURE Tryz.prog (Instr.build 96 #[(0, v2), (1, v3)]) fun v4 =>
 RUN Tryz.prog (Instr.box 96 v4) w fun v5 w =>
 LOOP1 (fun n_6 w next1 =>
 CALL Tryz.prog 43 [v2] w E fun v7 w =>
 PURE Tryz.prog (BINS .lss 3 (.tmp 14) (.tmp 16) n_6 v7) fun v8 =>
 COND v8 (
 CALL Tryz.prog 44 [v2, n_6] w E fun v9 w =>
 DRAW w fun S w =>
 PURE Tryz.prog (NILS v5) fun v10 =>
 PURE Tryz.prog (Instr.fieldAt 96 v10 2) fun v11 =>
 READ Tryz.prog S (Instr.loadAt 94 v11) w fun v12 =>
 PURE Tryz.prog (Builtin.len_ #[23] 3 #[v9]) fun v13 =>
 PURE Tryz.prog (BINS .sub 3 (.tmp 33) (.const (.int .i64 1)) v13 (.int .i64 1)) fun v14 =>
 PURE Tryz.prog (Instr.indexAt 23 v9 v14) fun v15 =>
 READ Tryz.prog S (Instr.loadAt 5 v15) w fun v16 =>
 CALL Tryz.prog 45 [v2, n_6] w E fun v17 w =>
 KEEPS S w fun S =>
 PURE Tryz.prog (Instr.build 100 #[(0, v17), (1, v16), (2, n_6)]) fun v18 =>
 RUN Tryz.prog (Instr.buildSlice 94 1 #[(0, v18)]) w fun v19 w =>
 KEEPS S w fun S =>
 RUN Tryz.prog (Builtin.append_ #[94, 94] 94 #[v12, v19]) w fun v20 w =>
 PURE Tryz.prog (NILS v5) fun v21 =>
 PURE Tryz.prog (Instr.fieldAt 96 v21 2) fun v22 =>
 RUNU Tryz.prog (Instr.storeAt 94 v22 v20) w fun w =>
 PURE Tryz.prog (BINS .add 3 (.tmp 18) (.const (.int .i64 1)) n_6 (.int .i64 1)) fun v23 =>
 next1 v23 w) (
 R v5 w)) (.int .i64 1) w
theorem by_sparse_New {l_1 : Value} {R : Value → World → Prop} {w : World} (h : sh_sparse_New l_1 NOPE R w) : RET Tryz.prog 27 [l_1] w R :=
  ⟨by kernel_rfl, calls_by [(4, [5])] Tryz.func27 (by kernel_rfl) (by kernel_rfl) (by kernel_rfl) h⟩

def sh_dfa_New (l_1 : Value) (E : List PanicEntry → World → Prop) (R : Value → World → Prop) (w : World) : Prop :=
 CALL Tryz.prog 41 [l_1] w E fun v2 w =>
 CALL Tryz.prog 43 [v2] w E fun v3 w =>
 PURE Tryz.prog (BINS .gtr 3 (.tmp 9) (.const (.int .i64 160)) v3 (.int .i64 160)) fun v4 =>
 COND v4 (
 R (.tuple #[(.pointer Option.none), (.int .i64 14)]) w) (
 CALL Tryz.prog 42 [v2] w E fun v5 w =>
 CALL Tryz.prog 46 [l_1] w E fun v6 w =>
 PURE Tryz.prog (Instr.build 107 #[(0, v2), (1, v5), (2, v6)]) fun v7 =>
 RUN Tryz.prog (Instr.box 107 v7) w fun v8 w =>
 CALL Tryz.prog 47 [v8] w E fun v9 w =>
 R (.tuple #[v8, (.int .i64 0)]) w)
theorem by_dfa_New {l_1 : Value} {R : Value → World → Prop} {w : World} (h : sh_dfa_New l_1 NOPE R w) : RET Tryz.prog 28 [l_1] w R :=
  ⟨by kernel_rfl, calls_by [] Tryz.func28 (by kernel_rfl) (by kernel_rfl) (by kernel_rfl) h⟩

def sh_twoway_New (b_1 : Value) (E : List PanicEntry → World → Prop) (R : Value → World → Prop) (w : World) : Prop :=
 PURE Tryz.prog (Builtin.len_ #[23] 3 #[b_1]) fun v2 =>
 PURE Tryz.prog (BINS .eql 3 (.tmp 6) (.const (.int .i64 0)) v2 (.int .i64 0)) fun v3 =>
 COND v3 (
 R (.tuple #[(.pointer Option.none), (.int .i64 1)]) w) (
 CALL Tryz.prog 26 [b_1] w E fun v4 w =>
 CALL Tryz.prog 48 [b_1] w E fun v5 w =>
 PURE Tryz.prog (Instr.build 114 #[(0, v4), (1, v5), (2, (.func (.func 49) #[] #[]))]) fun v6 =>
 RUN Tryz.prog (Instr.box 114 v6) w fun v7 w =>
 PURE Tryz.prog (NILS v7) fun v8 =>
 PURE Tryz.prog (Instr.fieldAt 114 v8 1) fun v9 =>
 PURE Tryz.prog (Instr.fieldAt 109 v9 2) fun v10 =>
 RUN Tryz.prog (Instr.loadAt 4 v10) w fun v11 w =>
 COND v11 (
 PURE Tryz.prog (NILS v7) fun v12 =>
 PURE Tryz.prog (Instr.fieldAt 114 v12 2) fun v13 =>
 RUNU Tryz.prog (Instr.storeAt 111 v13 (.func (.func 50) #[] #[])) w fun w =>
 R (.tuple #[v7, (.int .i64 0)]) w) (
 R (.tuple #[v7, (.int .i64 0)]) w))
theorem by_twoway_New {b_1 : Value} {R : Value → World → Prop} {w : World} (h : sh_twoway_New b_1 NOPE R w) : RET Tryz.prog 29 [b_1] w R :=
  ⟨by kernel_rfl, calls_by [] Tryz.func29 (by kernel_rfl) (by kernel_rfl) (by kernel_rfl) h⟩

def sh_twoway_Two_Scan (t_1 line_2 : Value) (E : List PanicEntry → World → Prop) (R : Value → World → Prop) (w : World) : Prop :=
 CALL Tryz.prog 51 [t_1, line_2, (.int .i64 0)] w E fun v3 w =>
 LOOP2 (fun out_4 at_5 w next1 =>
 PURE Tryz.prog (BINS .geq 3 (.tmp 10) (.const (.int .i64 0)) at_5 (.int .i64 0)) fun v6 =>
 COND v6 (
 PURE Tryz.prog (NILS t_1) fun v7 =>
 PURE Tryz.prog (Instr.fieldAt 114 v7 0) fun v8 =>
 RUN Tryz.prog (Instr.loadAt 23 v8) w fun v9 w =>
 PURE Tryz.prog (Builtin.len_ #[23] 3 #[v9]) fun v10 =>
 PURE Tryz.prog (BINS .add 3 (.tmp 19) (.tmp 24) at_5 v10) fun v11 =>
 PURE Tryz.prog (Instr.build 57 #[(0, at_5), (1, v11)]) fun v12 =>
 RUN Tryz.prog (Instr.buildSlice 37 1 #[(0, v12)]) w fun v13 w =>
 RUN Tryz.prog (Builtin.append_ #[37, 37] 37 #[out_4, v13]) w fun v14 w =>
 PURE Tryz.prog (BINS .add 3 (.tmp 14) (.const (.int .i64 1)) at_5 (.int .i64 1)) fun v15 =>
 CALL Tryz.prog 51 [t_1, line_2, v15] w E fun v16 w =>
 next1 v14 v16 w) (
 R out_4 w)) (.slice Option.none 0 0) v3 w
theorem by_twoway_Two_Scan {t_1 line_2 : Value} {R : Value → World → Prop} {w : World} (h : sh_twoway_Two_Scan t_1 line_2 NOPE R w) : RET Tryz.prog 30 [t_1, line_2] w R :=
  ⟨by kernel_rfl, calls_by [(3, [5, 6])] Tryz.func30 (by kernel_rfl) (by kernel_rfl) (by kernel_rfl) h⟩

def sh_cwalter_New (l_1 : Value) (E : List PanicEntry → World → Prop) (R : Value → World → Prop) (w : World) : Prop :=
 CALL Tryz.prog 52 [l_1] w E fun v2 w =>
 CALL Tryz.prog 53 [v2] w E fun v3 w =>
 PURE Tryz.prog (Instr.build 120 #[(0, v2), (1, v3)]) fun v4 =>
 RUN Tryz.prog (Instr.box 120 v4) w fun v5 w =>
 R v5 w
theorem by_cwalter_New {l_1 : Value} {R : Value → World → Prop} {w : World} (h : sh_cwalter_New l_1 NOPE R w) : RET Tryz.prog 31 [l_1] w R :=
  ⟨by kernel_rfl, calls_by [] Tryz.func31 (by kernel_rfl) (by kernel_rfl) (by kernel_rfl) h⟩

def sh_cwalter_Walter_Scan (w_1 line_2 : Value) (E : List PanicEntry → World → Prop) (R : Value → World → Prop) (w : World) : Prop :=
 CALL Tryz.prog 54 [w_1, line_2] w E fun v3 w =>
 PURE Tryz.prog (Instr.extract v3 0) fun v4 =>
 PURE Tryz.prog (Instr.extract v3 1) fun v5 =>
 CALL Tryz.prog 55 [v4] w E fun v6 w =>
 R v6 w
theorem by_cwalter_Walter_Scan {w_1 line_2 : Value} {R : Value → World → Prop} {w : World} (h : sh_cwalter_Walter_Scan w_1 line_2 NOPE R w) : RET Tryz.prog 32 [w_1, line_2] w R :=
  ⟨by kernel_rfl, calls_by [] Tryz.func32 (by kernel_rfl) (by kernel_rfl) (by kernel_rfl) h⟩

def sh_patset_Set_Least (s_1 : Value) (E : List PanicEntry → World → Prop) (R : Value → World → Prop) (w : World) : Prop :=
 RUN Tryz.prog (Instr.box 30 s_1) w fun s_2 w =>
 PURE Tryz.prog (Instr.fieldAt 30 s_2 0) fun v3 =>
 RUN Tryz.prog (Instr.loadAt 22 v3) w fun v4 w =>
 PURE Tryz.prog (Builtin.len_ #[22] 3 #[v4]) fun v5 =>
 LOOP2 (fun n_6 v7 w next1 =>
 PURE Tryz.prog (BINS .lss 3 (.tmp 9) (.tmp 8) v7 v5) fun v8 =>
 COND v8 (
 PURE Tryz.prog (Instr.indexAt 22 v4 v7) fun v9 =>
 RUN Tryz.prog (Instr.loadAt 23 v9) w fun v10 w =>
 PURE Tryz.prog (BINS .eql 3 (.tmp 13) (.const (.int .i64 0)) n_6 (.int .i64 0)) fun v11 =>
 COND v11 (
 COND (.bool true) (
 PURE Tryz.prog (Builtin.len_ #[23] 3 #[v10]) fun v12 =>
 PURE Tryz.prog (BINS .add 3 (.tmp 9) (.const (.int .i64 1)) v7 (.int .i64 1)) fun v13 =>
 next1 v12 v13 w) (
 PURE Tryz.prog (BINS .add 3 (.tmp 9) (.const (.int .i64 1)) v7 (.int .i64 1)) fun v14 =>
 next1 n_6 v14 w)) (
 PURE Tryz.prog (Builtin.len_ #[23] 3 #[v10]) fun v15 =>
 PURE Tryz.prog (BINS .lss 3 (.tmp 17) (.tmp 18) v15 n_6) fun v16 =>
 COND v16 (
 PURE Tryz.prog (Builtin.len_ #[23] 3 #[v10]) fun v17 =>
 PURE Tryz.prog (BINS .add 3 (.tmp 9) (.const (.int .i64 1)) v7 (.int .i64 1)) fun v18 =>
 next1 v17 v18 w) (
 PURE Tryz.prog (BINS .add 3 (.tmp 9) (.const (.int .i64 1)) v7 (.int .i64 1)) fun v19 =>
 next1 n_6 v19 w))) (
 R n_6 w)) (.int .i64 0) (.int .i64 0) w
theorem by_patset_Set_Least {s_1 : Value} {R : Value → World → Prop} {w : World} (h : sh_patset_Set_Least s_1 NOPE R w) : RET Tryz.prog 33 [s_1] w R :=
  ⟨by kernel_rfl, calls_by [(3, [3, 9])] Tryz.func33 (by kernel_rfl) (by kernel_rfl) (by kernel_rfl) h⟩

def sh_pairs_Merge (a_1 b_2 : Value) (E : List PanicEntry → World → Prop) (R : Value → World → Prop) (w : World) : Prop :=
 CALL Tryz.prog 55 [a_1] w E fun v3 w =>
 CALL Tryz.prog 55 [b_2] w E fun v4 w =>
 CALL Tryz.prog 56 [v3, v4, (.func (.func 57) #[] #[])] w E fun v5 w =>
 R v5 w
theorem by_pairs_Merge {a_1 b_2 : Value} {R : Value → World → Prop} {w : World} (h : sh_pairs_Merge a_1 b_2 NOPE R w) : RET Tryz.prog 34 [a_1, b_2] w R :=
  ⟨by kernel_rfl, calls_by [] Tryz.func34 (by kernel_rfl) (by kernel_rfl) (by kernel_rfl) h⟩

def sh_pairs_Empties (n_1 : Value) (E : List PanicEntry → World → Prop) (R : Value → World → Prop) (w : World) : Prop :=
 LOOP2 (fun out_2 i_3 w next1 =>
 PURE Tryz.prog (BINS .leq 3 (.tmp 5) (.tmp 6) i_3 n_1) fun v4 =>
 COND v4 (
 PURE Tryz.prog (Instr.build 57 #[(0, i_3), (1, i_3)]) fun v5 =>
 RUN Tryz.prog (Instr.buildSlice 37 1 #[(0, v5)]) w fun v6 w =>
 RUN Tryz.prog (Builtin.append_ #[37, 37] 37 #[out_2, v6]) w fun v7 w =>
 PURE Tryz.prog (BINS .add 3 (.tmp 8) (.const (.int .i64 1)) i_3 (.int .i64 1)) fun v8 =>
 next1 v7 v8 w) (
 R out_2 w)) (.slice Option.none 0 0) (.int .i64 0) w
theorem by_pairs_Empties {n_1 : Value} {R : Value → World → Prop} {w : World} (h : sh_pairs_Empties n_1 NOPE R w) : RET Tryz.prog 35 [n_1] w R :=
  ⟨by kernel_rfl, calls_by [(3, [3, 4])] Tryz.func35 (by kernel_rfl) (by kernel_rfl) (by kernel_rfl) h⟩

def sh_seineref04_In (l_1 t_2 : Value) (E : List PanicEntry → World → Prop) (R : Value → World → Prop) (w : World) : Prop :=
 LOOP1 (fun i_3 w next1 =>
 PURE Tryz.prog (Builtin.len_ #[25] 3 #[l_1]) fun v4 =>
 PURE Tryz.prog (BINS .lss 3 (.tmp 6) (.tmp 8) i_3 v4) fun v5 =>
 COND v5 (
 PURE Tryz.prog (Instr.indexAt 25 l_1 i_3) fun v6 =>
 RUN Tryz.prog (Instr.loadAt 9 v6) w fun v7 w =>
 PURE Tryz.prog (BINS .eql 9 (.tmp 15) (.tmp 16) v7 t_2) fun v8 =>
 COND v8 (
 R (.bool true) w) (
 PURE Tryz.prog (BINS .add 3 (.tmp 10) (.const (.int .i64 1)) i_3 (.int .i64 1)) fun v9 =>
 next1 v9 w)) (
 R (.bool false) w)) (.int .i64 0) w
theorem by_seineref04_In {l_1 t_2 : Value} {R : Value → World → Prop} {w : World} (h : sh_seineref04_In l_1 t_2 NOPE R w) : RET Tryz.prog 36 [l_1, t_2] w R :=
  ⟨by kernel_rfl, calls_by [(2, [5])] Tryz.func36 (by kernel_rfl) (by kernel_rfl) (by kernel_rfl) h⟩

def sh_seineref06_Paths (l_1 : Value) (E : List PanicEntry → World → Prop) (R : Value → World → Prop) (w : World) : Prop :=
 RUN Tryz.prog (Instr.buildSlice 25 1 #[(0, (.string { data := #[] }))]) w fun v2 w =>
 LOOP2 (fun out_3 i_4 w next1 =>
 PURE Tryz.prog (Builtin.len_ #[25] 3 #[l_1]) fun v5 =>
 PURE Tryz.prog (BINS .lss 3 (.tmp 7) (.tmp 9) i_4 v5) fun v6 =>
 COND v6 (
 LOOP2 (fun out_7 n_8 w next2 =>
 PURE Tryz.prog (Instr.indexAt 25 l_1 i_4) fun v9 =>
 RUN Tryz.prog (Instr.loadAt 9 v9) w fun v10 w =>
 PURE Tryz.prog (Builtin.len_ #[9] 3 #[v10]) fun v11 =>
 PURE Tryz.prog (BINS .leq 3 (.tmp 13) (.tmp 18) n_8 v11) fun v12 =>
 COND v12 (
 PURE Tryz.prog (Instr.indexAt 25 l_1 i_4) fun v13 =>
 RUN Tryz.prog (Instr.loadAt 9 v13) w fun v14 w =>
 PURE Tryz.prog (Instr.sliceAt 9 v14 none (some n_8) none) fun v15 =>
 CALL Tryz.prog 58 [out_7, v15] w E fun v16 w =>
 PURE Tryz.prog (BINS .lss 3 (.tmp 29) (.const (.int .i64 0)) v16 (.int .i64 0)) fun v17 =>
 COND v17 (
 PURE Tryz.prog (Instr.indexAt 25 l_1 i_4) fun v18 =>
 RUN Tryz.prog (Instr.loadAt 9 v18) w fun v19 w =>
 PURE Tryz.prog (Instr.sliceAt 9 v19 none (some n_8) none) fun v20 =>
 RUN Tryz.prog (Instr.buildSlice 25 1 #[(0, v20)]) w fun v21 w =>
 RUN Tryz.prog (Builtin.append_ #[25, 25] 25 #[out_7, v21]) w fun v22 w =>
 PURE Tryz.prog (BINS .add 3 (.tmp 20) (.const (.int .i64 1)) n_8 (.int .i64 1)) fun v23 =>
 next2 v22 v23 w) (
 PURE Tryz.prog (BINS .add 3 (.tmp 20) (.const (.int .i64 1)) n_8 (.int .i64 1)) fun v24 =>
 next2 out_7 v24 w)) (
 PURE Tryz.prog (BINS .add 3 (.tmp 11) (.const (.int .i64 1)) i_4 (.int .i64 1)) fun v25 =>
 next1 out_7 v25 w)) out_3 (.int .i64 1) w) (
 R out_3 w)) v2 (.int .i64 0) w
theorem by_seineref06_Paths {l_1 : Value} {R : Value → World → Prop} {w : World} (h : sh_seineref06_Paths l_1 NOPE R w) : RET Tryz.prog 37 [l_1] w R :=
  ⟨by kernel_rfl, calls_by [(3, [3, 4]), (6, [3, 5])] Tryz.func37 (by kernel_rfl) (by kernel_rfl) (by kernel_rfl) h⟩

def sh_seineref08_Looks (paths_1 line_2 : Value) (E : List PanicEntry → World → Prop) (R : Value → World → Prop) (w : World) : Prop :=
 LOOP3 (fun s_3 n_4 i_5 w next1 =>
 PURE Tryz.prog (Builtin.len_ #[9] 3 #[line_2]) fun v6 =>
 PURE Tryz.prog (BINS .lss 3 (.tmp 10) (.tmp 12) i_5 v6) fun v7 =>
 COND v7 (
 PURE Tryz.prog (Instr.index 9 line_2 i_5) fun v8 =>
 CALL Tryz.prog 59 [paths_1, s_3, v8] w E fun v9 w =>
 PURE Tryz.prog (Instr.extract v9 0) fun v10 =>
 PURE Tryz.prog (Instr.extract v9 1) fun v11 =>
 PURE Tryz.prog (BINS .add 3 (.tmp 26) (.tmp 27) n_4 v11) fun v12 =>
 PURE Tryz.prog (BINS .add 3 (.tmp 14) (.const (.int .i64 1)) i_5 (.int .i64 1)) fun v13 =>
 next1 v10 v12 v13 w) (
 R n_4 w)) (.string { data := #[] }) (.int .i64 0) (.int .i64 0) w
theorem by_seineref08_Looks {paths_1 line_2 : Value} {R : Value → World → Prop} {w : World} (h : sh_seineref08_Looks paths_1 line_2 NOPE R w) : RET Tryz.prog 38 [paths_1, line_2] w R :=
  ⟨by kernel_rfl, calls_by [(4, [5, 6, 7])] Tryz.func38 (by kernel_rfl) (by kernel_rfl) (by kernel_rfl) h⟩

def sh_seineref03_Occ (line_1 texts_2 : Value) (E : List PanicEntry → World → Prop) (R : Value → World → Prop) (w : World) : Prop :=
 LOOP2 (fun out_3 i_4 w next1 =>
 PURE Tryz.prog (Builtin.len_ #[9] 3 #[line_1]) fun v5 =>
 PURE Tryz.prog (BINS .lss 3 (.tmp 10) (.tmp 12) i_4 v5) fun v6 =>
 COND v6 (
 PURE Tryz.prog (BINS .add 3 (.tmp 16) (.const (.int .i64 1)) i_4 (.int .i64 1)) fun v7 =>
 LOOP2 (fun out_8 j_9 w next2 =>
 PURE Tryz.prog (Builtin.len_ #[9] 3 #[line_1]) fun v10 =>
 PURE Tryz.prog (BINS .leq 3 (.tmp 18) (.tmp 20) j_9 v10) fun v11 =>
 COND v11 (
 LOOP2 (fun is_12 k_13 w next3 =>
 JOIN0 (fun J4 =>
 PURE Tryz.prog (Builtin.len_ #[25] 3 #[texts_2]) fun v14 =>
 PURE Tryz.prog (BINS .lss 3 (.tmp 24) (.tmp 26) k_13 v14) fun v15 =>
 COND v15 (
 PURE Tryz.prog (Op.unary .not is_12) fun v16 =>
 COND v16 (
 J4 w) (
 COND is_12 (
 PURE Tryz.prog (Instr.build 57 #[(0, i_4), (1, j_9)]) fun v17 =>
 RUN Tryz.prog (Instr.buildSlice 37 1 #[(0, v17)]) w fun v18 w =>
 RUN Tryz.prog (Builtin.append_ #[37, 37] 37 #[out_8, v18]) w fun v19 w =>
 PURE Tryz.prog (BINS .add 3 (.tmp 22) (.const (.int .i64 1)) j_9 (.int .i64 1)) fun v20 =>
 next2 v19 v20 w) (
 PURE Tryz.prog (BINS .add 3 (.tmp 22) (.const (.int .i64 1)) j_9 (.int .i64 1)) fun v21 =>
 next2 out_8 v21 w))) (
 COND (.bool false) (
 J4 w) (
 COND is_12 (
 PURE Tryz.prog (Instr.build 57 #[(0, i_4), (1, j_9)]) fun v22 =>
 RUN Tryz.prog (Instr.buildSlice 37 1 #[(0, v22)]) w fun v23 w =>
 RUN Tryz.prog (Builtin.append_ #[37, 37] 37 #[out_8, v23]) w fun v24 w =>
 PURE Tryz.prog (BINS .add 3 (.tmp 22) (.const (.int .i64 1)) j_9 (.int .i64 1)) fun v25 =>
 next2 v24 v25 w) (
 PURE Tryz.prog (BINS .add 3 (.tmp 22) (.const (.int .i64 1)) j_9 (.int .i64 1)) fun v26 =>
 next2 out_8 v26 w)))) (fun w =>
 DRAWQ w fun S w =>
 PURE Tryz.prog (Instr.indexAt 25 texts_2 k_13) fun v27 =>
 READ Tryz.prog S (Instr.loadAt 9 v27) w fun v28 =>
 PURE Tryz.prog (Builtin.len_ #[9] 3 #[v28]) fun v29 =>
 PURE Tryz.prog (BINS .sub 3 (.tmp 39) (.tmp 40) j_9 i_4) fun v30 =>
 PURE Tryz.prog (BINS .eql 3 (.tmp 38) (.tmp 41) v29 v30) fun v31 =>
 COND v31 (
 PURE Tryz.prog (Instr.sliceAt 9 line_1 (some i_4) (some j_9) none) fun v32 =>
 PURE Tryz.prog (Instr.indexAt 25 texts_2 k_13) fun v33 =>
 READ Tryz.prog S (Instr.loadAt 9 v33) w fun v34 =>
 PURE Tryz.prog (BINS .eql 9 (.tmp 47) (.tmp 51) v32 v34) fun v35 =>
 PURE Tryz.prog (BINS .add 3 (.tmp 32) (.const (.int .i64 1)) k_13 (.int .i64 1)) fun v36 =>
 next3 v35 v36 w) (
 PURE Tryz.prog (BINS .add 3 (.tmp 32) (.const (.int .i64 1)) k_13 (.int .i64 1)) fun v37 =>
 next3 (.bool false) v37 w))) (.bool false) (.int .i64 0) w) (
 PURE Tryz.prog (BINS .add 3 (.tmp 14) (.const (.int .i64 1)) i_4 (.int .i64 1)) fun v38 =>
 next1 out_8 v38 w)) out_3 v7 w) (
 R out_3 w)) (.slice Option.none 0 0) (.int .i64 0) w
theorem by_seineref03_Occ {line_1 texts_2 : Value} {R : Value → World → Prop} {w : World} (h : sh_seineref03_Occ line_1 texts_2 NOPE R w) : RET Tryz.prog 39 [line_1, texts_2] w R :=
  ⟨by kernel_rfl, calls_by [(3, [5, 6]), (6, [5, 7]), (10, [8, 9]), (20012, [])] Tryz.func39 (by kernel_rfl) (by kernel_rfl) (by kernel_rfl) h⟩

def sh_seineref03_Put (l_1 p_2 : Value) (E : List PanicEntry → World → Prop) (R : Value → World → Prop) (w : World) : Prop :=
 RUN Tryz.prog (Instr.box 57 p_2) w fun p_3 w =>
 LOOP3 (fun out_4 done_5 i_6 w next1 =>
 PURE Tryz.prog (Builtin.len_ #[37] 3 #[l_1]) fun v7 =>
 PURE Tryz.prog (BINS .lss 3 (.tmp 8) (.tmp 10) i_6 v7) fun v8 =>
 COND v8 (
 JOIN1 (fun J2 =>
 DRAWQ w fun S w =>
 PURE Tryz.prog (Op.unary .not done_5) fun v9 =>
 COND v9 (
 PURE Tryz.prog (Instr.indexAt 37 l_1 i_6) fun v10 =>
 READ Tryz.prog S (Instr.loadAt 57 v10) w fun v11 =>
 READ Tryz.prog S (Instr.loadAt 57 p_3) w fun v12 =>
 CALL Tryz.prog 60 [v11, v12] w E fun v13 w =>
 PURE Tryz.prog (Op.unary .not v13) fun v14 =>
 J2 v14 w) (
 J2 (.bool false) w)) (fun v15 w =>
 COND v15 (
 DRAWQ w fun S w =>
 PURE Tryz.prog (Instr.indexAt 37 l_1 i_6) fun v16 =>
 READ Tryz.prog S (Instr.loadAt 57 v16) w fun v17 =>
 READ Tryz.prog S (Instr.loadAt 57 p_3) w fun v18 =>
 PURE Tryz.prog (BINS .neq 57 (.tmp 28) (.tmp 29) v17 v18) fun v19 =>
 COND v19 (
 RUN Tryz.prog (Instr.loadAt 57 p_3) w fun v20 w =>
 RUN Tryz.prog (Instr.buildSlice 37 1 #[(0, v20)]) w fun v21 w =>
 RUN Tryz.prog (Builtin.append_ #[37, 37] 37 #[out_4, v21]) w fun v22 w =>
 PURE Tryz.prog (Instr.indexAt 37 l_1 i_6) fun v23 =>
 RUN Tryz.prog (Instr.loadAt 57 v23) w fun v24 w =>
 RUN Tryz.prog (Instr.buildSlice 37 1 #[(0, v24)]) w fun v25 w =>
 RUN Tryz.prog (Builtin.append_ #[37, 37] 37 #[v22, v25]) w fun v26 w =>
 PURE Tryz.prog (BINS .add 3 (.tmp 12) (.const (.int .i64 1)) i_6 (.int .i64 1)) fun v27 =>
 next1 v26 (.bool true) v27 w) (
 PURE Tryz.prog (Instr.indexAt 37 l_1 i_6) fun v28 =>
 RUN Tryz.prog (Instr.loadAt 57 v28) w fun v29 w =>
 RUN Tryz.prog (Instr.buildSlice 37 1 #[(0, v29)]) w fun v30 w =>
 RUN Tryz.prog (Builtin.append_ #[37, 37] 37 #[out_4, v30]) w fun v31 w =>
 PURE Tryz.prog (BINS .add 3 (.tmp 12) (.const (.int .i64 1)) i_6 (.int .i64 1)) fun v32 =>
 next1 v31 (.bool true) v32 w)) (
 PURE Tryz.prog (Instr.indexAt 37 l_1 i_6) fun v33 =>
 RUN Tryz.prog (Instr.loadAt 57 v33) w fun v34 w =>
 RUN Tryz.prog (Instr.buildSlice 37 1 #[(0, v34)]) w fun v35 w =>
 RUN Tryz.prog (Builtin.append_ #[37, 37] 37 #[out_4, v35]) w fun v36 w =>
 PURE Tryz.prog (BINS .add 3 (.tmp 12) (.const (.int .i64 1)) i_6 (.int .i64 1)) fun v37 =>
 next1 v36 done_5 v37 w))) (
 PURE Tryz.prog (Op.unary .not done_5) fun v38 =>
 COND v38 (
 RUN Tryz.prog (Instr.loadAt 57 p_3) w fun v39 w =>
 RUN Tryz.prog (Instr.buildSlice 37 1 #[(0, v39)]) w fun v40 w =>
 RUN Tryz.prog (Builtin.append_ #[37, 37] 37 #[out_4, v40]) w fun v41 w =>
 R v41 w) (
 R out_4 w))) (.slice Option.none 0 0) (.bool false) (.int .i64 0) w
theorem by_seineref03_Put {l_1 p_2 : Value} {R : Value → World → Prop} {w : World} (h : sh_seineref03_Put l_1 p_2 NOPE R w) : RET Tryz.prog 40 [l_1, p_2] w R :=
  ⟨by kernel_rfl, calls_by [(4, [5, 6, 7]), (16007, [24])] Tryz.func40 (by kernel_rfl) (by kernel_rfl) (by kernel_rfl) h⟩

def sh_trie_Build (l_1 : Value) (E : List PanicEntry → World → Prop) (R : Value → World → Prop) (w : World) : Prop :=
 PURE Tryz.prog (Instr.build 129 #[(0, (.int .i64 (-1))), (2, (.int .i64 (-1)))]) fun v2 =>
 RUN Tryz.prog (Instr.buildSlice 130 1 #[(0, v2)]) w fun v3 w =>
 RUN Tryz.prog (Instr.makeMap 131 none) w fun v4 w =>
 PURE Tryz.prog (Instr.build 133 #[(0, v3), (1, v4)]) fun v5 =>
 RUN Tryz.prog (Instr.box 133 v5) w fun v6 w =>
 PURE Tryz.prog (Builtin.len_ #[22] 3 #[l_1]) fun v7 =>
 LOOP1 (fun v8 w next1 =>
 PURE Tryz.prog (BINS .lss 3 (.tmp 16) (.tmp 15) v8 v7) fun v9 =>
 COND v9 (
 PURE Tryz.prog (Instr.indexAt 22 l_1 v8) fun v10 =>
 RUN Tryz.prog (Instr.loadAt 23 v10) w fun v11 w =>
 PURE Tryz.prog (Builtin.len_ #[23] 3 #[v11]) fun v12 =>
 LOOP2 (fun at_13 v14 w next2 =>
 PURE Tryz.prog (BINS .lss 3 (.tmp 23) (.tmp 22) v14 v12) fun v15 =>
 COND v15 (
 PURE Tryz.prog (Instr.indexAt 23 v11 v14) fun v16 =>
 RUN Tryz.prog (Instr.loadAt 5 v16) w fun v17 w =>
 CALL Tryz.prog 61 [v6, at_13, v17] w E fun v18 w =>
 PURE Tryz.prog (BINS .add 3 (.tmp 23) (.const (.int .i64 1)) v14 (.int .i64 1)) fun v19 =>
 next2 v18 v19 w) (
 PURE Tryz.prog (NILS v6) fun v20 =>
 PURE Tryz.prog (Instr.fieldAt 133 v20 0) fun v21 =>
 RUN Tryz.prog (Instr.loadAt 130 v21) w fun v22 w =>
 PURE Tryz.prog (Instr.indexAt 130 v22 at_13) fun v23 =>
 PURE Tryz.prog (Instr.fieldAt 129 v23 2) fun v24 =>
 RUN Tryz.prog (Instr.loadAt 3 v24) w fun v25 w =>
 PURE Tryz.prog (BINS .lss 3 (.tmp 39) (.const (.int .i64 0)) v25 (.int .i64 0)) fun v26 =>
 COND v26 (
 PURE Tryz.prog (NILS v6) fun v27 =>
 PURE Tryz.prog (Instr.fieldAt 133 v27 0) fun v28 =>
 RUN Tryz.prog (Instr.loadAt 130 v28) w fun v29 w =>
 PURE Tryz.prog (Instr.indexAt 130 v29 at_13) fun v30 =>
 PURE Tryz.prog (Instr.fieldAt 129 v30 2) fun v31 =>
 RUNU Tryz.prog (Instr.storeAt 3 v31 v8) w fun w =>
 PURE Tryz.prog (BINS .add 3 (.tmp 16) (.const (.int .i64 1)) v8 (.int .i64 1)) fun v32 =>
 next1 v32 w) (
 PURE Tryz.prog (BINS .add 3 (.tmp 16) (.const (.int .i64 1)) v8 (.int .i64 1)) fun v33 =>
 next1 v33 w))) (.int .i64 0) (.int .i64 0) w) (
 R v6 w)) (.int .i64 0) w
theorem by_trie_Build {l_1 : Value} {R : Value → World → Prop} {w : World} (h : sh_trie_Build l_1 NOPE R w) : RET Tryz.prog 41 [l_1] w R :=
  ⟨by kernel_rfl, calls_by [(3, [16]), (7, [6, 23])] Tryz.func41 (by kernel_rfl) (by kernel_rfl) (by kernel_rfl) h⟩

def sh_links_Build (t_1 : Value) (E : List PanicEntry → World → Prop) (R : Value → World → Prop) (w : World) : Prop :=
 CALL Tryz.prog 43 [t_1] w E fun v2 w =>
 JOIN1 (fun J1 =>
 DRAW w fun S w =>
 (RUN Tryz.prog (Instr.buildSlice 105 1 #[(0, (.int .i64 (-1)))]) w fun v3 w =>
 (CALL Tryz.prog 62 [v3, v2] w E fun v4 w =>
 (RUN Tryz.prog (Instr.buildSlice 105 1 #[(0, (.int .i64 (-1)))]) w fun v5 w =>
 (CALL Tryz.prog 62 [v5, v2] w E fun v6 w =>
 RUN Tryz.prog (Instr.makeSlice 105 v2 v2) w fun v7 w =>
 PURE Tryz.prog (Instr.build 137 #[(0, v4), (1, v6), (2, v7)]) fun v8 =>
 RUN Tryz.prog (Instr.box 137 v8) w fun v9 w =>
 J1 v9 w) ∧
 (RUN Tryz.prog (Instr.makeSlice 105 v2 v2) w fun v10 w =>
 CALL Tryz.prog 62 [v5, v2] w E fun v11 w =>
 PURE Tryz.prog (Instr.build 137 #[(0, v4), (1, v11), (2, v10)]) fun v12 =>
 RUN Tryz.prog (Instr.box 137 v12) w fun v13 w =>
 J1 v13 w)) ∧
 (RUN Tryz.prog (Instr.makeSlice 105 v2 v2) w fun v14 w =>
 RUN Tryz.prog (Instr.buildSlice 105 1 #[(0, (.int .i64 (-1)))]) w fun v15 w =>
 CALL Tryz.prog 62 [v15, v2] w E fun v16 w =>
 PURE Tryz.prog (Instr.build 137 #[(0, v4), (1, v16), (2, v14)]) fun v17 =>
 RUN Tryz.prog (Instr.box 137 v17) w fun v18 w =>
 J1 v18 w)) ∧
 (RUN Tryz.prog (Instr.buildSlice 105 1 #[(0, (.int .i64 (-1)))]) w fun v19 w =>
 (CALL Tryz.prog 62 [v3, v2] w E fun v20 w =>
 (CALL Tryz.prog 62 [v19, v2] w E fun v21 w =>
 RUN Tryz.prog (Instr.makeSlice 105 v2 v2) w fun v22 w =>
 PURE Tryz.prog (Instr.build 137 #[(0, v20), (1, v21), (2, v22)]) fun v23 =>
 RUN Tryz.prog (Instr.box 137 v23) w fun v24 w =>
 J1 v24 w) ∧
 (RUN Tryz.prog (Instr.makeSlice 105 v2 v2) w fun v25 w =>
 CALL Tryz.prog 62 [v19, v2] w E fun v26 w =>
 PURE Tryz.prog (Instr.build 137 #[(0, v20), (1, v26), (2, v25)]) fun v27 =>
 RUN Tryz.prog (Instr.box 137 v27) w fun v28 w =>
 J1 v28 w)) ∧
 (RUN Tryz.prog (Instr.makeSlice 105 v2 v2) w fun v29 w =>
 CALL Tryz.prog 62 [v3, v2] w E fun v30 w =>
 CALL Tryz.prog 62 [v19, v2] w E fun v31 w =>
 PURE Tryz.prog (Instr.build 137 #[(0, v30), (1, v31), (2, v29)]) fun v32 =>
 RUN Tryz.prog (Instr.box 137 v32) w fun v33 w =>
 J1 v33 w)) ∧
 (RUN Tryz.prog (Instr.makeSlice 105 v2 v2) w fun v34 w =>
 (CALL Tryz.prog 62 [v3, v2] w E fun v35 w =>
 RUN Tryz.prog (Instr.buildSlice 105 1 #[(0, (.int .i64 (-1)))]) w fun v36 w =>
 CALL Tryz.prog 62 [v36, v2] w E fun v37 w =>
 PURE Tryz.prog (Instr.build 137 #[(0, v35), (1, v37), (2, v34)]) fun v38 =>
 RUN Tryz.prog (Instr.box 137 v38) w fun v39 w =>
 J1 v39 w) ∧
 (RUN Tryz.prog (Instr.buildSlice 105 1 #[(0, (.int .i64 (-1)))]) w fun v40 w =>
 CALL Tryz.prog 62 [v3, v2] w E fun v41 w =>
 CALL Tryz.prog 62 [v40, v2] w E fun v42 w =>
 PURE Tryz.prog (Instr.build 137 #[(0, v41), (1, v42), (2, v34)]) fun v43 =>
 RUN Tryz.prog (Instr.box 137 v43) w fun v44 w =>
 J1 v44 w))) ∧
 (RUN Tryz.prog (Instr.buildSlice 105 1 #[(0, (.int .i64 (-1)))]) w fun v45 w =>
 KEEPS S w fun S =>
 (RUN Tryz.prog (Instr.buildSlice 105 1 #[(0, (.int .i64 (-1)))]) w fun v46 w =>
 (CALL Tryz.prog 62 [v46, v2] w E fun v47 w =>
 (CALL Tryz.prog 62 [v45, v2] w E fun v48 w =>
 RUN Tryz.prog (Instr.makeSlice 105 v2 v2) w fun v49 w =>
 PURE Tryz.prog (Instr.build 137 #[(0, v47), (1, v48), (2, v49)]) fun v50 =>
 RUN Tryz.prog (Instr.box 137 v50) w fun v51 w =>
 J1 v51 w) ∧
 (RUN Tryz.prog (Instr.makeSlice 105 v2 v2) w fun v52 w =>
 CALL Tryz.prog 62 [v45, v2] w E fun v53 w =>
 PURE Tryz.prog (Instr.build 137 #[(0, v47), (1, v53), (2, v52)]) fun v54 =>
 RUN Tryz.prog (Instr.box 137 v54) w fun v55 w =>
 J1 v55 w)) ∧
 (RUN Tryz.prog (Instr.makeSlice 105 v2 v2) w fun v56 w =>
 CALL Tryz.prog 62 [v46, v2] w E fun v57 w =>
 CALL Tryz.prog 62 [v45, v2] w E fun v58 w =>
 PURE Tryz.prog (Instr.build 137 #[(0, v57), (1, v58), (2, v56)]) fun v59 =>
 RUN Tryz.prog (Instr.box 137 v59) w fun v60 w =>
 J1 v60 w)) ∧
 (RUN Tryz.prog (Instr.makeSlice 105 v2 v2) w fun v61 w =>
 KEEPS S w fun S =>
 RUN Tryz.prog (Instr.buildSlice 105 1 #[(0, (.int .i64 (-1)))]) w fun v62 w =>
 CALL Tryz.prog 62 [v62, v2] w E fun v63 w =>
 CALL Tryz.prog 62 [v45, v2] w E fun v64 w =>
 PURE Tryz.prog (Instr.build 137 #[(0, v63), (1, v64), (2, v61)]) fun v65 =>
 RUN Tryz.prog (Instr.box 137 v65) w fun v66 w =>
 J1 v66 w)) ∧
 (RUN Tryz.prog (Instr.makeSlice 105 v2 v2) w fun v67 w =>
 KEEPS S w fun S =>
 (RUN Tryz.prog (Instr.buildSlice 105 1 #[(0, (.int .i64 (-1)))]) w fun v68 w =>
 (CALL Tryz.prog 62 [v68, v2] w E fun v69 w =>
 RUN Tryz.prog (Instr.buildSlice 105 1 #[(0, (.int .i64 (-1)))]) w fun v70 w =>
 CALL Tryz.prog 62 [v70, v2] w E fun v71 w =>
 PURE Tryz.prog (Instr.build 137 #[(0, v69), (1, v71), (2, v67)]) fun v72 =>
 RUN Tryz.prog (Instr.box 137 v72) w fun v73 w =>
 J1 v73 w) ∧
 (RUN Tryz.prog (Instr.buildSlice 105 1 #[(0, (.int .i64 (-1)))]) w fun v74 w =>
 CALL Tryz.prog 62 [v68, v2] w E fun v75 w =>
 CALL Tryz.prog 62 [v74, v2] w E fun v76 w =>
 PURE Tryz.prog (Instr.build 137 #[(0, v75), (1, v76), (2, v67)]) fun v77 =>
 RUN Tryz.prog (Instr.box 137 v77) w fun v78 w =>
 J1 v78 w)) ∧
 (RUN Tryz.prog (Instr.buildSlice 105 1 #[(0, (.int .i64 (-1)))]) w fun v79 w =>
 KEEPS S w fun S =>
 RUN Tryz.prog (Instr.buildSlice 105 1 #[(0, (.int .i64 (-1)))]) w fun v80 w =>
 CALL Tryz.prog 62 [v80, v2] w E fun v81 w =>
 CALL Tryz.prog 62 [v79, v2] w E fun v82 w =>
 PURE Tryz.prog (Instr.build 137 #[(0, v81), (1, v82), (2, v67)]) fun v83 =>
 RUN Tryz.prog (Instr.box 137 v83) w fun v84 w =>
 J1 v84 w))) (fun l_85 w =>
 PURE Tryz.prog (BINS .eql 3 (.tmp 21) (.const (.int .i64 0)) v2 (.int .i64 0)) fun v86 =>
 COND v86 (
 R l_85 w) (
 RUN Tryz.prog (Instr.buildSlice 105 1 #[(0, (.int .i64 0))]) w fun v87 w =>
 PURE Tryz.prog (NILS l_85) fun v88 =>
 PURE Tryz.prog (Instr.fieldAt 137 v88 3) fun v89 =>
 RUNU Tryz.prog (Instr.storeAt 105 v89 v87) w fun w =>
 LOOP1 (fun i_90 w next2 =>
 PURE Tryz.prog (NILS l_85) fun v91 =>
 PURE Tryz.prog (Instr.fieldAt 137 v91 3) fun v92 =>
 RUN Tryz.prog (Instr.loadAt 105 v92) w fun v93 w =>
 PURE Tryz.prog (Builtin.len_ #[105] 3 #[v93]) fun v94 =>
 PURE Tryz.prog (BINS .lss 3 (.tmp 28) (.tmp 33) i_90 v94) fun v95 =>
 COND v95 (
 PURE Tryz.prog (NILS l_85) fun v96 =>
 PURE Tryz.prog (Instr.fieldAt 137 v96 3) fun v97 =>
 RUN Tryz.prog (Instr.loadAt 105 v97) w fun v98 w =>
 PURE Tryz.prog (Instr.indexAt 105 v98 i_90) fun v99 =>
 RUN Tryz.prog (Instr.loadAt 3 v99) w fun v100 w =>
 CALL Tryz.prog 63 [t_1, v100] w E fun v101 w =>
 PURE Tryz.prog (Builtin.len_ #[23] 3 #[v101]) fun v102 =>
 LOOP1 (fun v103 w next3 =>
 PURE Tryz.prog (BINS .lss 3 (.tmp 48) (.tmp 47) v103 v102) fun v104 =>
 COND v104 (
 PURE Tryz.prog (Instr.indexAt 23 v101 v103) fun v105 =>
 RUN Tryz.prog (Instr.loadAt 5 v105) w fun v106 w =>
 DRAW w fun S w =>
 PURE Tryz.prog (NILS l_85) fun v107 =>
 PURE Tryz.prog (Instr.fieldAt 137 v107 3) fun v108 =>
 READ Tryz.prog S (Instr.loadAt 105 v108) w fun v109 =>
 CALL Tryz.prog 64 [t_1, v100, v106] w E fun v110 w =>
 KEEPS S w fun S =>
 RUN Tryz.prog (Instr.buildSlice 105 1 #[(0, v110)]) w fun v111 w =>
 KEEPS S w fun S =>
 RUN Tryz.prog (Builtin.append_ #[105, 105] 105 #[v109, v111]) w fun v112 w =>
 PURE Tryz.prog (NILS l_85) fun v113 =>
 PURE Tryz.prog (Instr.fieldAt 137 v113 3) fun v114 =>
 RUNU Tryz.prog (Instr.storeAt 105 v114 v112) w fun w =>
 PURE Tryz.prog (BINS .add 3 (.tmp 48) (.const (.int .i64 1)) v103 (.int .i64 1)) fun v115 =>
 next3 v115 w) (
 PURE Tryz.prog (BINS .eql 3 (.tmp 66) (.const (.int .i64 0)) v100 (.int .i64 0)) fun v116 =>
 COND v116 (
 PURE Tryz.prog (BINS .add 3 (.tmp 35) (.const (.int .i64 1)) i_90 (.int .i64 1)) fun v117 =>
 next2 v117 w) (
 CALL Tryz.prog 65 [l_85, t_1, v100] w E fun v118 w =>
 PURE Tryz.prog (BINS .add 3 (.tmp 35) (.const (.int .i64 1)) i_90 (.int .i64 1)) fun v119 =>
 next2 v119 w))) (.int .i64 0) w) (
 R l_85 w)) (.int .i64 0) w))
theorem by_links_Build {t_1 : Value} {R : Value → World → Prop} {w : World} (h : sh_links_Build t_1 NOPE R w) : RET Tryz.prog 42 [t_1] w R :=
  ⟨by kernel_rfl, calls_by [(7, [5]), (11, [48]), (12003, [4])] Tryz.func42 (by kernel_rfl) (by kernel_rfl) (by kernel_rfl) h⟩

def sh_trie_Trie_Nodes (t_1 : Value) (E : List PanicEntry → World → Prop) (R : Value → World → Prop) (w : World) : Prop :=
 PURE Tryz.prog (BINS .eql 90 (.tmp 3) (.const (.pointer Option.none)) t_1 (.pointer Option.none)) fun v2 =>
 COND v2 (
 R (.int .i64 0) w) (
 PURE Tryz.prog (NILS t_1) fun v3 =>
 PURE Tryz.prog (Instr.fieldAt 133 v3 0) fun v4 =>
 RUN Tryz.prog (Instr.loadAt 130 v4) w fun v5 w =>
 PURE Tryz.prog (Builtin.len_ #[130] 3 #[v5]) fun v6 =>
 R v6 w)
theorem by_trie_Trie_Nodes {t_1 : Value} {R : Value → World → Prop} {w : World} (h : sh_trie_Trie_Nodes t_1 NOPE R w) : RET Tryz.prog 43 [t_1] w R :=
  ⟨by kernel_rfl, calls_by [] Tryz.func43 (by kernel_rfl) (by kernel_rfl) (by kernel_rfl) h⟩

def sh_trie_Trie_Path (t_1 node_2 : Value) (E : List PanicEntry → World → Prop) (R : Value → World → Prop) (w : World) : Prop :=
 LOOP2 (fun node_3 out_4 w next1 =>
 JOIN0 (fun J2 =>
 CALL Tryz.prog 66 [t_1, node_3] w E fun v5 w =>
 COND v5 (
 PURE Tryz.prog (NILS t_1) fun v6 =>
 PURE Tryz.prog (Instr.fieldAt 133 v6 0) fun v7 =>
 RUN Tryz.prog (Instr.loadAt 130 v7) w fun v8 w =>
 PURE Tryz.prog (Instr.indexAt 130 v8 node_3) fun v9 =>
 PURE Tryz.prog (Instr.fieldAt 129 v9 0) fun v10 =>
 RUN Tryz.prog (Instr.loadAt 3 v10) w fun v11 w =>
 PURE Tryz.prog (BINS .geq 3 (.tmp 17) (.const (.int .i64 0)) v11 (.int .i64 0)) fun v12 =>
 COND v12 (
 J2 w) (
 CALL Tryz.prog 67 [out_4] w E fun v13 w =>
 R out_4 w)) (
 COND (.bool false) (
 J2 w) (
 CALL Tryz.prog 67 [out_4] w E fun v14 w =>
 R out_4 w))) (fun w =>
 PURE Tryz.prog (NILS t_1) fun v15 =>
 PURE Tryz.prog (Instr.fieldAt 133 v15 0) fun v16 =>
 RUN Tryz.prog (Instr.loadAt 130 v16) w fun v17 w =>
 PURE Tryz.prog (Instr.indexAt 130 v17 node_3) fun v18 =>
 PURE Tryz.prog (Instr.fieldAt 129 v18 3) fun v19 =>
 RUN Tryz.prog (Instr.loadAt 5 v19) w fun v20 w =>
 RUN Tryz.prog (Instr.buildSlice 23 1 #[(0, v20)]) w fun v21 w =>
 RUN Tryz.prog (Builtin.append_ #[23, 23] 23 #[out_4, v21]) w fun v22 w =>
 PURE Tryz.prog (NILS t_1) fun v23 =>
 PURE Tryz.prog (Instr.fieldAt 133 v23 0) fun v24 =>
 RUN Tryz.prog (Instr.loadAt 130 v24) w fun v25 w =>
 PURE Tryz.prog (Instr.indexAt 130 v25 node_3) fun v26 =>
 PURE Tryz.prog (Instr.fieldAt 129 v26 0) fun v27 =>
 RUN Tryz.prog (Instr.loadAt 3 v27) w fun v28 w =>
 next1 v28 v22 w)) node_2 (.slice Option.none 0 0) w
theorem by_trie_Trie_Path {t_1 node_2 : Value} {R : Value → World → Prop} {w : World} (h : sh_trie_Trie_Path t_1 node_2 NOPE R w) : RET Tryz.prog 44 [t_1, node_2] w R :=
  ⟨by kernel_rfl, calls_by [(2, [1, 5]), (12003, [])] Tryz.func44 (by kernel_rfl) (by kernel_rfl) (by kernel_rfl) h⟩

def sh_trie_Trie_Parent (t_1 node_2 : Value) (E : List PanicEntry → World → Prop) (R : Value → World → Prop) (w : World) : Prop :=
 CALL Tryz.prog 66 [t_1, node_2] w E fun v3 w =>
 PURE Tryz.prog (Op.unary .not v3) fun v4 =>
 COND v4 (
 R (.int .i64 (-1)) w) (
 PURE Tryz.prog (NILS t_1) fun v5 =>
 PURE Tryz.prog (Instr.fieldAt 133 v5 0) fun v6 =>
 RUN Tryz.prog (Instr.loadAt 130 v6) w fun v7 w =>
 PURE Tryz.prog (Instr.indexAt 130 v7 node_2) fun v8 =>
 PURE Tryz.prog (Instr.fieldAt 129 v8 0) fun v9 =>
 RUN Tryz.prog (Instr.loadAt 3 v9) w fun v10 w =>
 R v10 w)
theorem by_trie_Trie_Parent {t_1 node_2 : Value} {R : Value → World → Prop} {w : World} (h : sh_trie_Trie_Parent t_1 node_2 NOPE R w) : RET Tryz.prog 45 [t_1, node_2] w R :=
  ⟨by kernel_rfl, calls_by [] Tryz.func45 (by kernel_rfl) (by kernel_rfl) (by kernel_rfl) h⟩

def sh_classes_Of (l_1 : Value) (E : List PanicEntry → World → Prop) (R : Value → World → Prop) (w : World) : Prop :=
 RUN Tryz.prog (Instr.alloc 103 true (.tuple #[])) w fun v2 w =>
 RUN Tryz.prog (Instr.alloc 142 true (.tuple #[])) w fun s_3 w =>
 PURE Tryz.prog (Builtin.len_ #[22] 3 #[l_1]) fun v4 =>
 LOOP1 (fun v5 w next1 =>
 PURE Tryz.prog (BINS .lss 3 (.tmp 11) (.tmp 10) v5 v4) fun v6 =>
 COND v6 (
 PURE Tryz.prog (Instr.indexAt 22 l_1 v5) fun v7 =>
 RUN Tryz.prog (Instr.loadAt 23 v7) w fun v8 w =>
 DRAW w fun S w =>
 READ Tryz.prog S (Instr.loadAt 142 s_3) w fun v9 =>
 CALL Tryz.prog 69 [v8] w E fun v10 w =>
 KEEPS S w fun S =>
 CALL Tryz.prog 68 [v9, v10] w E fun v11 w =>
 RUNU Tryz.prog (Instr.storeAt 142 s_3 v11) w fun w =>
 PURE Tryz.prog (BINS .add 3 (.tmp 11) (.const (.int .i64 1)) v5 (.int .i64 1)) fun v12 =>
 next1 v12 w) (
 RUN Tryz.prog (Instr.alloc 103 true (.tuple #[])) w fun c_13 w =>
 RUN Tryz.prog (Instr.loadAt 142 s_3) w fun v14 w =>
 CALL Tryz.prog 70 [v14] w E fun v15 w =>
 PURE Tryz.prog (Builtin.len_ #[23] 3 #[v15]) fun v16 =>
 LOOP1 (fun v17 w next2 =>
 PURE Tryz.prog (BINS .lss 3 (.tmp 23) (.tmp 22) v17 v16) fun v18 =>
 COND v18 (
 PURE Tryz.prog (Instr.indexAt 23 v15 v17) fun v19 =>
 RUN Tryz.prog (Instr.loadAt 5 v19) w fun v20 w =>
 PURE Tryz.prog (Instr.fieldAt 103 c_13 1) fun v21 =>
 RUN Tryz.prog (Instr.loadAt 3 v21) w fun v22 w =>
 PURE Tryz.prog (BINS .add 3 (.tmp 28) (.const (.int .i64 1)) v22 (.int .i64 1)) fun v23 =>
 PURE Tryz.prog (Instr.fieldAt 103 c_13 1) fun v24 =>
 RUNU Tryz.prog (Instr.storeAt 3 v24 v23) w fun w =>
 PURE Tryz.prog (Instr.fieldAt 103 c_13 1) fun v25 =>
 RUN Tryz.prog (Instr.loadAt 3 v25) w fun v26 w =>
 PURE Tryz.prog (Instr.fieldAt 103 c_13 0) fun v27 =>
 PURE Tryz.prog (Instr.indexAt 101 v27 v20) fun v28 =>
 RUNU Tryz.prog (Instr.storeAt 3 v28 v26) w fun w =>
 PURE Tryz.prog (BINS .add 3 (.tmp 23) (.const (.int .i64 1)) v17 (.int .i64 1)) fun v29 =>
 next2 v29 w) (
 RUN Tryz.prog (Instr.loadAt 103 c_13) w fun v30 w =>
 RUNU Tryz.prog (Instr.storeAt 103 v2 v30) w fun w =>
 LOADRES Tryz.prog 103 v2 w fun r => R r w)) (.int .i64 0) w)) (.int .i64 0) w
theorem by_classes_Of {l_1 : Value} {R : Value → World → Prop} {w : World} (h : sh_classes_Of l_1 NOPE R w) : RET Tryz.prog 46 [l_1] w R :=
  ⟨by kernel_rfl, calls_by [(3, [11]), (9, [23])] Tryz.func46 (by kernel_rfl) (by kernel_rfl) (by kernel_rfl) h⟩

def sh_dfa_DFA_fill (d_1 : Value) (E : List PanicEntry → World → Prop) (R : Value → World → Prop) (w : World) : Prop :=
 DRAW w fun S w =>
 PURE Tryz.prog (NILS d_1) fun v2 =>
 PURE Tryz.prog (Instr.fieldAt 107 v2 0) fun v3 =>
 READ Tryz.prog S (Instr.loadAt 90 v3) w fun v4 =>
 PURE Tryz.prog (NILS d_1) fun v5 =>
 PURE Tryz.prog (Instr.fieldAt 107 v5 2) fun v6 =>
 READ Tryz.prog S (Instr.loadAt 103 v6) w fun v7 =>
 CALL Tryz.prog 43 [v4] w E fun v8 w =>
 KEEPS S w fun S =>
 CALL Tryz.prog 71 [v7] w E fun v9 w =>
 PURE Tryz.prog (BINS .mul 3 (.tmp 14) (.tmp 19) v8 v9) fun v10 =>
 RUN Tryz.prog (Instr.makeSlice 105 v10 v10) w fun v11 w =>
 PURE Tryz.prog (NILS d_1) fun v12 =>
 PURE Tryz.prog (Instr.fieldAt 107 v12 3) fun v13 =>
 RUNU Tryz.prog (Instr.storeAt 105 v13 v11) w fun w =>
 PURE Tryz.prog (NILS d_1) fun v14 =>
 PURE Tryz.prog (Instr.fieldAt 107 v14 1) fun v15 =>
 RUN Tryz.prog (Instr.loadAt 92 v15) w fun v16 w =>
 CALL Tryz.prog 72 [v16] w E fun v17 w =>
 PURE Tryz.prog (Builtin.len_ #[105] 3 #[v17]) fun v18 =>
 LOOP1 (fun v19 w next1 =>
 PURE Tryz.prog (BINS .lss 3 (.tmp 30) (.tmp 29) v19 v18) fun v20 =>
 COND v20 (
 PURE Tryz.prog (Instr.indexAt 105 v17 v19) fun v21 =>
 RUN Tryz.prog (Instr.loadAt 3 v21) w fun v22 w =>
 CALL Tryz.prog 73 [d_1, v22] w E fun v23 w =>
 JOIN0 (fun J2 =>
 PURE Tryz.prog (NILS d_1) fun v24 =>
 PURE Tryz.prog (Instr.fieldAt 107 v24 1) fun v25 =>
 RUN Tryz.prog (Instr.loadAt 92 v25) w fun v26 w =>
 CALL Tryz.prog 74 [v26, v22] w E fun v27 w =>
 PURE Tryz.prog (BINS .geq 3 (.tmp 43) (.const (.int .i64 0)) v27 (.int .i64 0)) fun v28 =>
 COND v28 (
 CALL Tryz.prog 73 [d_1, v27] w E fun v29 w =>
 RUN Tryz.prog (Builtin.copy_ #[105, 105] 3 #[v23, v29]) w fun v30 w =>
 J2 w) (
 J2 w)) (fun w =>
 PURE Tryz.prog (NILS d_1) fun v31 =>
 PURE Tryz.prog (Instr.fieldAt 107 v31 0) fun v32 =>
 RUN Tryz.prog (Instr.loadAt 90 v32) w fun v33 w =>
 CALL Tryz.prog 63 [v33, v22] w E fun v34 w =>
 PURE Tryz.prog (Builtin.len_ #[23] 3 #[v34]) fun v35 =>
 PURE Tryz.prog (BINS .eql 3 (.tmp 57) (.const (.int .i64 0)) v35 (.int .i64 0)) fun v36 =>
 COND v36 (
 PURE Tryz.prog (BINS .add 3 (.tmp 30) (.const (.int .i64 1)) v19 (.int .i64 1)) fun v37 =>
 next1 v37 w) (
 PURE Tryz.prog (Builtin.len_ #[23] 3 #[v34]) fun v38 =>
 LOOP1 (fun v39 w next3 =>
 PURE Tryz.prog (BINS .lss 3 (.tmp 61) (.tmp 60) v39 v38) fun v40 =>
 COND v40 (
 PURE Tryz.prog (Instr.indexAt 23 v34 v39) fun v41 =>
 RUN Tryz.prog (Instr.loadAt 5 v41) w fun v42 w =>
 DRAW w fun S w =>
 PURE Tryz.prog (NILS d_1) fun v43 =>
 PURE Tryz.prog (Instr.fieldAt 107 v43 2) fun v44 =>
 READ Tryz.prog S (Instr.loadAt 103 v44) w fun v45 =>
 PURE Tryz.prog (NILS d_1) fun v46 =>
 PURE Tryz.prog (Instr.fieldAt 107 v46 0) fun v47 =>
 READ Tryz.prog S (Instr.loadAt 90 v47) w fun v48 =>
 CALL Tryz.prog 75 [v45, v42] w E fun v49 w =>
 KEEPS S w fun S =>
 CALL Tryz.prog 64 [v48, v22, v42] w E fun v50 w =>
 PURE Tryz.prog (Instr.indexAt 105 v23 v49) fun v51 =>
 RUNU Tryz.prog (Instr.storeAt 3 v51 v50) w fun w =>
 PURE Tryz.prog (BINS .add 3 (.tmp 61) (.const (.int .i64 1)) v39 (.int .i64 1)) fun v52 =>
 next3 v52 w) (
 PURE Tryz.prog (BINS .add 3 (.tmp 30) (.const (.int .i64 1)) v19 (.int .i64 1)) fun v53 =>
 next1 v53 w)) (.int .i64 0) w))) (
 R (.tuple #[]) w)) (.int .i64 0) w
theorem by_dfa_DFA_fill {d_1 : Value} {R : Value → World → Prop} {w : World} (h : sh_dfa_DFA_fill d_1 NOPE R w) : RET Tryz.prog 47 [d_1] w R :=
  ⟨by kernel_rfl, calls_by [(2, [30]), (11, [61]), (15008, [])] Tryz.func47 (by kernel_rfl) (by kernel_rfl) (by kernel_rfl) h⟩

def sh_critical_Factor (b_1 : Value) (E : List PanicEntry → World → Prop) (R : Value → World → Prop) (w : World) : Prop :=
 RUN Tryz.prog (Instr.alloc 109 true (.tuple #[])) w fun v2 w =>
 CALL Tryz.prog 76 [b_1] w E fun v3 w =>
 RUN Tryz.prog (Instr.alloc 109 true (.tuple #[])) w fun s_4 w =>
 RUNU Tryz.prog (Instr.storeAt 109 s_4 v3) w fun w =>
 RUN Tryz.prog (Instr.loadAt 109 s_4) w fun v5 w =>
 PURE Tryz.prog (Instr.build 109 #[]) fun v6 =>
 PURE Tryz.prog (BINS .eql 109 (.tmp 7) (.tmp 8) v5 v6) fun v7 =>
 COND v7 (
 RUN Tryz.prog (Instr.loadAt 109 s_4) w fun v8 w =>
 RUNU Tryz.prog (Instr.storeAt 109 v2 v8) w fun w =>
 LOADRES Tryz.prog 109 v2 w fun r => R r w) (
 PURE Tryz.prog (Instr.makeFunc (Go.Fn.func 77) #[b_1] #[]) fun v9 =>
 PURE Tryz.prog (Instr.fieldAt 109 s_4 1) fun v10 =>
 RUN Tryz.prog (Instr.loadAt 3 v10) w fun v11 w =>
 PURE Tryz.prog (Instr.fieldAt 109 s_4 0) fun v12 =>
 RUN Tryz.prog (Instr.loadAt 3 v12) w fun v13 w =>
 CALLV Tryz.prog v9 [(.int .i64 0), v11, v13] w E fun v14 w =>
 PURE Tryz.prog (Instr.fieldAt 109 s_4 2) fun v15 =>
 RUNU Tryz.prog (Instr.storeAt 4 v15 v14) w fun w =>
 PURE Tryz.prog (Instr.fieldAt 109 s_4 2) fun v16 =>
 RUN Tryz.prog (Instr.loadAt 4 v16) w fun v17 w =>
 PURE Tryz.prog (Op.unary .not v17) fun v18 =>
 COND v18 (
 PURE Tryz.prog (Instr.fieldAt 109 s_4 0) fun v19 =>
 RUN Tryz.prog (Instr.loadAt 3 v19) w fun v20 w =>
 PURE Tryz.prog (Builtin.len_ #[23] 3 #[b_1]) fun v21 =>
 PURE Tryz.prog (Instr.fieldAt 109 s_4 0) fun v22 =>
 RUN Tryz.prog (Instr.loadAt 3 v22) w fun v23 w =>
 PURE Tryz.prog (BINS .sub 3 (.tmp 26) (.tmp 28) v21 v23) fun v24 =>
 PURE Tryz.prog (Builtin.max_ #[3, 3] 3 #[v20, v24]) fun v25 =>
 PURE Tryz.prog (BINS .add 3 (.tmp 30) (.const (.int .i64 1)) v25 (.int .i64 1)) fun v26 =>
 PURE Tryz.prog (Instr.fieldAt 109 s_4 1) fun v27 =>
 RUNU Tryz.prog (Instr.storeAt 3 v27 v26) w fun w =>
 RUN Tryz.prog (Instr.loadAt 109 s_4) w fun v28 w =>
 RUNU Tryz.prog (Instr.storeAt 109 v2 v28) w fun w =>
 LOADRES Tryz.prog 109 v2 w fun r => R r w) (
 RUN Tryz.prog (Instr.loadAt 109 s_4) w fun v29 w =>
 RUNU Tryz.prog (Instr.storeAt 109 v2 v29) w fun w =>
 LOADRES Tryz.prog 109 v2 w fun r => R r w))
theorem by_critical_Factor {b_1 : Value} {R : Value → World → Prop} {w : World} (h : sh_critical_Factor b_1 NOPE R w) : RET Tryz.prog 48 [b_1] w R :=
  ⟨by kernel_rfl, calls_by [] Tryz.func48 (by kernel_rfl) (by kernel_rfl) (by kernel_rfl) h⟩

def sh_twoway_Two_plain (t_1 line_2 at_3 : Value) (E : List PanicEntry → World → Prop) (R : Value → World → Prop) (w : World) : Prop :=
 LOOP1 (fun at_4 w next1 =>
 PURE Tryz.prog (NILS t_1) fun v5 =>
 PURE Tryz.prog (Instr.fieldAt 114 v5 0) fun v6 =>
 RUN Tryz.prog (Instr.loadAt 23 v6) w fun v7 w =>
 PURE Tryz.prog (Builtin.len_ #[23] 3 #[v7]) fun v8 =>
 PURE Tryz.prog (BINS .add 3 (.tmp 8) (.tmp 13) at_4 v8) fun v9 =>
 PURE Tryz.prog (Builtin.len_ #[23] 3 #[line_2]) fun v10 =>
 PURE Tryz.prog (BINS .leq 3 (.tmp 14) (.tmp 16) v9 v10) fun v11 =>
 COND v11 (
 PURE Tryz.prog (NILS t_1) fun v12 =>
 PURE Tryz.prog (Instr.fieldAt 114 v12 1) fun v13 =>
 PURE Tryz.prog (Instr.fieldAt 109 v13 0) fun v14 =>
 RUN Tryz.prog (Instr.loadAt 3 v14) w fun v15 w =>
 CALL Tryz.prog 78 [t_1, line_2, at_4, v15] w E fun v16 w =>
 PURE Tryz.prog (NILS t_1) fun v17 =>
 PURE Tryz.prog (Instr.fieldAt 114 v17 0) fun v18 =>
 RUN Tryz.prog (Instr.loadAt 23 v18) w fun v19 w =>
 PURE Tryz.prog (Builtin.len_ #[23] 3 #[v19]) fun v20 =>
 PURE Tryz.prog (BINS .lss 3 (.tmp 27) (.tmp 32) v16 v20) fun v21 =>
 COND v21 (
 PURE Tryz.prog (NILS t_1) fun v22 =>
 PURE Tryz.prog (Instr.fieldAt 114 v22 1) fun v23 =>
 PURE Tryz.prog (Instr.fieldAt 109 v23 0) fun v24 =>
 RUN Tryz.prog (Instr.loadAt 3 v24) w fun v25 w =>
 PURE Tryz.prog (BINS .sub 3 (.tmp 35) (.tmp 40) v16 v25) fun v26 =>
 PURE Tryz.prog (BINS .add 3 (.tmp 41) (.const (.int .i64 1)) v26 (.int .i64 1)) fun v27 =>
 PURE Tryz.prog (BINS .add 3 (.tmp 34) (.tmp 42) at_4 v27) fun v28 =>
 next1 v28 w) (
 CALL Tryz.prog 79 [t_1, line_2, at_4, (.int .i64 0)] w E fun v29 w =>
 COND v29 (
 R at_4 w) (
 PURE Tryz.prog (NILS t_1) fun v30 =>
 PURE Tryz.prog (Instr.fieldAt 114 v30 1) fun v31 =>
 PURE Tryz.prog (Instr.fieldAt 109 v31 1) fun v32 =>
 RUN Tryz.prog (Instr.loadAt 3 v32) w fun v33 w =>
 PURE Tryz.prog (BINS .add 3 (.tmp 49) (.tmp 54) at_4 v33) fun v34 =>
 next1 v34 w))) (
 R (.int .i64 (-1)) w)) at_3 w
theorem by_twoway_Two_plain {t_1 line_2 at_3 : Value} {R : Value → World → Prop} {w : World} (h : sh_twoway_Two_plain t_1 line_2 at_3 NOPE R w) : RET Tryz.prog 49 [t_1, line_2, at_3] w R :=
  ⟨by kernel_rfl, calls_by [(1, [2])] Tryz.func49 (by kernel_rfl) (by kernel_rfl) (by kernel_rfl) h⟩

def sh_twoway_Two_lapped (t_1 line_2 at_3 : Value) (E : List PanicEntry → World → Prop) (R : Value → World → Prop) (w : World) : Prop :=
 LOOP2 (fun at_4 known_5 w next1 =>
 PURE Tryz.prog (NILS t_1) fun v6 =>
 PURE Tryz.prog (Instr.fieldAt 114 v6 0) fun v7 =>
 RUN Tryz.prog (Instr.loadAt 23 v7) w fun v8 w =>
 PURE Tryz.prog (Builtin.len_ #[23] 3 #[v8]) fun v9 =>
 PURE Tryz.prog (BINS .add 3 (.tmp 9) (.tmp 14) at_4 v9) fun v10 =>
 PURE Tryz.prog (Builtin.len_ #[23] 3 #[line_2]) fun v11 =>
 PURE Tryz.prog (BINS .leq 3 (.tmp 15) (.tmp 17) v10 v11) fun v12 =>
 COND v12 (
 PURE Tryz.prog (NILS t_1) fun v13 =>
 PURE Tryz.prog (Instr.fieldAt 114 v13 1) fun v14 =>
 PURE Tryz.prog (Instr.fieldAt 109 v14 0) fun v15 =>
 RUN Tryz.prog (Instr.loadAt 3 v15) w fun v16 w =>
 PURE Tryz.prog (Builtin.max_ #[3, 3] 3 #[v16, known_5]) fun v17 =>
 CALL Tryz.prog 78 [t_1, line_2, at_4, v17] w E fun v18 w =>
 PURE Tryz.prog (NILS t_1) fun v19 =>
 PURE Tryz.prog (Instr.fieldAt 114 v19 0) fun v20 =>
 RUN Tryz.prog (Instr.loadAt 23 v20) w fun v21 w =>
 PURE Tryz.prog (Builtin.len_ #[23] 3 #[v21]) fun v22 =>
 PURE Tryz.prog (BINS .lss 3 (.tmp 30) (.tmp 35) v18 v22) fun v23 =>
 COND v23 (
 PURE Tryz.prog (NILS t_1) fun v24 =>
 PURE Tryz.prog (Instr.fieldAt 114 v24 1) fun v25 =>
 PURE Tryz.prog (Instr.fieldAt 109 v25 0) fun v26 =>
 RUN Tryz.prog (Instr.loadAt 3 v26) w fun v27 w =>
 PURE Tryz.prog (BINS .sub 3 (.tmp 38) (.tmp 43) v18 v27) fun v28 =>
 PURE Tryz.prog (BINS .add 3 (.tmp 44) (.const (.int .i64 1)) v28 (.int .i64 1)) fun v29 =>
 PURE Tryz.prog (BINS .add 3 (.tmp 37) (.tmp 45) at_4 v29) fun v30 =>
 next1 v30 (.int .i64 0) w) (
 CALL Tryz.prog 79 [t_1, line_2, at_4, known_5] w E fun v31 w =>
 COND v31 (
 R at_4 w) (
 PURE Tryz.prog (NILS t_1) fun v32 =>
 PURE Tryz.prog (Instr.fieldAt 114 v32 1) fun v33 =>
 PURE Tryz.prog (Instr.fieldAt 109 v33 1) fun v34 =>
 RUN Tryz.prog (Instr.loadAt 3 v34) w fun v35 w =>
 PURE Tryz.prog (BINS .add 3 (.tmp 53) (.tmp 58) at_4 v35) fun v36 =>
 DRAWQ w fun S w =>
 PURE Tryz.prog (NILS t_1) fun v37 =>
 PURE Tryz.prog (Instr.fieldAt 114 v37 0) fun v38 =>
 READ Tryz.prog S (Instr.loadAt 23 v38) w fun v39 =>
 PURE Tryz.prog (Builtin.len_ #[23] 3 #[v39]) fun v40 =>
 PURE Tryz.prog (NILS t_1) fun v41 =>
 PURE Tryz.prog (Instr.fieldAt 114 v41 1) fun v42 =>
 PURE Tryz.prog (Instr.fieldAt 109 v42 1) fun v43 =>
 READ Tryz.prog S (Instr.loadAt 3 v43) w fun v44 =>
 PURE Tryz.prog (BINS .sub 3 (.tmp 64) (.tmp 69) v40 v44) fun v45 =>
 next1 v36 v45 w))) (
 R (.int .i64 (-1)) w)) at_3 (.int .i64 0) w
theorem by_twoway_Two_lapped {t_1 line_2 at_3 : Value} {R : Value → World → Prop} {w : World} (h : sh_twoway_Two_lapped t_1 line_2 at_3 NOPE R w) : RET Tryz.prog 50 [t_1, line_2, at_3] w R :=
  ⟨by kernel_rfl, calls_by [(2, [2, 7])] Tryz.func50 (by kernel_rfl) (by kernel_rfl) (by kernel_rfl) h⟩

def sh_twoway_Two_Next (t_1 line_2 from_3 : Value) (E : List PanicEntry → World → Prop) (R : Value → World → Prop) (w : World) : Prop :=
 JOIN0 (fun J1 =>
 PURE Tryz.prog (BINS .eql 73 (.tmp 7) (.const (.pointer Option.none)) t_1 (.pointer Option.none)) fun v4 =>
 COND v4 (
 COND (.bool true) (
 R (.int .i64 (-1)) w) (
 J1 w)) (
 PURE Tryz.prog (Builtin.len_ #[23] 3 #[line_2]) fun v5 =>
 PURE Tryz.prog (BINS .gtr 3 (.tmp 10) (.tmp 12) from_3 v5) fun v6 =>
 COND v6 (
 R (.int .i64 (-1)) w) (
 J1 w))) (fun w =>
 PURE Tryz.prog (NILS t_1) fun v7 =>
 PURE Tryz.prog (Instr.fieldAt 114 v7 2) fun v8 =>
 RUN Tryz.prog (Instr.loadAt 111 v8) w fun v9 w =>
 PURE Tryz.prog (Builtin.max_ #[3, 3] 3 #[from_3, (.int .i64 0)]) fun v10 =>
 CALLV Tryz.prog v9 [t_1, line_2, v10] w E fun v11 w =>
 R v11 w)
theorem by_twoway_Two_Next {t_1 line_2 from_3 : Value} {R : Value → World → Prop} {w : World} (h : sh_twoway_Two_Next t_1 line_2 from_3 NOPE R w) : RET Tryz.prog 51 [t_1, line_2, from_3] w R :=
  ⟨by kernel_rfl, calls_by [(11003, [])] Tryz.func51 (by kernel_rfl) (by kernel_rfl) (by kernel_rfl) h⟩

def sh_back_Build (l_1 : Value) (E : List PanicEntry → World → Prop) (R : Value → World → Prop) (w : World) : Prop :=
 PURE Tryz.prog (Instr.build 154 #[]) fun v2 =>
 RUN Tryz.prog (Instr.box 154 v2) w fun v3 w =>
 PURE Tryz.prog (Builtin.len_ #[22] 3 #[l_1]) fun v4 =>
 LOOP2 (fun texts_5 v6 w next1 =>
 PURE Tryz.prog (BINS .lss 3 (.tmp 14) (.tmp 13) v6 v4) fun v7 =>
 COND v7 (
 PURE Tryz.prog (Instr.indexAt 22 l_1 v6) fun v8 =>
 RUN Tryz.prog (Instr.loadAt 23 v8) w fun v9 w =>
 PURE Tryz.prog (Builtin.len_ #[23] 3 #[v9]) fun v10 =>
 PURE Tryz.prog (BINS .eql 3 (.tmp 19) (.const (.int .i64 0)) v10 (.int .i64 0)) fun v11 =>
 COND v11 (
 PURE Tryz.prog (BINS .add 3 (.tmp 14) (.const (.int .i64 1)) v6 (.int .i64 1)) fun v12 =>
 next1 texts_5 v12 w) (
 CALL Tryz.prog 81 [v9] w E fun v13 w =>
 RUN Tryz.prog (Instr.buildSlice 22 1 #[(0, v13)]) w fun v14 w =>
 RUN Tryz.prog (Builtin.append_ #[22, 22] 22 #[texts_5, v14]) w fun v15 w =>
 PURE Tryz.prog (NILS v3) fun v16 =>
 PURE Tryz.prog (Instr.fieldAt 154 v16 1) fun v17 =>
 RUN Tryz.prog (Instr.loadAt 3 v17) w fun v18 w =>
 PURE Tryz.prog (Builtin.len_ #[23] 3 #[v13]) fun v19 =>
 CALLV Tryz.prog (.func (.func 80) #[] #[]) [v18, v19] w E fun v20 w =>
 PURE Tryz.prog (NILS v3) fun v21 =>
 PURE Tryz.prog (Instr.fieldAt 154 v21 1) fun v22 =>
 RUNU Tryz.prog (Instr.storeAt 3 v22 v20) w fun w =>
 PURE Tryz.prog (Builtin.len_ #[23] 3 #[v13]) fun v23 =>
 LOOP1 (fun v24 w next2 =>
 PURE Tryz.prog (BINS .lss 3 (.tmp 40) (.tmp 39) v24 v23) fun v25 =>
 COND v25 (
 PURE Tryz.prog (Instr.indexAt 23 v13 v24) fun v26 =>
 RUN Tryz.prog (Instr.loadAt 5 v26) w fun v27 w =>
 DRAWQ w fun S w =>
 PURE Tryz.prog (NILS v3) fun v28 =>
 PURE Tryz.prog (Instr.fieldAt 154 v28 2) fun v29 =>
 PURE Tryz.prog (Instr.indexAt 101 v29 v27) fun v30 =>
 READ Tryz.prog S (Instr.loadAt 3 v30) w fun v31 =>
 PURE Tryz.prog (BINS .add 3 (.tmp 54) (.const (.int .i64 1)) v24 (.int .i64 1)) fun v32 =>
 PURE Tryz.prog (NILS v3) fun v33 =>
 PURE Tryz.prog (Instr.fieldAt 154 v33 2) fun v34 =>
 CALLV Tryz.prog (.func (.func 80) #[] #[]) [v31, v32] w E fun v35 w =>
 PURE Tryz.prog (Instr.indexAt 101 v34 v27) fun v36 =>
 RUNU Tryz.prog (Instr.storeAt 3 v36 v35) w fun w =>
 PURE Tryz.prog (BINS .add 3 (.tmp 40) (.const (.int .i64 1)) v24 (.int .i64 1)) fun v37 =>
 next2 v37 w) (
 PURE Tryz.prog (BINS .add 3 (.tmp 14) (.const (.int .i64 1)) v6 (.int .i64 1)) fun v38 =>
 next1 v15 v38 w)) (.int .i64 0) w)) (
 CALL Tryz.prog 41 [texts_5] w E fun v39 w =>
 PURE Tryz.prog (NILS v3) fun v40 =>
 PURE Tryz.prog (Instr.fieldAt 154 v40 0) fun v41 =>
 RUNU Tryz.prog (Instr.storeAt 90 v41 v39) w fun w =>
 R v3 w)) (.slice Option.none 0 0) (.int .i64 0) w
theorem by_back_Build {l_1 : Value} {R : Value → World → Prop} {w : World} (h : sh_back_Build l_1 NOPE R w) : RET Tryz.prog 52 [l_1] w R :=
  ⟨by kernel_rfl, calls_by [(5, [5, 14]), (12, [40])] Tryz.func52 (by kernel_rfl) (by kernel_rfl) (by kernel_rfl) h⟩

def sh_shifts_Build (b_1 : Value) (E : List PanicEntry → World → Prop) (R : Value → World → Prop) (w : World) : Prop :=
 PURE Tryz.prog (Instr.build 158 #[(0, b_1)]) fun v2 =>
 RUN Tryz.prog (Instr.box 158 v2) w fun v3 w =>
 CALL Tryz.prog 82 [b_1] w E fun v4 w =>
 PURE Tryz.prog (BINS .eql 3 (.tmp 10) (.const (.int .i64 0)) v4 (.int .i64 0)) fun v5 =>
 COND v5 (
 R v3 w) (
 PURE Tryz.prog (NILS b_1) fun v6 =>
 PURE Tryz.prog (Instr.fieldAt 154 v6 0) fun v7 =>
 RUN Tryz.prog (Instr.loadAt 90 v7) w fun v8 w =>
 CALL Tryz.prog 43 [v8] w E fun v9 w =>
 LOOP1 (fun v10 w next1 =>
 PURE Tryz.prog (BINS .lss 3 (.tmp 18) (.tmp 17) v10 v9) fun v11 =>
 COND v11 (
 DRAW w fun S w =>
 PURE Tryz.prog (NILS v3) fun v12 =>
 PURE Tryz.prog (Instr.fieldAt 158 v12 1) fun v13 =>
 READ Tryz.prog S (Instr.loadAt 156 v13) w fun v14 =>
 CALL Tryz.prog 82 [b_1] w E fun v15 w =>
 KEEPS S w fun S =>
 CALL Tryz.prog 82 [b_1] w E fun v16 w =>
 KEEPS S w fun S =>
 PURE Tryz.prog (Instr.build 159 #[(0, v15), (1, v16)]) fun v17 =>
 RUN Tryz.prog (Instr.buildSlice 156 1 #[(0, v17)]) w fun v18 w =>
 KEEPS S w fun S =>
 RUN Tryz.prog (Builtin.append_ #[156, 156] 156 #[v14, v18]) w fun v19 w =>
 PURE Tryz.prog (NILS v3) fun v20 =>
 PURE Tryz.prog (Instr.fieldAt 158 v20 1) fun v21 =>
 RUNU Tryz.prog (Instr.storeAt 156 v21 v19) w fun w =>
 PURE Tryz.prog (BINS .add 3 (.tmp 18) (.const (.int .i64 1)) v10 (.int .i64 1)) fun v22 =>
 next1 v22 w) (
 LOOP1 (fun w_23 w next2 =>
 PURE Tryz.prog (NILS b_1) fun v24 =>
 PURE Tryz.prog (Instr.fieldAt 154 v24 0) fun v25 =>
 RUN Tryz.prog (Instr.loadAt 90 v25) w fun v26 w =>
 CALL Tryz.prog 43 [v26] w E fun v27 w =>
 PURE Tryz.prog (BINS .lss 3 (.tmp 35) (.tmp 40) w_23 v27) fun v28 =>
 COND v28 (
 CALL Tryz.prog 83 [v3, w_23] w E fun v29 w =>
 PURE Tryz.prog (BINS .add 3 (.tmp 42) (.const (.int .i64 1)) w_23 (.int .i64 1)) fun v30 =>
 next2 v30 w) (
 LOOP1 (fun v_31 w next3 =>
 PURE Tryz.prog (NILS b_1) fun v32 =>
 PURE Tryz.prog (Instr.fieldAt 154 v32 0) fun v33 =>
 RUN Tryz.prog (Instr.loadAt 90 v33) w fun v34 w =>
 CALL Tryz.prog 43 [v34] w E fun v35 w =>
 PURE Tryz.prog (BINS .lss 3 (.tmp 47) (.tmp 52) v_31 v35) fun v36 =>
 COND v36 (
 DRAW w fun S w =>
 PURE Tryz.prog (NILS v3) fun v37 =>
 PURE Tryz.prog (Instr.fieldAt 158 v37 1) fun v38 =>
 READ Tryz.prog S (Instr.loadAt 156 v38) w fun v39 =>
 PURE Tryz.prog (NILS v3) fun v40 =>
 PURE Tryz.prog (Instr.fieldAt 158 v40 1) fun v41 =>
 READ Tryz.prog S (Instr.loadAt 156 v41) w fun v42 =>
 PURE Tryz.prog (Instr.indexAt 156 v42 v_31) fun v43 =>
 PURE Tryz.prog (Instr.indexAt 159 v43 (.int .i64 1)) fun v44 =>
 READ Tryz.prog S (Instr.loadAt 3 v44) w fun v45 =>
 PURE Tryz.prog (NILS v3) fun v46 =>
 PURE Tryz.prog (Instr.fieldAt 158 v46 1) fun v47 =>
 READ Tryz.prog S (Instr.loadAt 156 v47) w fun v48 =>
 PURE Tryz.prog (NILS b_1) fun v49 =>
 PURE Tryz.prog (Instr.fieldAt 154 v49 0) fun v50 =>
 READ Tryz.prog S (Instr.loadAt 90 v50) w fun v51 =>
 PURE Tryz.prog (Instr.indexAt 156 v39 v_31) fun v52 =>
 CALL Tryz.prog 45 [v51, v_31] w E fun v53 w =>
 KEEPS S w fun S =>
 PURE Tryz.prog (Instr.indexAt 156 v48 v53) fun v54 =>
 PURE Tryz.prog (Instr.indexAt 159 v54 (.int .i64 1)) fun v55 =>
 READ Tryz.prog S (Instr.loadAt 3 v55) w fun v56 =>
 PURE Tryz.prog (Builtin.min_ #[3, 3] 3 #[v45, v56]) fun v57 =>
 PURE Tryz.prog (Instr.indexAt 159 v52 (.int .i64 1)) fun v58 =>
 RUNU Tryz.prog (Instr.storeAt 3 v58 v57) w fun w =>
 PURE Tryz.prog (BINS .add 3 (.tmp 54) (.const (.int .i64 1)) v_31 (.int .i64 1)) fun v59 =>
 next3 v59 w) (
 R v3 w)) (.int .i64 1) w)) (.int .i64 1) w)) (.int .i64 0) w)
theorem by_shifts_Build {b_1 : Value} {R : Value → World → Prop} {w : World} (h : sh_shifts_Build b_1 NOPE R w) : RET Tryz.prog 53 [b_1] w R :=
  ⟨by kernel_rfl, calls_by [(5, [18]), (9, [4]), (13, [5])] Tryz.func53 (by kernel_rfl) (by kernel_rfl) (by kernel_rfl) h⟩

def sh_cwalter_Walter_walk (w_1 line_2 : Value) (E : List PanicEntry → World → Prop) (R : Value → World → Prop) (w : World) : Prop :=
 JOIN0 (fun J1 =>
 PURE Tryz.prog (BINS .eql 79 (.tmp 11) (.const (.pointer Option.none)) w_1 (.pointer Option.none)) fun v3 =>
 COND v3 (
 COND (.bool true) (
 R (.tuple #[(.slice Option.none 0 0), (.slice Option.none 0 0)]) w) (
 J1 w)) (
 PURE Tryz.prog (NILS w_1) fun v4 =>
 PURE Tryz.prog (Instr.fieldAt 120 v4 0) fun v5 =>
 RUN Tryz.prog (Instr.loadAt 115 v5) w fun v6 w =>
 CALL Tryz.prog 82 [v6] w E fun v7 w =>
 PURE Tryz.prog (BINS .eql 3 (.tmp 18) (.const (.int .i64 0)) v7 (.int .i64 0)) fun v8 =>
 COND v8 (
 R (.tuple #[(.slice Option.none 0 0), (.slice Option.none 0 0)]) w) (
 J1 w))) (fun w =>
 PURE Tryz.prog (NILS w_1) fun v9 =>
 PURE Tryz.prog (Instr.fieldAt 120 v9 0) fun v10 =>
 RUN Tryz.prog (Instr.loadAt 115 v10) w fun v11 w =>
 CALL Tryz.prog 82 [v11] w E fun v12 w =>
 LOOP3 (fun out_13 ends_14 end_15 w next2 =>
 PURE Tryz.prog (Builtin.len_ #[23] 3 #[line_2]) fun v16 =>
 PURE Tryz.prog (BINS .leq 3 (.tmp 26) (.tmp 28) end_15 v16) fun v17 =>
 COND v17 (
 CALL Tryz.prog 84 [w_1, line_2, end_15] w E fun v18 w =>
 PURE Tryz.prog (Instr.extract v18 0) fun v19 =>
 PURE Tryz.prog (Instr.extract v18 1) fun v20 =>
 RUN Tryz.prog (Builtin.append_ #[37, 37] 37 #[out_13, v19]) w fun v21 w =>
 RUN Tryz.prog (Instr.buildSlice 105 1 #[(0, end_15)]) w fun v22 w =>
 RUN Tryz.prog (Builtin.append_ #[105, 105] 105 #[ends_14, v22]) w fun v23 w =>
 PURE Tryz.prog (BINS .add 3 (.tmp 44) (.tmp 45) end_15 v20) fun v24 =>
 next2 v21 v23 v24 w) (
 R (.tuple #[out_13, ends_14]) w)) (.slice Option.none 0 0) (.slice Option.none 0 0) v12 w)
theorem by_cwalter_Walter_walk {w_1 line_2 : Value} {R : Value → World → Prop} {w : World} (h : sh_cwalter_Walter_walk w_1 line_2 NOPE R w) : RET Tryz.prog 54 [w_1, line_2] w R :=
  ⟨by kernel_rfl, calls_by [(1000, [6, 7, 8]), (13005, [])] Tryz.func54 (by kernel_rfl) (by kernel_rfl) (by kernel_rfl) h⟩

def sh_pairs_Sort (l_1 : Value) (E : List PanicEntry → World → Prop) (R : Value → World → Prop) (w : World) : Prop :=
 PURE Tryz.prog (Builtin.len_ #[37] 3 #[l_1]) fun v2 =>
 PURE Tryz.prog (BINS .lss 3 (.tmp 5) (.const (.int .i64 2)) v2 (.int .i64 2)) fun v3 =>
 COND v3 (
 CALL Tryz.prog 85 [l_1] w E fun v4 w =>
 R v4 w) (
 PURE Tryz.prog (Builtin.len_ #[37] 3 #[l_1]) fun v5 =>
 PURE Tryz.prog (BINS .quo 3 (.tmp 10) (.const (.int .i64 2)) v5 (.int .i64 2)) fun v6 =>
 DRAWQ w fun S w =>
 PURE Tryz.prog (Instr.sliceAt 37 l_1 none (some v6) none) fun v7 =>
 PURE Tryz.prog (Instr.sliceAt 37 l_1 (some v6) none none) fun v8 =>
 CALL Tryz.prog 55 [v7] w E fun v9 w =>
 CALL Tryz.prog 55 [v8] w E fun v10 w =>
 CALL Tryz.prog 56 [v9, v10, (.func (.func 57) #[] #[])] w E fun v11 w =>
 R v11 w)
theorem by_pairs_Sort {l_1 : Value} {R : Value → World → Prop} {w : World} (h : sh_pairs_Sort l_1 NOPE R w) : RET Tryz.prog 55 [l_1] w R :=
  ⟨by kernel_rfl, calls_by [] Tryz.func55 (by kernel_rfl) (by kernel_rfl) (by kernel_rfl) h⟩

def sh_pairs_joined_api_Pair (a_1 b_2 less_3 : Value) (E : List PanicEntry → World → Prop) (R : Value → World → Prop) (w : World) : Prop :=
 LOOP3 (fun a_4 b_5 out_6 w next1 =>
 JOIN0 (fun J2 =>
 PURE Tryz.prog (Builtin.len_ #[37] 3 #[a_4]) fun v7 =>
 PURE Tryz.prog (BINS .gtr 3 (.tmp 10) (.const (.int .i64 0)) v7 (.int .i64 0)) fun v8 =>
 COND v8 (
 COND (.bool true) (
 J2 w) (
 R out_6 w)) (
 PURE Tryz.prog (Builtin.len_ #[37] 3 #[b_5]) fun v9 =>
 PURE Tryz.prog (BINS .gtr 3 (.tmp 14) (.const (.int .i64 0)) v9 (.int .i64 0)) fun v10 =>
 COND v10 (
 J2 w) (
 R out_6 w))) (fun w =>
 RUN Tryz.prog (Instr.alloc 57 true (.tuple #[])) w fun x_11 w =>
 JOIN2 (fun J3 =>
 JOIN1 (fun J4 =>
 DRAWQ w fun S w =>
 PURE Tryz.prog (Builtin.len_ #[37] 3 #[b_5]) fun v12 =>
 PURE Tryz.prog (BINS .eql 3 (.tmp 18) (.const (.int .i64 0)) v12 (.int .i64 0)) fun v13 =>
 COND v13 (
 J4 (.bool true) w) (
 PURE Tryz.prog (Builtin.len_ #[37] 3 #[a_4]) fun v14 =>
 PURE Tryz.prog (BINS .gtr 3 (.tmp 22) (.const (.int .i64 0)) v14 (.int .i64 0)) fun v15 =>
 COND v15 (
 PURE Tryz.prog (Instr.indexAt 37 b_5 (.int .i64 0)) fun v16 =>
 READ Tryz.prog S (Instr.loadAt 57 v16) w fun v17 =>
 PURE Tryz.prog (Instr.indexAt 37 a_4 (.int .i64 0)) fun v18 =>
 READ Tryz.prog S (Instr.loadAt 57 v18) w fun v19 =>
 CALLV Tryz.prog less_3 [v17, v19] w E fun v20 w =>
 PURE Tryz.prog (Op.unary .not v20) fun v21 =>
 J4 v21 w) (
 J4 (.bool false) w))) (fun v22 w =>
 COND v22 (
 DRAWQ w fun S w =>
 PURE Tryz.prog (Instr.indexAt 37 a_4 (.int .i64 0)) fun v23 =>
 READ Tryz.prog S (Instr.loadAt 57 v23) w fun v24 =>
 PURE Tryz.prog (Instr.sliceAt 37 a_4 (some (.int .i64 1)) none none) fun v25 =>
 RUNU Tryz.prog (Instr.storeAt 57 x_11 v24) w fun w =>
 J3 v25 b_5 w) (
 DRAWQ w fun S w =>
 PURE Tryz.prog (Instr.indexAt 37 b_5 (.int .i64 0)) fun v26 =>
 READ Tryz.prog S (Instr.loadAt 57 v26) w fun v27 =>
 PURE Tryz.prog (Instr.sliceAt 37 b_5 (some (.int .i64 1)) none none) fun v28 =>
 RUNU Tryz.prog (Instr.storeAt 57 x_11 v27) w fun w =>
 J3 a_4 v28 w))) (fun a_29 b_30 w =>
 DRAWQ w fun S w =>
 PURE Tryz.prog (Builtin.len_ #[37] 3 #[out_6]) fun v31 =>
 PURE Tryz.prog (BINS .eql 3 (.tmp 47) (.const (.int .i64 0)) v31 (.int .i64 0)) fun v32 =>
 COND v32 (
 COND (.bool true) (
 RUN Tryz.prog (Instr.loadAt 57 x_11) w fun v33 w =>
 RUN Tryz.prog (Instr.buildSlice 37 1 #[(0, v33)]) w fun v34 w =>
 RUN Tryz.prog (Builtin.append_ #[37, 37] 37 #[out_6, v34]) w fun v35 w =>
 next1 a_29 b_30 v35 w) (
 next1 a_29 b_30 out_6 w)) (
 PURE Tryz.prog (Builtin.len_ #[37] 3 #[out_6]) fun v36 =>
 PURE Tryz.prog (BINS .sub 3 (.tmp 52) (.const (.int .i64 1)) v36 (.int .i64 1)) fun v37 =>
 PURE Tryz.prog (Instr.indexAt 37 out_6 v37) fun v38 =>
 READ Tryz.prog S (Instr.loadAt 57 v38) w fun v39 =>
 READ Tryz.prog S (Instr.loadAt 57 x_11) w fun v40 =>
 PURE Tryz.prog (BINS .neq 57 (.tmp 55) (.tmp 56) v39 v40) fun v41 =>
 COND v41 (
 RUN Tryz.prog (Instr.loadAt 57 x_11) w fun v42 w =>
 RUN Tryz.prog (Instr.buildSlice 37 1 #[(0, v42)]) w fun v43 w =>
 RUN Tryz.prog (Builtin.append_ #[37, 37] 37 #[out_6, v43]) w fun v44 w =>
 next1 a_29 b_30 v44 w) (
 next1 a_29 b_30 out_6 w))))) a_1 b_2 (.slice Option.none 0 0) w
theorem by_pairs_joined_api_Pair {a_1 b_2 less_3 : Value} {R : Value → World → Prop} {w : World} (h : sh_pairs_joined_api_Pair a_1 b_2 less_3 NOPE R w) : RET Tryz.prog 56 [a_1, b_2, less_3] w R :=
  ⟨by kernel_rfl, calls_by [(2, [0, 1, 7]), (12003, []), (14005, [35]), (14007, [0, 1])] Tryz.func56 (by kernel_rfl) (by kernel_rfl) (by kernel_rfl) h⟩

def sh_pairs_Less (a_1 b_2 : Value) (E : List PanicEntry → World → Prop) (R : Value → World → Prop) (w : World) : Prop :=
 RUN Tryz.prog (Instr.box 57 a_1) w fun a_3 w =>
 RUN Tryz.prog (Instr.box 57 b_2) w fun b_4 w =>
 PURE Tryz.prog (Instr.fieldAt 57 a_3 0) fun v5 =>
 RUN Tryz.prog (Instr.loadAt 3 v5) w fun v6 w =>
 PURE Tryz.prog (Instr.fieldAt 57 b_4 0) fun v7 =>
 RUN Tryz.prog (Instr.loadAt 3 v7) w fun v8 w =>
 PURE Tryz.prog (BINS .neq 3 (.tmp 6) (.tmp 8) v6 v8) fun v9 =>
 COND v9 (
 PURE Tryz.prog (Instr.fieldAt 57 a_3 0) fun v10 =>
 RUN Tryz.prog (Instr.loadAt 3 v10) w fun v11 w =>
 PURE Tryz.prog (Instr.fieldAt 57 b_4 0) fun v12 =>
 RUN Tryz.prog (Instr.loadAt 3 v12) w fun v13 w =>
 PURE Tryz.prog (BINS .lss 3 (.tmp 11) (.tmp 13) v11 v13) fun v14 =>
 R v14 w) (
 PURE Tryz.prog (Instr.fieldAt 57 a_3 1) fun v15 =>
 RUN Tryz.prog (Instr.loadAt 3 v15) w fun v16 w =>
 PURE Tryz.prog (Instr.fieldAt 57 b_4 1) fun v17 =>
 RUN Tryz.prog (Instr.loadAt 3 v17) w fun v18 w =>
 PURE Tryz.prog (BINS .lss 3 (.tmp 16) (.tmp 18) v16 v18) fun v19 =>
 R v19 w)
theorem by_pairs_Less {a_1 b_2 : Value} {R : Value → World → Prop} {w : World} (h : sh_pairs_Less a_1 b_2 NOPE R w) : RET Tryz.prog 57 [a_1, b_2] w R :=
  ⟨by kernel_rfl, calls_by [] Tryz.func57 (by kernel_rfl) (by kernel_rfl) (by kernel_rfl) h⟩

def sh_seineref06_Place (l_1 s_2 : Value) (E : List PanicEntry → World → Prop) (R : Value → World → Prop) (w : World) : Prop :=
 LOOP1 (fun i_3 w next1 =>
 PURE Tryz.prog (Builtin.len_ #[25] 3 #[l_1]) fun v4 =>
 PURE Tryz.prog (BINS .lss 3 (.tmp 6) (.tmp 8) i_3 v4) fun v5 =>
 COND v5 (
 PURE Tryz.prog (Instr.indexAt 25 l_1 i_3) fun v6 =>
 RUN Tryz.prog (Instr.loadAt 9 v6) w fun v7 w =>
 PURE Tryz.prog (BINS .eql 9 (.tmp 15) (.tmp 16) v7 s_2) fun v8 =>
 COND v8 (
 R i_3 w) (
 PURE Tryz.prog (BINS .add 3 (.tmp 10) (.const (.int .i64 1)) i_3 (.int .i64 1)) fun v9 =>
 next1 v9 w)) (
 R (.int .i64 (-1)) w)) (.int .i64 0) w
theorem by_seineref06_Place {l_1 s_2 : Value} {R : Value → World → Prop} {w : World} (h : sh_seineref06_Place l_1 s_2 NOPE R w) : RET Tryz.prog 58 [l_1, s_2] w R :=
  ⟨by kernel_rfl, calls_by [(2, [5])] Tryz.func58 (by kernel_rfl) (by kernel_rfl) (by kernel_rfl) h⟩

def sh_seineref08_Step (paths_1 s_2 c_3 : Value) (E : List PanicEntry → World → Prop) (R : Value → World → Prop) (w : World) : Prop :=
 LOOP2 (fun s_4 n_5 w next1 =>
 RUN Tryz.prog (Instr.buildSlice 23 1 #[(0, c_3)]) w fun v6 w =>
 RUN Tryz.prog (convert 23 9 v6) w fun v7 w =>
 PURE Tryz.prog (BINS .add 9 (.tmp 11) (.tmp 14) s_4 v7) fun v8 =>
 CALL Tryz.prog 58 [paths_1, v8] w E fun v9 w =>
 PURE Tryz.prog (BINS .geq 3 (.tmp 18) (.const (.int .i64 0)) v9 (.int .i64 0)) fun v10 =>
 COND v10 (
 R (.tuple #[v8, n_5]) w) (
 PURE Tryz.prog (BINS .eql 9 (.tmp 22) (.const (.string { data := #[] })) s_4 (.string { data := #[] })) fun v11 =>
 COND v11 (
 R (.tuple #[(.string { data := #[] }), n_5]) w) (
 LOOP1 (fun k_12 w next2 =>
 PURE Tryz.prog (Instr.sliceAt 9 s_4 (some k_12) none none) fun v13 =>
 CALL Tryz.prog 58 [paths_1, v13] w E fun v14 w =>
 PURE Tryz.prog (BINS .lss 3 (.tmp 29) (.const (.int .i64 0)) v14 (.int .i64 0)) fun v15 =>
 COND v15 (
 PURE Tryz.prog (BINS .add 3 (.tmp 31) (.const (.int .i64 1)) k_12 (.int .i64 1)) fun v16 =>
 next2 v16 w) (
 PURE Tryz.prog (Instr.sliceAt 9 s_4 (some k_12) none none) fun v17 =>
 PURE Tryz.prog (BINS .add 3 (.tmp 36) (.const (.int .i64 1)) n_5 (.int .i64 1)) fun v18 =>
 next1 v17 v18 w)) (.int .i64 1) w))) s_2 (.int .i64 1) w
theorem by_seineref08_Step {paths_1 s_2 c_3 : Value} {R : Value → World → Prop} {w : World} (h : sh_seineref08_Step paths_1 s_2 c_3 NOPE R w) : RET Tryz.prog 59 [paths_1, s_2, c_3] w R :=
  ⟨by kernel_rfl, calls_by [(2, [1, 8]), (8, [10])] Tryz.func59 (by kernel_rfl) (by kernel_rfl) (by kernel_rfl) h⟩

def sh_seineref03_Less (a_1 b_2 : Value) (E : List PanicEntry → World → Prop) (R : Value → World → Prop) (w : World) : Prop :=
 RUN Tryz.prog (Instr.box 57 a_1) w fun a_3 w =>
 RUN Tryz.prog (Instr.box 57 b_2) w fun b_4 w =>
 PURE Tryz.prog (Instr.fieldAt 57 a_3 0) fun v5 =>
 RUN Tryz.prog (Instr.loadAt 3 v5) w fun v6 w =>
 PURE Tryz.prog (Instr.fieldAt 57 b_4 0) fun v7 =>
 RUN Tryz.prog (Instr.loadAt 3 v7) w fun v8 w =>
 PURE Tryz.prog (BINS .lss 3 (.tmp 6) (.tmp 8) v6 v8) fun v9 =>
 COND v9 (
 R (.bool true) w) (
 PURE Tryz.prog (Instr.fieldAt 57 a_3 0) fun v10 =>
 RUN Tryz.prog (Instr.loadAt 3 v10) w fun v11 w =>
 PURE Tryz.prog (Instr.fieldAt 57 b_4 0) fun v12 =>
 RUN Tryz.prog (Instr.loadAt 3 v12) w fun v13 w =>
 PURE Tryz.prog (BINS .eql 3 (.tmp 12) (.tmp 14) v11 v13) fun v14 =>
 COND v14 (
 PURE Tryz.prog (Instr.fieldAt 57 a_3 1) fun v15 =>
 RUN Tryz.prog (Instr.loadAt 3 v15) w fun v16 w =>
 PURE Tryz.prog (Instr.fieldAt 57 b_4 1) fun v17 =>
 RUN Tryz.prog (Instr.loadAt 3 v17) w fun v18 w =>
 PURE Tryz.prog (BINS .lss 3 (.tmp 18) (.tmp 20) v16 v18) fun v19 =>
 R v19 w) (
 R (.bool false) w))
theorem by_seineref03_Less {a_1 b_2 : Value} {R : Value → World → Prop} {w : World} (h : sh_seineref03_Less a_1 b_2 NOPE R w) : RET Tryz.prog 60 [a_1, b_2] w R :=
  ⟨by kernel_rfl, calls_by [] Tryz.func60 (by kernel_rfl) (by kernel_rfl) (by kernel_rfl) h⟩

def sh_trie_Trie_grow (t_1 at_2 c_3 : Value) (E : List PanicEntry → World → Prop) (R : Value → World → Prop) (w : World) : Prop :=
 PURE Tryz.prog (Instr.build 164 #[(0, at_2), (1, c_3)]) fun v4 =>
 RUN Tryz.prog (Instr.alloc 164 true (.tuple #[])) w fun e_5 w =>
 RUNU Tryz.prog (Instr.storeAt 164 e_5 v4) w fun w =>
 DRAWQ w fun S w =>
 PURE Tryz.prog (NILS t_1) fun v6 =>
 PURE Tryz.prog (Instr.fieldAt 133 v6 1) fun v7 =>
 READ Tryz.prog S (Instr.loadAt 131 v7) w fun v8 =>
 READ Tryz.prog S (Instr.loadAt 164 e_5) w fun v9 =>
 READ Tryz.prog S (Instr.lookup 131 v8 v9 Bool.true) w fun v10 =>
 PURE Tryz.prog (Instr.extract v10 0) fun v11 =>
 PURE Tryz.prog (Instr.extract v10 1) fun v12 =>
 COND v12 (
 R v11 w) (
 PURE Tryz.prog (NILS t_1) fun v13 =>
 PURE Tryz.prog (Instr.fieldAt 133 v13 0) fun v14 =>
 RUN Tryz.prog (Instr.loadAt 130 v14) w fun v15 w =>
 PURE Tryz.prog (Builtin.len_ #[130] 3 #[v15]) fun v16 =>
 DRAWQ w fun S w =>
 PURE Tryz.prog (NILS t_1) fun v17 =>
 PURE Tryz.prog (Instr.fieldAt 133 v17 1) fun v18 =>
 READ Tryz.prog S (Instr.loadAt 131 v18) w fun v19 =>
 READ Tryz.prog S (Instr.loadAt 164 e_5) w fun v20 =>
 RUNU Tryz.prog (Instr.mapUpdate 131 v19 v20 v16) w fun w =>
 DRAW w fun S w =>
 PURE Tryz.prog (NILS t_1) fun v21 =>
 PURE Tryz.prog (Instr.fieldAt 133 v21 0) fun v22 =>
 READ Tryz.prog S (Instr.loadAt 130 v22) w fun v23 =>
 PURE Tryz.prog (NILS t_1) fun v24 =>
 PURE Tryz.prog (Instr.fieldAt 133 v24 0) fun v25 =>
 READ Tryz.prog S (Instr.loadAt 130 v25) w fun v26 =>
 PURE Tryz.prog (Instr.indexAt 130 v26 at_2) fun v27 =>
 PURE Tryz.prog (Instr.fieldAt 129 v27 1) fun v28 =>
 READ Tryz.prog S (Instr.loadAt 3 v28) w fun v29 =>
 PURE Tryz.prog (BINS .add 3 (.tmp 49) (.const (.int .i64 1)) v29 (.int .i64 1)) fun v30 =>
 PURE Tryz.prog (Instr.build 129 #[(0, at_2), (1, v30), (2, (.int .i64 (-1))), (3, c_3)]) fun v31 =>
 RUN Tryz.prog (Instr.buildSlice 130 1 #[(0, v31)]) w fun v32 w =>
 KEEPS S w fun S =>
 RUN Tryz.prog (Builtin.append_ #[130, 130] 130 #[v23, v32]) w fun v33 w =>
 PURE Tryz.prog (NILS t_1) fun v34 =>
 PURE Tryz.prog (Instr.fieldAt 133 v34 0) fun v35 =>
 RUNU Tryz.prog (Instr.storeAt 130 v35 v33) w fun w =>
 R v16 w)
theorem by_trie_Trie_grow {t_1 at_2 c_3 : Value} {R : Value → World → Prop} {w : World} (h : sh_trie_Trie_grow t_1 at_2 c_3 NOPE R w) : RET Tryz.prog 61 [t_1, at_2, c_3] w R :=
  ⟨by kernel_rfl, calls_by [] Tryz.func61 (by kernel_rfl) (by kernel_rfl) (by kernel_rfl) h⟩

def sh_slices_Repeat_int_int (x_1 count_2 : Value) (E : List PanicEntry → World → Prop) (R : Value → World → Prop) (w : World) : Prop :=
 JOIN0 (fun J1 =>
 PURE Tryz.prog (BINS .lss 3 (.tmp 9) (.const (.int .i64 0)) count_2 (.int .i64 0)) fun v3 =>
 COND v3 (
 PURE Tryz.prog (Instr.makeInterface 9 (.string { data := #[99, 97, 110, 110, 111, 116, 32, 98, 101, 32, 110, 101, 103, 97, 116, 105, 118, 101] })) fun v4 =>
 PANIC v4 w E) (
 J1 w)) (fun w =>
 PURE Tryz.prog (Builtin.len_ #[105] 3 #[x_1]) fun v5 =>
 PURE Tryz.prog (convert 3 165 v5) fun v6 =>
 PURE Tryz.prog (convert 3 165 count_2) fun v7 =>
 CALL Tryz.prog 86 [v6, v7] w E fun v8 w =>
 PURE Tryz.prog (Instr.extract v8 0) fun v9 =>
 PURE Tryz.prog (Instr.extract v8 1) fun v10 =>
 JOIN0 (fun J2 =>
 PURE Tryz.prog (BINS .gtr 165 (.tmp 21) (.const (.int .u64 0)) v9 (.int .u64 0)) fun v11 =>
 COND v11 (
 COND (.bool true) (
 PURE Tryz.prog (Instr.makeInterface 9 (.string { data := #[116, 104, 101, 32, 114, 101, 115, 117, 108, 116, 32, 111, 102, 32, 40, 108, 101, 110, 40, 120, 41, 32, 42, 32, 99, 111, 117, 110, 116, 41, 32, 111, 118, 101, 114, 102, 108, 111, 119, 115] })) fun v12 =>
 PANIC v12 w E) (
 J2 w)) (
 PURE Tryz.prog (BINS .gtr 165 (.tmp 24) (.const (.int .u64 9223372036854775807)) v10 (.int .u64 9223372036854775807)) fun v13 =>
 COND v13 (
 PURE Tryz.prog (Instr.makeInterface 9 (.string { data := #[116, 104, 101, 32, 114, 101, 115, 117, 108, 116, 32, 111, 102, 32, 40, 108, 101, 110, 40, 120, 41, 32, 42, 32, 99, 111, 117, 110, 116, 41, 32, 111, 118, 101, 114, 102, 108, 111, 119, 115] })) fun v14 =>
 PANIC v14 w E) (
 J2 w))) (fun w =>
 PURE Tryz.prog (convert 165 3 v10) fun v15 =>
 RUN Tryz.prog (Instr.makeSlice 105 v15 v15) w fun v16 w =>
 RUN Tryz.prog (Builtin.copy_ #[105, 105] 3 #[v16, x_1]) w fun v17 w =>
 LOOP1 (fun n_18 w next3 =>
 PURE Tryz.prog (Builtin.len_ #[105] 3 #[v16]) fun v19 =>
 PURE Tryz.prog (BINS .lss 3 (.tmp 34) (.tmp 36) n_18 v19) fun v20 =>
 COND v20 (
 DRAWQ w fun S w =>
 PURE Tryz.prog (Instr.sliceAt 105 v16 (some n_18) none none) fun v21 =>
 PURE Tryz.prog (Instr.sliceAt 105 v16 none (some n_18) none) fun v22 =>
 RUN Tryz.prog (Builtin.copy_ #[105, 105] 3 #[v21, v22]) w fun v23 w =>
 PURE Tryz.prog (BINS .add 3 (.tmp 38) (.tmp 45) n_18 v23) fun v24 =>
 next3 v24 w) (
 R v16 w)) v17 w))
theorem by_slices_Repeat_int_int {x_1 count_2 : Value} {R : Value → World → Prop} {w : World} (h : sh_slices_Repeat_int_int x_1 count_2 NOPE R w) : RET Tryz.prog 62 [x_1, count_2] w R :=
  ⟨by kernel_rfl, calls_by [(8, [8]), (11003, []), (14006, [])] Tryz.func62 (by kernel_rfl) (by kernel_rfl) (by kernel_rfl) h⟩

def sh_trie_Trie_Kids (t_1 node_2 : Value) (E : List PanicEntry → World → Prop) (R : Value → World → Prop) (w : World) : Prop :=
 LOOP2 (fun out_3 v4 w next1 =>
 PURE Tryz.prog (BINS .lss 3 (.tmp 7) (.const (.int .i64 256)) v4 (.int .i64 256)) fun v5 =>
 COND v5 (
 PURE Tryz.prog (convert 3 5 v4) fun v6 =>
 CALL Tryz.prog 64 [t_1, node_2, v6] w E fun v7 w =>
 PURE Tryz.prog (BINS .geq 3 (.tmp 14) (.const (.int .i64 0)) v7 (.int .i64 0)) fun v8 =>
 COND v8 (
 PURE Tryz.prog (convert 3 5 v4) fun v9 =>
 RUN Tryz.prog (Instr.buildSlice 23 1 #[(0, v9)]) w fun v10 w =>
 RUN Tryz.prog (Builtin.append_ #[23, 23] 23 #[out_3, v10]) w fun v11 w =>
 PURE Tryz.prog (BINS .add 3 (.tmp 7) (.const (.int .i64 1)) v4 (.int .i64 1)) fun v12 =>
 next1 v11 v12 w) (
 PURE Tryz.prog (BINS .add 3 (.tmp 7) (.const (.int .i64 1)) v4 (.int .i64 1)) fun v13 =>
 next1 out_3 v13 w)) (
 R out_3 w)) (.slice Option.none 0 0) (.int .i64 0) w
theorem by_trie_Trie_Kids {t_1 node_2 : Value} {R : Value → World → Prop} {w : World} (h : sh_trie_Trie_Kids t_1 node_2 NOPE R w) : RET Tryz.prog 63 [t_1, node_2] w R :=
  ⟨by kernel_rfl, calls_by [(3, [5, 7])] Tryz.func63 (by kernel_rfl) (by kernel_rfl) (by kernel_rfl) h⟩

def sh_trie_Trie_Step (t_1 node_2 c_3 : Value) (E : List PanicEntry → World → Prop) (R : Value → World → Prop) (w : World) : Prop :=
 CALL Tryz.prog 66 [t_1, node_2] w E fun v4 w =>
 COND v4 (
 PURE Tryz.prog (NILS t_1) fun v5 =>
 PURE Tryz.prog (Instr.fieldAt 133 v5 1) fun v6 =>
 RUN Tryz.prog (Instr.loadAt 131 v6) w fun v7 w =>
 PURE Tryz.prog (Instr.build 164 #[(0, node_2), (1, c_3)]) fun v8 =>
 RUN Tryz.prog (Instr.lookup 131 v7 v8 Bool.true) w fun v9 w =>
 PURE Tryz.prog (Instr.extract v9 0) fun v10 =>
 PURE Tryz.prog (Instr.extract v9 1) fun v11 =>
 COND v11 (
 R v10 w) (
 R (.int .i64 (-1)) w)) (
 R (.int .i64 (-1)) w)
theorem by_trie_Trie_Step {t_1 node_2 c_3 : Value} {R : Value → World → Prop} {w : World} (h : sh_trie_Trie_Step t_1 node_2 c_3 NOPE R w) : RET Tryz.prog 64 [t_1, node_2, c_3] w R :=
  ⟨by kernel_rfl, calls_by [] Tryz.func64 (by kernel_rfl) (by kernel_rfl) (by kernel_rfl) h⟩

def sh_links_Links_link (l_1 t_2 at_3 : Value) (E : List PanicEntry → World → Prop) (R : Value → World → Prop) (w : World) : Prop :=
 RUN Tryz.prog (Instr.box 92 l_1) w fun l_4 w =>
 RUN Tryz.prog (Instr.box 90 t_2) w fun t_5 w =>
 RUN Tryz.prog (Instr.loadAt 90 t_5) w fun v6 w =>
 CALL Tryz.prog 44 [v6, at_3] w E fun v7 w =>
 PURE Tryz.prog (Builtin.len_ #[23] 3 #[v7]) fun v8 =>
 PURE Tryz.prog (BINS .sub 3 (.tmp 15) (.const (.int .i64 1)) v8 (.int .i64 1)) fun v9 =>
 PURE Tryz.prog (Instr.indexAt 23 v7 v9) fun v10 =>
 RUN Tryz.prog (Instr.loadAt 5 v10) w fun v11 w =>
 RUN Tryz.prog (Instr.alloc 5 true (.tuple #[])) w fun c_12 w =>
 RUNU Tryz.prog (Instr.storeAt 5 c_12 v11) w fun w =>
 PURE Tryz.prog (Instr.makeFunc (Go.Fn.func 87) #[] #[l_4, t_5, c_12]) fun v13 =>
 RUN Tryz.prog (Instr.loadAt 90 t_5) w fun v14 w =>
 CALL Tryz.prog 45 [v14, at_3] w E fun v15 w =>
 CALLV Tryz.prog v13 [v15] w E fun v16 w =>
 RUN Tryz.prog (Instr.loadAt 92 l_4) w fun v17 w =>
 PURE Tryz.prog (NILS v17) fun v18 =>
 PURE Tryz.prog (Instr.fieldAt 137 v18 0) fun v19 =>
 RUN Tryz.prog (Instr.loadAt 105 v19) w fun v20 w =>
 PURE Tryz.prog (Instr.indexAt 105 v20 at_3) fun v21 =>
 RUNU Tryz.prog (Instr.storeAt 3 v21 v16) w fun w =>
 RUN Tryz.prog (Instr.loadAt 92 l_4) w fun v22 w =>
 PURE Tryz.prog (NILS v22) fun v23 =>
 PURE Tryz.prog (Instr.fieldAt 137 v23 1) fun v24 =>
 RUN Tryz.prog (Instr.loadAt 105 v24) w fun v25 w =>
 PURE Tryz.prog (Instr.indexAt 105 v25 at_3) fun v26 =>
 RUNU Tryz.prog (Instr.storeAt 3 v26 v16) w fun w =>
 JOIN0 (fun J1 =>
 RUN Tryz.prog (Instr.loadAt 92 l_4) w fun v27 w =>
 PURE Tryz.prog (NILS v27) fun v28 =>
 PURE Tryz.prog (Instr.fieldAt 137 v28 2) fun v29 =>
 RUN Tryz.prog (Instr.loadAt 105 v29) w fun v30 w =>
 PURE Tryz.prog (Instr.indexAt 105 v30 v16) fun v31 =>
 RUN Tryz.prog (Instr.loadAt 3 v31) w fun v32 w =>
 PURE Tryz.prog (BINS .eql 3 (.tmp 45) (.const (.int .i64 0)) v32 (.int .i64 0)) fun v33 =>
 COND v33 (
 DRAWQ w fun S w =>
 READ Tryz.prog S (Instr.loadAt 92 l_4) w fun v34 =>
 PURE Tryz.prog (NILS v34) fun v35 =>
 PURE Tryz.prog (Instr.fieldAt 137 v35 1) fun v36 =>
 READ Tryz.prog S (Instr.loadAt 105 v36) w fun v37 =>
 READ Tryz.prog S (Instr.loadAt 92 l_4) w fun v38 =>
 PURE Tryz.prog (NILS v38) fun v39 =>
 PURE Tryz.prog (Instr.fieldAt 137 v39 1) fun v40 =>
 READ Tryz.prog S (Instr.loadAt 105 v40) w fun v41 =>
 PURE Tryz.prog (Instr.indexAt 105 v41 v16) fun v42 =>
 READ Tryz.prog S (Instr.loadAt 3 v42) w fun v43 =>
 PURE Tryz.prog (Instr.indexAt 105 v37 at_3) fun v44 =>
 RUNU Tryz.prog (Instr.storeAt 3 v44 v43) w fun w =>
 J1 w) (
 J1 w)) (fun w =>
 RUN Tryz.prog (Instr.loadAt 90 t_5) w fun v45 w =>
 CALL Tryz.prog 88 [v45, at_3] w E fun v46 w =>
 PURE Tryz.prog (BINS .geq 3 (.tmp 62) (.const (.int .i64 0)) v46 (.int .i64 0)) fun v47 =>
 COND v47 (
 RUN Tryz.prog (Instr.loadAt 92 l_4) w fun v48 w =>
 PURE Tryz.prog (NILS v48) fun v49 =>
 PURE Tryz.prog (Instr.fieldAt 137 v49 2) fun v50 =>
 RUN Tryz.prog (Instr.loadAt 105 v50) w fun v51 w =>
 PURE Tryz.prog (Builtin.len_ #[23] 3 #[v7]) fun v52 =>
 PURE Tryz.prog (Instr.indexAt 105 v51 at_3) fun v53 =>
 RUNU Tryz.prog (Instr.storeAt 3 v53 v52) w fun w =>
 R (.tuple #[]) w) (
 R (.tuple #[]) w))
theorem by_links_Links_link {l_1 t_2 at_3 : Value} {R : Value → World → Prop} {w : World} (h : sh_links_Links_link l_1 t_2 at_3 NOPE R w) : RET Tryz.prog 65 [l_1, t_2, at_3] w R :=
  ⟨by kernel_rfl, calls_by [(17009, [])] Tryz.func65 (by kernel_rfl) (by kernel_rfl) (by kernel_rfl) h⟩

def sh_trie_Trie_is (t_1 n_2 : Value) (E : List PanicEntry → World → Prop) (R : Value → World → Prop) (w : World) : Prop :=
 PURE Tryz.prog (BINS .geq 3 (.tmp 5) (.const (.int .i64 0)) n_2 (.int .i64 0)) fun v3 =>
 COND v3 (
 CALL Tryz.prog 43 [t_1] w E fun v4 w =>
 PURE Tryz.prog (BINS .lss 3 (.tmp 8) (.tmp 10) n_2 v4) fun v5 =>
 R v5 w) (
 R (.bool false) w)
theorem by_trie_Trie_is {t_1 n_2 : Value} {R : Value → World → Prop} {w : World} (h : sh_trie_Trie_is t_1 n_2 NOPE R w) : RET Tryz.prog 66 [t_1, n_2] w R :=
  ⟨by kernel_rfl, calls_by [] Tryz.func66 (by kernel_rfl) (by kernel_rfl) (by kernel_rfl) h⟩

def sh_slices_Reverse_byte_byte (s_1 : Value) (E : List PanicEntry → World → Prop) (R : Value → World → Prop) (w : World) : Prop :=
 PURE Tryz.prog (Builtin.len_ #[23] 3 #[s_1]) fun v2 =>
 PURE Tryz.prog (BINS .sub 3 (.tmp 5) (.const (.int .i64 1)) v2 (.int .i64 1)) fun v3 =>
 LOOP2 (fun i_4 j_5 w next1 =>
 PURE Tryz.prog (BINS .lss 3 (.tmp 7) (.tmp 8) i_4 j_5) fun v6 =>
 COND v6 (
 DRAWQ w fun S w =>
 PURE Tryz.prog (Instr.indexAt 23 s_1 j_5) fun v7 =>
 READ Tryz.prog S (Instr.loadAt 5 v7) w fun v8 =>
 PURE Tryz.prog (Instr.indexAt 23 s_1 i_4) fun v9 =>
 READ Tryz.prog S (Instr.loadAt 5 v9) w fun v10 =>
 PURE Tryz.prog (Instr.indexAt 23 s_1 i_4) fun v11 =>
 RUNU Tryz.prog (Instr.storeAt 5 v11 v8) w fun w =>
 PURE Tryz.prog (Instr.indexAt 23 s_1 j_5) fun v12 =>
 RUNU Tryz.prog (Instr.storeAt 5 v12 v10) w fun w =>
 PURE Tryz.prog (BINS .add 3 (.tmp 10) (.const (.int .i64 1)) i_4 (.int .i64 1)) fun v13 =>
 PURE Tryz.prog (BINS .sub 3 (.tmp 12) (.const (.int .i64 1)) j_5 (.int .i64 1)) fun v14 =>
 next1 v13 v14 w) (
 R (.tuple #[]) w)) (.int .i64 0) v3 w
theorem by_slices_Reverse_byte_byte {s_1 : Value} {R : Value → World → Prop} {w : World} (h : sh_slices_Reverse_byte_byte s_1 NOPE R w) : RET Tryz.prog 67 [s_1] w R :=
  ⟨by kernel_rfl, calls_by [(1, [2, 3])] Tryz.func67 (by kernel_rfl) (by kernel_rfl) (by kernel_rfl) h⟩

def sh_fold_Set_Union (s_1 o_2 : Value) (E : List PanicEntry → World → Prop) (R : Value → World → Prop) (w : World) : Prop :=
 RUN Tryz.prog (Instr.box 142 s_1) w fun s_3 w =>
 RUN Tryz.prog (Instr.box 142 o_2) w fun o_4 w =>
 RUN Tryz.prog (Instr.alloc 142 true (.tuple #[])) w fun v5 w =>
 RUN Tryz.prog (Instr.loadAt 142 o_4) w fun v6 w =>
 LOOP1 (fun v7 w next1 =>
 PURE Tryz.prog (BINS .lss 3 (.tmp 8) (.const (.int .i64 4)) v7 (.int .i64 4)) fun v8 =>
 COND v8 (
 PURE Tryz.prog (Instr.index 142 v6 v7) fun v9 =>
 PURE Tryz.prog (Instr.indexAt 142 s_3 v7) fun v10 =>
 RUN Tryz.prog (Instr.loadAt 140 v10) w fun v11 w =>
 PURE Tryz.prog (BINS .or 140 (.tmp 14) (.tmp 15) v11 v9) fun v12 =>
 PURE Tryz.prog (Instr.indexAt 142 s_3 v7) fun v13 =>
 RUNU Tryz.prog (Instr.storeAt 140 v13 v12) w fun w =>
 PURE Tryz.prog (BINS .add 3 (.tmp 8) (.const (.int .i64 1)) v7 (.int .i64 1)) fun v14 =>
 next1 v14 w) (
 RUN Tryz.prog (Instr.loadAt 142 s_3) w fun v15 w =>
 RUNU Tryz.prog (Instr.storeAt 142 v5 v15) w fun w =>
 LOADRES Tryz.prog 142 v5 w fun r => R r w)) (.int .i64 0) w
theorem by_fold_Set_Union {s_1 o_2 : Value} {R : Value → World → Prop} {w : World} (h : sh_fold_Set_Union s_1 o_2 NOPE R w) : RET Tryz.prog 68 [s_1, o_2] w R :=
  ⟨by kernel_rfl, calls_by [(2, [8])] Tryz.func68 (by kernel_rfl) (by kernel_rfl) (by kernel_rfl) h⟩

def sh_fold_Of (b_1 : Value) (E : List PanicEntry → World → Prop) (R : Value → World → Prop) (w : World) : Prop :=
 RUN Tryz.prog (Instr.alloc 142 true (.tuple #[])) w fun v2 w =>
 RUN Tryz.prog (Instr.alloc 142 true (.tuple #[])) w fun s_3 w =>
 PURE Tryz.prog (Builtin.len_ #[23] 3 #[b_1]) fun v4 =>
 LOOP1 (fun v5 w next1 =>
 PURE Tryz.prog (BINS .lss 3 (.tmp 8) (.tmp 7) v5 v4) fun v6 =>
 COND v6 (
 PURE Tryz.prog (Instr.indexAt 23 b_1 v5) fun v7 =>
 RUN Tryz.prog (Instr.loadAt 5 v7) w fun v8 w =>
 RUN Tryz.prog (Instr.loadAt 142 s_3) w fun v9 w =>
 CALL Tryz.prog 89 [v9, v8] w E fun v10 w =>
 RUNU Tryz.prog (Instr.storeAt 142 s_3 v10) w fun w =>
 PURE Tryz.prog (BINS .add 3 (.tmp 8) (.const (.int .i64 1)) v5 (.int .i64 1)) fun v11 =>
 next1 v11 w) (
 RUN Tryz.prog (Instr.loadAt 142 s_3) w fun v12 w =>
 RUNU Tryz.prog (Instr.storeAt 142 v2 v12) w fun w =>
 LOADRES Tryz.prog 142 v2 w fun r => R r w)) (.int .i64 0) w
theorem by_fold_Of {b_1 : Value} {R : Value → World → Prop} {w : World} (h : sh_fold_Of b_1 NOPE R w) : RET Tryz.prog 69 [b_1] w R :=
  ⟨by kernel_rfl, calls_by [(3, [8])] Tryz.func69 (by kernel_rfl) (by kernel_rfl) (by kernel_rfl) h⟩

def sh_fold_Set_List (s_1 : Value) (E : List PanicEntry → World → Prop) (R : Value → World → Prop) (w : World) : Prop :=
 RUN Tryz.prog (Instr.box 142 s_1) w fun s_2 w =>
 RUN Tryz.prog (Instr.loadAt 142 s_2) w fun v3 w =>
 PURE Tryz.prog (Instr.build 142 #[]) fun v4 =>
 PURE Tryz.prog (BINS .eql 142 (.tmp 5) (.tmp 6) v3 v4) fun v5 =>
 COND v5 (
 R (.slice Option.none 0 0) w) (
 LOOP2 (fun out_6 v7 w next1 =>
 PURE Tryz.prog (BINS .lss 3 (.tmp 8) (.const (.int .i64 256)) v7 (.int .i64 256)) fun v8 =>
 COND v8 (
 RUN Tryz.prog (Instr.loadAt 142 s_2) w fun v9 w =>
 PURE Tryz.prog (convert 3 5 v7) fun v10 =>
 CALL Tryz.prog 90 [v9, v10] w E fun v11 w =>
 COND v11 (
 PURE Tryz.prog (convert 3 5 v7) fun v12 =>
 RUN Tryz.prog (Instr.buildSlice 23 1 #[(0, v12)]) w fun v13 w =>
 RUN Tryz.prog (Builtin.append_ #[23, 23] 23 #[out_6, v13]) w fun v14 w =>
 PURE Tryz.prog (BINS .add 3 (.tmp 8) (.const (.int .i64 1)) v7 (.int .i64 1)) fun v15 =>
 next1 v14 v15 w) (
 PURE Tryz.prog (BINS .add 3 (.tmp 8) (.const (.int .i64 1)) v7 (.int .i64 1)) fun v16 =>
 next1 out_6 v16 w)) (
 R out_6 w)) (.slice Option.none 0 0) (.int .i64 0) w)
theorem by_fold_Set_List {s_1 : Value} {R : Value → World → Prop} {w : World} (h : sh_fold_Set_List s_1 NOPE R w) : RET Tryz.prog 70 [s_1] w R :=
  ⟨by kernel_rfl, calls_by [(5, [3, 8])] Tryz.func70 (by kernel_rfl) (by kernel_rfl) (by kernel_rfl) h⟩

def sh_classes_Classes_Len (c_1 : Value) (E : List PanicEntry → World → Prop) (R : Value → World → Prop) (w : World) : Prop :=
 RUN Tryz.prog (Instr.box 103 c_1) w fun c_2 w =>
 PURE Tryz.prog (Instr.fieldAt 103 c_2 1) fun v3 =>
 RUN Tryz.prog (Instr.loadAt 3 v3) w fun v4 w =>
 PURE Tryz.prog (BINS .add 3 (.tmp 4) (.const (.int .i64 1)) v4 (.int .i64 1)) fun v5 =>
 R v5 w
theorem by_classes_Classes_Len {c_1 : Value} {R : Value → World → Prop} {w : World} (h : sh_classes_Classes_Len c_1 NOPE R w) : RET Tryz.prog 71 [c_1] w R :=
  ⟨by kernel_rfl, calls_by [] Tryz.func71 (by kernel_rfl) (by kernel_rfl) (by kernel_rfl) h⟩

def sh_links_Links_Order (l_1 : Value) (E : List PanicEntry → World → Prop) (R : Value → World → Prop) (w : World) : Prop :=
 PURE Tryz.prog (BINS .eql 92 (.tmp 3) (.const (.pointer Option.none)) l_1 (.pointer Option.none)) fun v2 =>
 COND v2 (
 R (.slice Option.none 0 0) w) (
 PURE Tryz.prog (NILS l_1) fun v3 =>
 PURE Tryz.prog (Instr.fieldAt 137 v3 3) fun v4 =>
 RUN Tryz.prog (Instr.loadAt 105 v4) w fun v5 w =>
 CALL Tryz.prog 91 [v5] w E fun v6 w =>
 R v6 w)
theorem by_links_Links_Order {l_1 : Value} {R : Value → World → Prop} {w : World} (h : sh_links_Links_Order l_1 NOPE R w) : RET Tryz.prog 72 [l_1] w R :=
  ⟨by kernel_rfl, calls_by [] Tryz.func72 (by kernel_rfl) (by kernel_rfl) (by kernel_rfl) h⟩

def sh_dfa_DFA_row (d_1 state_2 : Value) (E : List PanicEntry → World → Prop) (R : Value → World → Prop) (w : World) : Prop :=
 PURE Tryz.prog (NILS d_1) fun v3 =>
 PURE Tryz.prog (Instr.fieldAt 107 v3 2) fun v4 =>
 RUN Tryz.prog (Instr.loadAt 103 v4) w fun v5 w =>
 CALL Tryz.prog 71 [v5] w E fun v6 w =>
 PURE Tryz.prog (NILS d_1) fun v7 =>
 PURE Tryz.prog (Instr.fieldAt 107 v7 3) fun v8 =>
 RUN Tryz.prog (Instr.loadAt 105 v8) w fun v9 w =>
 PURE Tryz.prog (BINS .mul 3 (.tmp 15) (.tmp 16) state_2 v6) fun v10 =>
 PURE Tryz.prog (BINS .mul 3 (.tmp 18) (.tmp 19) state_2 v6) fun v11 =>
 PURE Tryz.prog (BINS .add 3 (.tmp 20) (.tmp 21) v11 v6) fun v12 =>
 PURE Tryz.prog (Instr.sliceAt 105 v9 (some v10) (some v12) none) fun v13 =>
 R v13 w
theorem by_dfa_DFA_row {d_1 state_2 : Value} {R : Value → World → Prop} {w : World} (h : sh_dfa_DFA_row d_1 state_2 NOPE R w) : RET Tryz.prog 73 [d_1, state_2] w R :=
  ⟨by kernel_rfl, calls_by [] Tryz.func73 (by kernel_rfl) (by kernel_rfl) (by kernel_rfl) h⟩

def sh_links_Links_Fail (l_1 node_2 : Value) (E : List PanicEntry → World → Prop) (R : Value → World → Prop) (w : World) : Prop :=
 CALL Tryz.prog 92 [l_1, node_2] w E fun v3 w =>
 PURE Tryz.prog (Op.unary .not v3) fun v4 =>
 COND v4 (
 R (.int .i64 (-1)) w) (
 PURE Tryz.prog (NILS l_1) fun v5 =>
 PURE Tryz.prog (Instr.fieldAt 137 v5 0) fun v6 =>
 RUN Tryz.prog (Instr.loadAt 105 v6) w fun v7 w =>
 PURE Tryz.prog (Instr.indexAt 105 v7 node_2) fun v8 =>
 RUN Tryz.prog (Instr.loadAt 3 v8) w fun v9 w =>
 R v9 w)
theorem by_links_Links_Fail {l_1 node_2 : Value} {R : Value → World → Prop} {w : World} (h : sh_links_Links_Fail l_1 node_2 NOPE R w) : RET Tryz.prog 74 [l_1, node_2] w R :=
  ⟨by kernel_rfl, calls_by [] Tryz.func74 (by kernel_rfl) (by kernel_rfl) (by kernel_rfl) h⟩

def sh_classes_Classes_Class (c_1 b_2 : Value) (E : List PanicEntry → World → Prop) (R : Value → World → Prop) (w : World) : Prop :=
 RUN Tryz.prog (Instr.box 103 c_1) w fun c_3 w =>
 PURE Tryz.prog (Instr.fieldAt 103 c_3 0) fun v4 =>
 PURE Tryz.prog (Instr.indexAt 101 v4 b_2) fun v5 =>
 RUN Tryz.prog (Instr.loadAt 3 v5) w fun v6 w =>
 R v6 w
theorem by_classes_Classes_Class {c_1 b_2 : Value} {R : Value → World → Prop} {w : World} (h : sh_classes_Classes_Class c_1 b_2 NOPE R w) : RET Tryz.prog 75 [c_1, b_2] w R :=
  ⟨by kernel_rfl, calls_by [] Tryz.func75 (by kernel_rfl) (by kernel_rfl) (by kernel_rfl) h⟩

def sh_critical_cut (b_1 : Value) (E : List PanicEntry → World → Prop) (R : Value → World → Prop) (w : World) : Prop :=
 RUN Tryz.prog (Instr.alloc 109 true (.tuple #[])) w fun v2 w =>
 CALL Tryz.prog 93 [b_1, (.bool false)] w E fun v3 w =>
 PURE Tryz.prog (Instr.extract v3 0) fun v4 =>
 PURE Tryz.prog (Instr.extract v3 1) fun v5 =>
 CALL Tryz.prog 93 [b_1, (.bool true)] w E fun v6 w =>
 PURE Tryz.prog (Instr.extract v6 0) fun v7 =>
 PURE Tryz.prog (Instr.extract v6 1) fun v8 =>
 PURE Tryz.prog (BINS .gtr 3 (.tmp 17) (.tmp 18) v7 v4) fun v9 =>
 COND v9 (
 PURE Tryz.prog (Instr.build 109 #[(0, v7), (1, v8)]) fun v10 =>
 RUNU Tryz.prog (Instr.storeAt 109 v2 v10) w fun w =>
 LOADRES Tryz.prog 109 v2 w fun r => R r w) (
 PURE Tryz.prog (Instr.build 109 #[(0, v4), (1, v5)]) fun v11 =>
 RUNU Tryz.prog (Instr.storeAt 109 v2 v11) w fun w =>
 LOADRES Tryz.prog 109 v2 w fun r => R r w)
theorem by_critical_cut {b_1 : Value} {R : Value → World → Prop} {w : World} (h : sh_critical_cut b_1 NOPE R w) : RET Tryz.prog 76 [b_1] w R :=
  ⟨by kernel_rfl, calls_by [] Tryz.func76 (by kernel_rfl) (by kernel_rfl) (by kernel_rfl) h⟩

def sh_critical_text_alike (t_1 a_2 b_3 n_4 : Value) (E : List PanicEntry → World → Prop) (R : Value → World → Prop) (w : World) : Prop :=
 DRAWQ w fun S w =>
 PURE Tryz.prog (BINS .add 3 (.tmp 11) (.tmp 12) a_2 n_4) fun v5 =>
 PURE Tryz.prog (Instr.sliceAt 150 t_1 (some a_2) (some v5) none) fun v6 =>
 READ Tryz.prog S (convert 150 9 v6) w fun v7 =>
 PURE Tryz.prog (BINS .add 3 (.tmp 18) (.tmp 19) b_3 n_4) fun v8 =>
 PURE Tryz.prog (Instr.sliceAt 150 t_1 (some b_3) (some v8) none) fun v9 =>
 READ Tryz.prog S (convert 150 9 v9) w fun v10 =>
 PURE Tryz.prog (BINS .eql 9 (.tmp 15) (.tmp 22) v7 v10) fun v11 =>
 R v11 w
theorem by_critical_text_alike {t_1 a_2 b_3 n_4 : Value} {R : Value → World → Prop} {w : World} (h : sh_critical_text_alike t_1 a_2 b_3 n_4 NOPE R w) : RET Tryz.prog 77 [t_1, a_2, b_3, n_4] w R :=
  ⟨by kernel_rfl, calls_by [] Tryz.func77 (by kernel_rfl) (by kernel_rfl) (by kernel_rfl) h⟩

def sh_twoway_Two_right (t_1 line_2 at_3 from_4 : Value) (E : List PanicEntry → World → Prop) (R : Value → World → Prop) (w : World) : Prop :=
 LOOP1 (fun i_5 w next1 =>
 DRAWQ w fun S w =>
 PURE Tryz.prog (NILS t_1) fun v6 =>
 PURE Tryz.prog (Instr.fieldAt 114 v6 0) fun v7 =>
 READ Tryz.prog S (Instr.loadAt 23 v7) w fun v8 =>
 PURE Tryz.prog (Builtin.len_ #[23] 3 #[v8]) fun v9 =>
 PURE Tryz.prog (BINS .lss 3 (.tmp 11) (.tmp 16) i_5 v9) fun v10 =>
 COND v10 (
 PURE Tryz.prog (NILS t_1) fun v11 =>
 PURE Tryz.prog (Instr.fieldAt 114 v11 0) fun v12 =>
 READ Tryz.prog S (Instr.loadAt 23 v12) w fun v13 =>
 PURE Tryz.prog (Instr.indexAt 23 v13 i_5) fun v14 =>
 READ Tryz.prog S (Instr.loadAt 5 v14) w fun v15 =>
 PURE Tryz.prog (BINS .add 3 (.tmp 27) (.tmp 28) at_3 i_5) fun v16 =>
 PURE Tryz.prog (Instr.indexAt 23 line_2 v16) fun v17 =>
 READ Tryz.prog S (Instr.loadAt 5 v17) w fun v18 =>
 PURE Tryz.prog (BINS .eql 5 (.tmp 25) (.tmp 31) v15 v18) fun v19 =>
 COND v19 (
 PURE Tryz.prog (BINS .add 3 (.tmp 34) (.const (.int .i64 1)) i_5 (.int .i64 1)) fun v20 =>
 next1 v20 w) (
 R i_5 w)) (
 COND (.bool false) (
 PURE Tryz.prog (BINS .add 3 (.tmp 34) (.const (.int .i64 1)) i_5 (.int .i64 1)) fun v21 =>
 next1 v21 w) (
 R i_5 w))) from_4 w
theorem by_twoway_Two_right {t_1 line_2 at_3 from_4 : Value} {R : Value → World → Prop} {w : World} (h : sh_twoway_Two_right t_1 line_2 at_3 from_4 NOPE R w) : RET Tryz.prog 78 [t_1, line_2, at_3, from_4] w R :=
  ⟨by kernel_rfl, calls_by [(2, [9])] Tryz.func78 (by kernel_rfl) (by kernel_rfl) (by kernel_rfl) h⟩

def sh_twoway_Two_left (t_1 line_2 at_3 down_4 : Value) (E : List PanicEntry → World → Prop) (R : Value → World → Prop) (w : World) : Prop :=
 PURE Tryz.prog (NILS t_1) fun v5 =>
 PURE Tryz.prog (Instr.fieldAt 114 v5 1) fun v6 =>
 PURE Tryz.prog (Instr.fieldAt 109 v6 0) fun v7 =>
 RUN Tryz.prog (Instr.loadAt 3 v7) w fun v8 w =>
 PURE Tryz.prog (BINS .sub 3 (.tmp 14) (.const (.int .i64 1)) v8 (.int .i64 1)) fun v9 =>
 LOOP1 (fun i_10 w next1 =>
 PURE Tryz.prog (BINS .geq 3 (.tmp 16) (.tmp 17) i_10 down_4) fun v11 =>
 COND v11 (
 DRAWQ w fun S w =>
 PURE Tryz.prog (NILS t_1) fun v12 =>
 PURE Tryz.prog (Instr.fieldAt 114 v12 0) fun v13 =>
 READ Tryz.prog S (Instr.loadAt 23 v13) w fun v14 =>
 PURE Tryz.prog (Instr.indexAt 23 v14 i_10) fun v15 =>
 READ Tryz.prog S (Instr.loadAt 5 v15) w fun v16 =>
 PURE Tryz.prog (BINS .add 3 (.tmp 29) (.tmp 30) at_3 i_10) fun v17 =>
 PURE Tryz.prog (Instr.indexAt 23 line_2 v17) fun v18 =>
 READ Tryz.prog S (Instr.loadAt 5 v18) w fun v19 =>
 PURE Tryz.prog (BINS .neq 5 (.tmp 27) (.tmp 33) v16 v19) fun v20 =>
 COND v20 (
 R (.bool false) w) (
 PURE Tryz.prog (BINS .sub 3 (.tmp 19) (.const (.int .i64 1)) i_10 (.int .i64 1)) fun v21 =>
 next1 v21 w)) (
 R (.bool true) w)) v9 w
theorem by_twoway_Two_left {t_1 line_2 at_3 down_4 : Value} {R : Value → World → Prop} {w : World} (h : sh_twoway_Two_left t_1 line_2 at_3 down_4 NOPE R w) : RET Tryz.prog 79 [t_1, line_2, at_3, down_4] w R :=
  ⟨by kernel_rfl, calls_by [(2, [9])] Tryz.func79 (by kernel_rfl) (by kernel_rfl) (by kernel_rfl) h⟩

def sh_back_Build_1 (old_1 n_2 : Value) (E : List PanicEntry → World → Prop) (R : Value → World → Prop) (w : World) : Prop :=
 PURE Tryz.prog (BINS .eql 3 (.tmp 5) (.const (.int .i64 0)) old_1 (.int .i64 0)) fun v3 =>
 COND v3 (
 R n_2 w) (
 PURE Tryz.prog (Builtin.min_ #[3, 3] 3 #[old_1, n_2]) fun v4 =>
 R v4 w)
theorem by_back_Build_1 {old_1 n_2 : Value} {R : Value → World → Prop} {w : World} (h : sh_back_Build_1 old_1 n_2 NOPE R w) : RET Tryz.prog 80 [old_1, n_2] w R :=
  ⟨by kernel_rfl, calls_by [] Tryz.func80 (by kernel_rfl) (by kernel_rfl) (by kernel_rfl) h⟩

def sh_back_Turn (b_1 : Value) (E : List PanicEntry → World → Prop) (R : Value → World → Prop) (w : World) : Prop :=
 CALL Tryz.prog 26 [b_1] w E fun v2 w =>
 CALL Tryz.prog 67 [v2] w E fun v3 w =>
 R v2 w
theorem by_back_Turn {b_1 : Value} {R : Value → World → Prop} {w : World} (h : sh_back_Turn b_1 NOPE R w) : RET Tryz.prog 81 [b_1] w R :=
  ⟨by kernel_rfl, calls_by [] Tryz.func81 (by kernel_rfl) (by kernel_rfl) (by kernel_rfl) h⟩

def sh_back_Back_Least (b_1 : Value) (E : List PanicEntry → World → Prop) (R : Value → World → Prop) (w : World) : Prop :=
 PURE Tryz.prog (BINS .eql 115 (.tmp 3) (.const (.pointer Option.none)) b_1 (.pointer Option.none)) fun v2 =>
 COND v2 (
 R (.int .i64 0) w) (
 PURE Tryz.prog (NILS b_1) fun v3 =>
 PURE Tryz.prog (Instr.fieldAt 154 v3 1) fun v4 =>
 RUN Tryz.prog (Instr.loadAt 3 v4) w fun v5 w =>
 R v5 w)
theorem by_back_Back_Least {b_1 : Value} {R : Value → World → Prop} {w : World} (h : sh_back_Back_Least b_1 NOPE R w) : RET Tryz.prog 82 [b_1] w R :=
  ⟨by kernel_rfl, calls_by [] Tryz.func82 (by kernel_rfl) (by kernel_rfl) (by kernel_rfl) h⟩

def sh_shifts_Shifts_goes (s_1 w_2 : Value) (E : List PanicEntry → World → Prop) (R : Value → World → Prop) (w : World) : Prop :=
 PURE Tryz.prog (NILS s_1) fun v3 =>
 PURE Tryz.prog (Instr.fieldAt 158 v3 0) fun v4 =>
 RUN Tryz.prog (Instr.loadAt 115 v4) w fun v5 w =>
 PURE Tryz.prog (NILS v5) fun v6 =>
 PURE Tryz.prog (Instr.fieldAt 154 v6 0) fun v7 =>
 RUN Tryz.prog (Instr.loadAt 90 v7) w fun v8 w =>
 CALL Tryz.prog 44 [v8, w_2] w E fun v9 w =>
 LOOP1 (fun n_10 w next1 =>
 PURE Tryz.prog (Builtin.len_ #[23] 3 #[v9]) fun v11 =>
 PURE Tryz.prog (BINS .leq 3 (.tmp 17) (.tmp 19) n_10 v11) fun v12 =>
 COND v12 (
 DRAWQ w fun S w =>
 PURE Tryz.prog (NILS s_1) fun v13 =>
 PURE Tryz.prog (Instr.fieldAt 158 v13 0) fun v14 =>
 READ Tryz.prog S (Instr.loadAt 115 v14) w fun v15 =>
 PURE Tryz.prog (NILS v15) fun v16 =>
 PURE Tryz.prog (Instr.fieldAt 154 v16 0) fun v17 =>
 READ Tryz.prog S (Instr.loadAt 90 v17) w fun v18 =>
 PURE Tryz.prog (Instr.sliceAt 23 v9 (some n_10) none none) fun v19 =>
 CALL Tryz.prog 95 [v18, v19] w E fun v20 w =>
 PURE Tryz.prog (BINS .lss 3 (.tmp 34) (.const (.int .i64 0)) v20 (.int .i64 0)) fun v21 =>
 COND v21 (
 PURE Tryz.prog (BINS .add 3 (.tmp 21) (.const (.int .i64 1)) n_10 (.int .i64 1)) fun v22 =>
 next1 v22 w) (
 PURE Tryz.prog (NILS s_1) fun v23 =>
 PURE Tryz.prog (Instr.fieldAt 158 v23 1) fun v24 =>
 RUN Tryz.prog (Instr.loadAt 156 v24) w fun v25 w =>
 PURE Tryz.prog (Instr.indexAt 156 v25 v20) fun v26 =>
 PURE Tryz.prog (Instr.indexAt 159 v26 (.int .i64 0)) fun v27 =>
 CALLV Tryz.prog (.func (.func 94) #[] #[]) [v27, n_10] w E fun v28 w =>
 PURE Tryz.prog (NILS s_1) fun v29 =>
 PURE Tryz.prog (Instr.fieldAt 158 v29 0) fun v30 =>
 RUN Tryz.prog (Instr.loadAt 115 v30) w fun v31 w =>
 CALL Tryz.prog 96 [v31, w_2] w E fun v32 w =>
 COND v32 (
 PURE Tryz.prog (NILS s_1) fun v33 =>
 PURE Tryz.prog (Instr.fieldAt 158 v33 1) fun v34 =>
 RUN Tryz.prog (Instr.loadAt 156 v34) w fun v35 w =>
 PURE Tryz.prog (Instr.indexAt 156 v35 v20) fun v36 =>
 PURE Tryz.prog (Instr.indexAt 159 v36 (.int .i64 1)) fun v37 =>
 CALLV Tryz.prog (.func (.func 94) #[] #[]) [v37, n_10] w E fun v38 w =>
 PURE Tryz.prog (BINS .add 3 (.tmp 21) (.const (.int .i64 1)) n_10 (.int .i64 1)) fun v39 =>
 next1 v39 w) (
 PURE Tryz.prog (BINS .add 3 (.tmp 21) (.const (.int .i64 1)) n_10 (.int .i64 1)) fun v40 =>
 next1 v40 w))) (
 R (.tuple #[]) w)) (.int .i64 1) w
theorem by_shifts_Shifts_goes {s_1 w_2 : Value} {R : Value → World → Prop} {w : World} (h : sh_shifts_Shifts_goes s_1 w_2 NOPE R w) : RET Tryz.prog 83 [s_1, w_2] w R :=
  ⟨by kernel_rfl, calls_by [(3, [6])] Tryz.func83 (by kernel_rfl) (by kernel_rfl) (by kernel_rfl) h⟩

def sh_cwalter_Walter_window (w_1 line_2 end_3 : Value) (E : List PanicEntry → World → Prop) (R : Value → World → Prop) (w : World) : Prop :=
 JOIN2 (fun J1 =>
 PURE Tryz.prog (BINS .sub 3 (.tmp 13) (.const (.int .i64 1)) end_3 (.int .i64 1)) fun v4 =>
 LOOP3 (fun out_5 at_6 i_7 w next2 =>
 PURE Tryz.prog (BINS .geq 3 (.tmp 15) (.const (.int .i64 0)) i_7 (.int .i64 0)) fun v8 =>
 COND v8 (
 DRAWQ w fun S w =>
 PURE Tryz.prog (NILS w_1) fun v9 =>
 PURE Tryz.prog (Instr.fieldAt 120 v9 0) fun v10 =>
 READ Tryz.prog S (Instr.loadAt 115 v10) w fun v11 =>
 PURE Tryz.prog (NILS v11) fun v12 =>
 PURE Tryz.prog (Instr.fieldAt 154 v12 0) fun v13 =>
 READ Tryz.prog S (Instr.loadAt 90 v13) w fun v14 =>
 PURE Tryz.prog (Instr.indexAt 23 line_2 i_7) fun v15 =>
 READ Tryz.prog S (Instr.loadAt 5 v15) w fun v16 =>
 CALL Tryz.prog 64 [v14, at_6, v16] w E fun v17 w =>
 PURE Tryz.prog (BINS .lss 3 (.tmp 32) (.const (.int .i64 0)) v17 (.int .i64 0)) fun v18 =>
 COND v18 (
 J1 out_5 at_6 w) (
 PURE Tryz.prog (NILS w_1) fun v19 =>
 PURE Tryz.prog (Instr.fieldAt 120 v19 0) fun v20 =>
 RUN Tryz.prog (Instr.loadAt 115 v20) w fun v21 w =>
 CALL Tryz.prog 96 [v21, v17] w E fun v22 w =>
 COND v22 (
 PURE Tryz.prog (Instr.build 57 #[(0, i_7), (1, end_3)]) fun v23 =>
 RUN Tryz.prog (Instr.buildSlice 37 1 #[(0, v23)]) w fun v24 w =>
 RUN Tryz.prog (Builtin.append_ #[37, 37] 37 #[out_5, v24]) w fun v25 w =>
 PURE Tryz.prog (BINS .sub 3 (.tmp 17) (.const (.int .i64 1)) i_7 (.int .i64 1)) fun v26 =>
 next2 v25 v17 v26 w) (
 PURE Tryz.prog (BINS .sub 3 (.tmp 17) (.const (.int .i64 1)) i_7 (.int .i64 1)) fun v27 =>
 next2 out_5 v17 v27 w))) (
 J1 out_5 at_6 w)) (.slice Option.none 0 0) (.int .i64 0) v4 w) (fun out_28 at_29 w =>
 PURE Tryz.prog (NILS w_1) fun v30 =>
 PURE Tryz.prog (Instr.fieldAt 120 v30 0) fun v31 =>
 RUN Tryz.prog (Instr.loadAt 115 v31) w fun v32 w =>
 PURE Tryz.prog (NILS v32) fun v33 =>
 PURE Tryz.prog (Instr.fieldAt 154 v33 0) fun v34 =>
 RUN Tryz.prog (Instr.loadAt 90 v34) w fun v35 w =>
 CALL Tryz.prog 97 [v35, at_29] w E fun v36 w =>
 PURE Tryz.prog (BINS .sub 3 (.tmp 47) (.tmp 56) end_3 v36) fun v37 =>
 PURE Tryz.prog (BINS .eql 3 (.tmp 58) (.const (.int .i64 0)) v37 (.int .i64 0)) fun v38 =>
 COND v38 (
 PURE Tryz.prog (NILS w_1) fun v39 =>
 PURE Tryz.prog (Instr.fieldAt 120 v39 1) fun v40 =>
 RUN Tryz.prog (Instr.loadAt 117 v40) w fun v41 w =>
 CALL Tryz.prog 98 [v41, at_29] w E fun v42 w =>
 R (.tuple #[out_28, v42]) w) (
 DRAWQ w fun S w =>
 PURE Tryz.prog (NILS w_1) fun v43 =>
 PURE Tryz.prog (Instr.fieldAt 120 v43 1) fun v44 =>
 READ Tryz.prog S (Instr.loadAt 117 v44) w fun v45 =>
 PURE Tryz.prog (BINS .sub 3 (.tmp 74) (.const (.int .i64 1)) v37 (.int .i64 1)) fun v46 =>
 PURE Tryz.prog (Instr.indexAt 23 line_2 v46) fun v47 =>
 READ Tryz.prog S (Instr.loadAt 5 v47) w fun v48 =>
 CALL Tryz.prog 99 [v45, at_29, v48] w E fun v49 w =>
 R (.tuple #[out_28, v49]) w))
theorem by_cwalter_Walter_window {w_1 line_2 end_3 : Value} {R : Value → World → Prop} {w : World} (h : sh_cwalter_Walter_window w_1 line_2 end_3 NOPE R w) : RET Tryz.prog 84 [w_1, line_2, end_3] w R :=
  ⟨by kernel_rfl, calls_by [(4, [8, 9, 10]), (13011, [8, 9])] Tryz.func84 (by kernel_rfl) (by kernel_rfl) (by kernel_rfl) h⟩

def sh_slices_Clone_api_Pair_api_Pair (s_1 : Value) (E : List PanicEntry → World → Prop) (R : Value → World → Prop) (w : World) : Prop :=
 PURE Tryz.prog (BINS .eql 37 (.tmp 3) (.const (.slice Option.none 0 0)) s_1 (.slice Option.none 0 0)) fun v2 =>
 COND v2 (
 R (.slice Option.none 0 0) w) (
 RUN Tryz.prog (Instr.buildSlice 37 0 #[]) w fun v3 w =>
 RUN Tryz.prog (Builtin.append_ #[37, 37] 37 #[v3, s_1]) w fun v4 w =>
 R v4 w)
theorem by_slices_Clone_api_Pair_api_Pair {s_1 : Value} {R : Value → World → Prop} {w : World} (h : sh_slices_Clone_api_Pair_api_Pair s_1 NOPE R w) : RET Tryz.prog 85 [s_1] w R :=
  ⟨by kernel_rfl, calls_by [] Tryz.func85 (by kernel_rfl) (by kernel_rfl) (by kernel_rfl) h⟩

def sh_math_bits_Mul (x_1 y_2 : Value) (E : List PanicEntry → World → Prop) (R : Value → World → Prop) (w : World) : Prop :=
 COND (.bool false) (
 PURE Tryz.prog (convert 165 175 x_1) fun v3 =>
 PURE Tryz.prog (convert 165 175 y_2) fun v4 =>
 CALL Tryz.prog 100 [v3, v4] w E fun v5 w =>
 PURE Tryz.prog (Instr.extract v5 0) fun v6 =>
 PURE Tryz.prog (Instr.extract v5 1) fun v7 =>
 PURE Tryz.prog (convert 175 165 v6) fun v8 =>
 PURE Tryz.prog (convert 175 165 v7) fun v9 =>
 R (.tuple #[v8, v9]) w) (
 CALL Tryz.prog 101 [x_1, y_2] w E fun v10 w =>
 PURE Tryz.prog (Instr.extract v10 0) fun v11 =>
 PURE Tryz.prog (Instr.extract v10 1) fun v12 =>
 R (.tuple #[v11, v12]) w)
theorem by_math_bits_Mul {x_1 y_2 : Value} {R : Value → World → Prop} {w : World} (h : sh_math_bits_Mul x_1 y_2 NOPE R w) : RET Tryz.prog 86 [x_1, y_2] w R :=
  ⟨by kernel_rfl, calls_by [] Tryz.func86 (by kernel_rfl) (by kernel_rfl) (by kernel_rfl) h⟩

def sh_links_Links_link_1 (n_1 v2 v3 v4 : Value) (E : List PanicEntry → World → Prop) (R : Value → World → Prop) (w : World) : Prop :=
 RUN Tryz.prog (Instr.loadAt 92 v2) w fun v5 w =>
 PURE Tryz.prog (NILS v5) fun v6 =>
 PURE Tryz.prog (Instr.fieldAt 137 v6 0) fun v7 =>
 RUN Tryz.prog (Instr.loadAt 105 v7) w fun v8 w =>
 PURE Tryz.prog (Instr.indexAt 105 v8 n_1) fun v9 =>
 RUN Tryz.prog (Instr.loadAt 3 v9) w fun v10 w =>
 LOOP1 (fun n_11 w next1 =>
 PURE Tryz.prog (BINS .geq 3 (.tmp 14) (.const (.int .i64 0)) n_11 (.int .i64 0)) fun v12 =>
 COND v12 (
 RUN Tryz.prog (Instr.loadAt 90 v3) w fun v13 w =>
 RUN Tryz.prog (Instr.loadAt 5 v4) w fun v14 w =>
 CALL Tryz.prog 64 [v13, n_11, v14] w E fun v15 w =>
 PURE Tryz.prog (BINS .geq 3 (.tmp 27) (.const (.int .i64 0)) v15 (.int .i64 0)) fun v16 =>
 COND v16 (
 R v15 w) (
 RUN Tryz.prog (Instr.loadAt 92 v2) w fun v17 w =>
 PURE Tryz.prog (NILS v17) fun v18 =>
 PURE Tryz.prog (Instr.fieldAt 137 v18 0) fun v19 =>
 RUN Tryz.prog (Instr.loadAt 105 v19) w fun v20 w =>
 PURE Tryz.prog (Instr.indexAt 105 v20 n_11) fun v21 =>
 RUN Tryz.prog (Instr.loadAt 3 v21) w fun v22 w =>
 next1 v22 w)) (
 R (.int .i64 0) w)) v10 w
theorem by_links_Links_link_1 {n_1 v2 v3 v4 : Value} {R : Value → World → Prop} {w : World} (h : sh_links_Links_link_1 n_1 v2 v3 v4 NOPE R w) : RET Tryz.prog 87 [n_1, v2, v3, v4] w R :=
  ⟨by kernel_rfl, calls_by [(2, [0])] Tryz.func87 (by kernel_rfl) (by kernel_rfl) (by kernel_rfl) h⟩

def sh_trie_Trie_Word (t_1 node_2 : Value) (E : List PanicEntry → World → Prop) (R : Value → World → Prop) (w : World) : Prop :=
 CALL Tryz.prog 66 [t_1, node_2] w E fun v3 w =>
 PURE Tryz.prog (Op.unary .not v3) fun v4 =>
 COND v4 (
 R (.int .i64 (-1)) w) (
 PURE Tryz.prog (NILS t_1) fun v5 =>
 PURE Tryz.prog (Instr.fieldAt 133 v5 0) fun v6 =>
 RUN Tryz.prog (Instr.loadAt 130 v6) w fun v7 w =>
 PURE Tryz.prog (Instr.indexAt 130 v7 node_2) fun v8 =>
 PURE Tryz.prog (Instr.fieldAt 129 v8 2) fun v9 =>
 RUN Tryz.prog (Instr.loadAt 3 v9) w fun v10 w =>
 R v10 w)
theorem by_trie_Trie_Word {t_1 node_2 : Value} {R : Value → World → Prop} {w : World} (h : sh_trie_Trie_Word t_1 node_2 NOPE R w) : RET Tryz.prog 88 [t_1, node_2] w R :=
  ⟨by kernel_rfl, calls_by [] Tryz.func88 (by kernel_rfl) (by kernel_rfl) (by kernel_rfl) h⟩

def sh_fold_Set_With (s_1 c_2 : Value) (E : List PanicEntry → World → Prop) (R : Value → World → Prop) (w : World) : Prop :=
 RUN Tryz.prog (Instr.box 142 s_1) w fun s_3 w =>
 RUN Tryz.prog (Instr.alloc 142 true (.tuple #[])) w fun v4 w =>
 PURE Tryz.prog (BINS .quo 5 (.tmp 5) (.const (.int .u8 64)) c_2 (.int .u8 64)) fun v5 =>
 PURE Tryz.prog (Instr.indexAt 142 s_3 v5) fun v6 =>
 RUN Tryz.prog (Instr.loadAt 140 v6) w fun v7 w =>
 PURE Tryz.prog (BINS .rem 5 (.tmp 9) (.const (.int .u8 64)) c_2 (.int .u8 64)) fun v8 =>
 PURE Tryz.prog (BINS .shl 140 (.const (.int .u64 1)) (.tmp 10) (.int .u64 1) v8) fun v9 =>
 PURE Tryz.prog (BINS .or 140 (.tmp 8) (.tmp 11) v7 v9) fun v10 =>
 PURE Tryz.prog (Instr.indexAt 142 s_3 v5) fun v11 =>
 RUNU Tryz.prog (Instr.storeAt 140 v11 v10) w fun w =>
 RUN Tryz.prog (Instr.loadAt 142 s_3) w fun v12 w =>
 RUNU Tryz.prog (Instr.storeAt 142 v4 v12) w fun w =>
 LOADRES Tryz.prog 142 v4 w fun r => R r w
theorem by_fold_Set_With {s_1 c_2 : Value} {R : Value → World → Prop} {w : World} (h : sh_fold_Set_With s_1 c_2 NOPE R w) : RET Tryz.prog 89 [s_1, c_2] w R :=
  ⟨by kernel_rfl, calls_by [] Tryz.func89 (by kernel_rfl) (by kernel_rfl) (by kernel_rfl) h⟩

def sh_fold_Set_Has (s_1 c_2 : Value) (E : List PanicEntry → World → Prop) (R : Value → World → Prop) (w : World) : Prop :=
 RUN Tryz.prog (Instr.box 142 s_1) w fun s_3 w =>
 PURE Tryz.prog (BINS .quo 5 (.tmp 5) (.const (.int .u8 64)) c_2 (.int .u8 64)) fun v4 =>
 PURE Tryz.prog (Instr.indexAt 142 s_3 v4) fun v5 =>
 RUN Tryz.prog (Instr.loadAt 140 v5) w fun v6 w =>
 PURE Tryz.prog (BINS .rem 5 (.tmp 9) (.const (.int .u8 64)) c_2 (.int .u8 64)) fun v7 =>
 PURE Tryz.prog (BINS .shr 140 (.tmp 8) (.tmp 10) v6 v7) fun v8 =>
 PURE Tryz.prog (BINS .and 140 (.tmp 11) (.const (.int .u64 1)) v8 (.int .u64 1)) fun v9 =>
 PURE Tryz.prog (BINS .eql 140 (.tmp 12) (.const (.int .u64 1)) v9 (.int .u64 1)) fun v10 =>
 R v10 w
theorem by_fold_Set_Has {s_1 c_2 : Value} {R : Value → World → Prop} {w : World} (h : sh_fold_Set_Has s_1 c_2 NOPE R w) : RET Tryz.prog 90 [s_1, c_2] w R :=
  ⟨by kernel_rfl, calls_by [] Tryz.func90 (by kernel_rfl) (by kernel_rfl) (by kernel_rfl) h⟩

def sh_slices_Clone_int_int (s_1 : Value) (E : List PanicEntry → World → Prop) (R : Value → World → Prop) (w : World) : Prop :=
 PURE Tryz.prog (BINS .eql 105 (.tmp 3) (.const (.slice Option.none 0 0)) s_1 (.slice Option.none 0 0)) fun v2 =>
 COND v2 (
 R (.slice Option.none 0 0) w) (
 RUN Tryz.prog (Instr.buildSlice 105 0 #[]) w fun v3 w =>
 RUN Tryz.prog (Builtin.append_ #[105, 105] 105 #[v3, s_1]) w fun v4 w =>
 R v4 w)
theorem by_slices_Clone_int_int {s_1 : Value} {R : Value → World → Prop} {w : World} (h : sh_slices_Clone_int_int s_1 NOPE R w) : RET Tryz.prog 91 [s_1] w R :=
  ⟨by kernel_rfl, calls_by [] Tryz.func91 (by kernel_rfl) (by kernel_rfl) (by kernel_rfl) h⟩

def sh_links_Links_is (l_1 n_2 : Value) (E : List PanicEntry → World → Prop) (R : Value → World → Prop) (w : World) : Prop :=
 PURE Tryz.prog (BINS .neq 92 (.tmp 5) (.const (.pointer Option.none)) l_1 (.pointer Option.none)) fun v3 =>
 COND v3 (
 PURE Tryz.prog (BINS .geq 3 (.tmp 8) (.const (.int .i64 0)) n_2 (.int .i64 0)) fun v4 =>
 COND v4 (
 PURE Tryz.prog (NILS l_1) fun v5 =>
 PURE Tryz.prog (Instr.fieldAt 137 v5 0) fun v6 =>
 RUN Tryz.prog (Instr.loadAt 105 v6) w fun v7 w =>
 PURE Tryz.prog (Builtin.len_ #[105] 3 #[v7]) fun v8 =>
 PURE Tryz.prog (BINS .lss 3 (.tmp 12) (.tmp 17) n_2 v8) fun v9 =>
 R v9 w) (
 R (.bool false) w)) (
 R (.bool false) w)
theorem by_links_Links_is {l_1 n_2 : Value} {R : Value → World → Prop} {w : World} (h : sh_links_Links_is l_1 n_2 NOPE R w) : RET Tryz.prog 92 [l_1, n_2] w R :=
  ⟨by kernel_rfl, calls_by [] Tryz.func92 (by kernel_rfl) (by kernel_rfl) (by kernel_rfl) h⟩

def sh_suffix_Max (b_1 turned_2 : Value) (E : List PanicEntry → World → Prop) (R : Value → World → Prop) (w : World) : Prop :=
 PURE Tryz.prog (Builtin.len_ #[23] 3 #[b_1]) fun v3 =>
 PURE Tryz.prog (BINS .eql 3 (.tmp 14) (.const (.int .i64 0)) v3 (.int .i64 0)) fun v4 =>
 COND v4 (
 R (.tuple #[(.int .i64 0), (.int .i64 0)]) w) (
 CALL Tryz.prog 102 [turned_2] w E fun v5 w =>
 RUN Tryz.prog (Instr.alloc 182 true (.tuple #[])) w fun o_6 w =>
 RUNU Tryz.prog (Instr.storeAt 182 o_6 v5) w fun w =>
 LOOP4 (fun at_7 next_8 k_9 per_10 w next1 =>
 PURE Tryz.prog (BINS .add 3 (.tmp 18) (.tmp 19) next_8 k_9) fun v11 =>
 PURE Tryz.prog (Builtin.len_ #[23] 3 #[b_1]) fun v12 =>
 PURE Tryz.prog (BINS .lss 3 (.tmp 20) (.tmp 22) v11 v12) fun v13 =>
 COND v13 (
 DRAWQ w fun S w =>
 PURE Tryz.prog (BINS .add 3 (.tmp 25) (.tmp 26) at_7 k_9) fun v14 =>
 PURE Tryz.prog (Instr.indexAt 23 b_1 v14) fun v15 =>
 READ Tryz.prog S (Instr.loadAt 5 v15) w fun v16 =>
 PURE Tryz.prog (BINS .add 3 (.tmp 31) (.tmp 32) next_8 k_9) fun v17 =>
 PURE Tryz.prog (Instr.indexAt 23 b_1 v17) fun v18 =>
 READ Tryz.prog S (Instr.loadAt 5 v18) w fun v19 =>
 PURE Tryz.prog (Instr.fieldAt 182 o_6 0) fun v20 =>
 RUN Tryz.prog (Instr.loadAt 180 v20) w fun v21 w =>
 CALLV Tryz.prog v21 [v19, v16] w E fun v22 w =>
 COND v22 (
 PURE Tryz.prog (BINS .add 3 (.tmp 46) (.const (.int .i64 1)) k_9 (.int .i64 1)) fun v23 =>
 PURE Tryz.prog (BINS .add 3 (.tmp 45) (.tmp 47) next_8 v23) fun v24 =>
 PURE Tryz.prog (BINS .sub 3 (.tmp 49) (.tmp 50) v24 at_7) fun v25 =>
 next1 at_7 v24 (.int .i64 0) v25 w) (
 JOIN1 (fun J2 =>
 PURE Tryz.prog (BINS .eql 5 (.tmp 53) (.tmp 54) v16 v19) fun v26 =>
 COND v26 (
 PURE Tryz.prog (BINS .add 3 (.tmp 57) (.const (.int .i64 1)) k_9 (.int .i64 1)) fun v27 =>
 PURE Tryz.prog (BINS .lss 3 (.tmp 58) (.tmp 59) v27 per_10) fun v28 =>
 J2 v28 w) (
 J2 (.bool false) w)) (fun v29 w =>
 COND v29 (
 PURE Tryz.prog (BINS .add 3 (.tmp 62) (.const (.int .i64 1)) k_9 (.int .i64 1)) fun v30 =>
 next1 at_7 next_8 v30 per_10 w) (
 PURE Tryz.prog (BINS .eql 5 (.tmp 65) (.tmp 66) v16 v19) fun v31 =>
 COND v31 (
 PURE Tryz.prog (BINS .add 3 (.tmp 68) (.tmp 69) next_8 per_10) fun v32 =>
 next1 at_7 v32 (.int .i64 0) per_10 w) (
 PURE Tryz.prog (BINS .add 3 (.tmp 37) (.const (.int .i64 1)) next_8 (.int .i64 1)) fun v33 =>
 next1 next_8 v33 (.int .i64 0) (.int .i64 1) w))))) (
 R (.tuple #[at_7, per_10]) w)) (.int .i64 0) (.int .i64 1) (.int .i64 0) (.int .i64 1) w)
theorem by_suffix_Max {b_1 turned_2 : Value} {R : Value → World → Prop} {w : World} (h : sh_suffix_Max b_1 turned_2 NOPE R w) : RET Tryz.prog 93 [b_1, turned_2] w R :=
  ⟨by kernel_rfl, calls_by [(5, [7, 8, 9, 10]), (22013, [52])] Tryz.func93 (by kernel_rfl) (by kernel_rfl) (by kernel_rfl) h⟩

def sh_shifts_Shifts_goes_1 (at_1 n_2 : Value) (E : List PanicEntry → World → Prop) (R : Value → World → Prop) (w : World) : Prop :=
 PURE Tryz.prog (NILS at_1) fun v3 =>
 RUN Tryz.prog (Instr.loadAt 3 v3) w fun v4 w =>
 PURE Tryz.prog (Builtin.min_ #[3, 3] 3 #[v4, n_2]) fun v5 =>
 PURE Tryz.prog (NILS at_1) fun v6 =>
 RUNU Tryz.prog (Instr.storeAt 3 v6 v5) w fun w =>
 R (.tuple #[]) w
theorem by_shifts_Shifts_goes_1 {at_1 n_2 : Value} {R : Value → World → Prop} {w : World} (h : sh_shifts_Shifts_goes_1 at_1 n_2 NOPE R w) : RET Tryz.prog 94 [at_1, n_2] w R :=
  ⟨by kernel_rfl, calls_by [] Tryz.func94 (by kernel_rfl) (by kernel_rfl) (by kernel_rfl) h⟩

def sh_trie_Trie_Find (t_1 b_2 : Value) (E : List PanicEntry → World → Prop) (R : Value → World → Prop) (w : World) : Prop :=
 CALL Tryz.prog 43 [t_1] w E fun v3 w =>
 PURE Tryz.prog (BINS .sub 3 (.tmp 9) (.const (.int .i64 1)) v3 (.int .i64 1)) fun v4 =>
 PURE Tryz.prog (Builtin.min_ #[3, 3] 3 #[(.int .i64 0), v4]) fun v5 =>
 PURE Tryz.prog (Builtin.len_ #[23] 3 #[b_2]) fun v6 =>
 LOOP2 (fun at_7 v8 w next1 =>
 PURE Tryz.prog (BINS .lss 3 (.tmp 14) (.tmp 13) v8 v6) fun v9 =>
 COND v9 (
 PURE Tryz.prog (Instr.indexAt 23 b_2 v8) fun v10 =>
 RUN Tryz.prog (Instr.loadAt 5 v10) w fun v11 w =>
 CALL Tryz.prog 64 [t_1, at_7, v11] w E fun v12 w =>
 PURE Tryz.prog (BINS .add 3 (.tmp 14) (.const (.int .i64 1)) v8 (.int .i64 1)) fun v13 =>
 next1 v12 v13 w) (
 R at_7 w)) v5 (.int .i64 0) w
theorem by_trie_Trie_Find {t_1 b_2 : Value} {R : Value → World → Prop} {w : World} (h : sh_trie_Trie_Find t_1 b_2 NOPE R w) : RET Tryz.prog 95 [t_1, b_2] w R :=
  ⟨by kernel_rfl, calls_by [(3, [5, 14])] Tryz.func95 (by kernel_rfl) (by kernel_rfl) (by kernel_rfl) h⟩

def sh_back_Back_Whole (b_1 node_2 : Value) (E : List PanicEntry → World → Prop) (R : Value → World → Prop) (w : World) : Prop :=
 PURE Tryz.prog (BINS .neq 115 (.tmp 5) (.const (.pointer Option.none)) b_1 (.pointer Option.none)) fun v3 =>
 COND v3 (
 PURE Tryz.prog (NILS b_1) fun v4 =>
 PURE Tryz.prog (Instr.fieldAt 154 v4 0) fun v5 =>
 RUN Tryz.prog (Instr.loadAt 90 v5) w fun v6 w =>
 CALL Tryz.prog 88 [v6, node_2] w E fun v7 w =>
 PURE Tryz.prog (BINS .geq 3 (.tmp 13) (.const (.int .i64 0)) v7 (.int .i64 0)) fun v8 =>
 R v8 w) (
 R (.bool false) w)
theorem by_back_Back_Whole {b_1 node_2 : Value} {R : Value → World → Prop} {w : World} (h : sh_back_Back_Whole b_1 node_2 NOPE R w) : RET Tryz.prog 96 [b_1, node_2] w R :=
  ⟨by kernel_rfl, calls_by [] Tryz.func96 (by kernel_rfl) (by kernel_rfl) (by kernel_rfl) h⟩

def sh_trie_Trie_Depth (t_1 node_2 : Value) (E : List PanicEntry → World → Prop) (R : Value → World → Prop) (w : World) : Prop :=
 CALL Tryz.prog 66 [t_1, node_2] w E fun v3 w =>
 PURE Tryz.prog (Op.unary .not v3) fun v4 =>
 COND v4 (
 R (.int .i64 0) w) (
 PURE Tryz.prog (NILS t_1) fun v5 =>
 PURE Tryz.prog (Instr.fieldAt 133 v5 0) fun v6 =>
 RUN Tryz.prog (Instr.loadAt 130 v6) w fun v7 w =>
 PURE Tryz.prog (Instr.indexAt 130 v7 node_2) fun v8 =>
 PURE Tryz.prog (Instr.fieldAt 129 v8 1) fun v9 =>
 RUN Tryz.prog (Instr.loadAt 3 v9) w fun v10 w =>
 R v10 w)
theorem by_trie_Trie_Depth {t_1 node_2 : Value} {R : Value → World → Prop} {w : World} (h : sh_trie_Trie_Depth t_1 node_2 NOPE R w) : RET Tryz.prog 97 [t_1, node_2] w R :=
  ⟨by kernel_rfl, calls_by [] Tryz.func97 (by kernel_rfl) (by kernel_rfl) (by kernel_rfl) h⟩

def sh_shifts_Shifts_Second (s_1 node_2 : Value) (E : List PanicEntry → World → Prop) (R : Value → World → Prop) (w : World) : Prop :=
 CALL Tryz.prog 103 [s_1, node_2] w E fun v3 w =>
 PURE Tryz.prog (Instr.index 159 v3 (.int .i64 1)) fun v4 =>
 R v4 w
theorem by_shifts_Shifts_Second {s_1 node_2 : Value} {R : Value → World → Prop} {w : World} (h : sh_shifts_Shifts_Second s_1 node_2 NOPE R w) : RET Tryz.prog 98 [s_1, node_2] w R :=
  ⟨by kernel_rfl, calls_by [] Tryz.func98 (by kernel_rfl) (by kernel_rfl) (by kernel_rfl) h⟩

def sh_shifts_Shifts_Far (s_1 node_2 c_3 : Value) (E : List PanicEntry → World → Prop) (R : Value → World → Prop) (w : World) : Prop :=
 CALL Tryz.prog 103 [s_1, node_2] w E fun v4 w =>
 RUN Tryz.prog (Instr.alloc 159 true (.tuple #[])) w fun two_5 w =>
 RUNU Tryz.prog (Instr.storeAt 159 two_5 v4) w fun w =>
 RUN Tryz.prog (Instr.loadAt 159 two_5) w fun v6 w =>
 PURE Tryz.prog (Instr.build 159 #[]) fun v7 =>
 PURE Tryz.prog (BINS .eql 159 (.tmp 13) (.tmp 14) v6 v7) fun v8 =>
 COND v8 (
 R (.int .i64 0) w) (
 PURE Tryz.prog (NILS s_1) fun v9 =>
 PURE Tryz.prog (Instr.fieldAt 158 v9 0) fun v10 =>
 RUN Tryz.prog (Instr.loadAt 115 v10) w fun v11 w =>
 CALL Tryz.prog 82 [v11] w E fun v12 w =>
 PURE Tryz.prog (BINS .add 3 (.tmp 20) (.const (.int .i64 1)) v12 (.int .i64 1)) fun v13 =>
 JOIN1 (fun J1 =>
 PURE Tryz.prog (NILS s_1) fun v14 =>
 PURE Tryz.prog (Instr.fieldAt 158 v14 0) fun v15 =>
 RUN Tryz.prog (Instr.loadAt 115 v15) w fun v16 w =>
 CALL Tryz.prog 104 [v16, c_3] w E fun v17 w =>
 PURE Tryz.prog (BINS .gtr 3 (.tmp 28) (.const (.int .i64 0)) v17 (.int .i64 0)) fun v18 =>
 COND v18 (
 PURE Tryz.prog (Builtin.min_ #[3, 3] 3 #[v13, v17]) fun v19 =>
 J1 v19 w) (
 J1 v13 w)) (fun k_20 w =>
 DRAW w fun S w =>
 PURE Tryz.prog (Instr.indexAt 159 two_5 (.int .i64 1)) fun v21 =>
 READ Tryz.prog S (Instr.loadAt 3 v21) w fun v22 =>
 PURE Tryz.prog (Instr.indexAt 159 two_5 (.int .i64 0)) fun v23 =>
 READ Tryz.prog S (Instr.loadAt 3 v23) w fun v24 =>
 PURE Tryz.prog (NILS s_1) fun v25 =>
 PURE Tryz.prog (Instr.fieldAt 158 v25 0) fun v26 =>
 READ Tryz.prog S (Instr.loadAt 115 v26) w fun v27 =>
 PURE Tryz.prog (NILS v27) fun v28 =>
 PURE Tryz.prog (Instr.fieldAt 154 v28 0) fun v29 =>
 READ Tryz.prog S (Instr.loadAt 90 v29) w fun v30 =>
 CALL Tryz.prog 97 [v30, node_2] w E fun v31 w =>
 KEEPS S w fun S =>
 PURE Tryz.prog (BINS .sub 3 (.tmp 37) (.tmp 46) k_20 v31) fun v32 =>
 PURE Tryz.prog (BINS .sub 3 (.tmp 47) (.const (.int .i64 1)) v32 (.int .i64 1)) fun v33 =>
 PURE Tryz.prog (Builtin.max_ #[3, 3] 3 #[v24, v33]) fun v34 =>
 PURE Tryz.prog (Builtin.min_ #[3, 3] 3 #[v22, v34]) fun v35 =>
 R v35 w))
theorem by_shifts_Shifts_Far {s_1 node_2 c_3 : Value} {R : Value → World → Prop} {w : World} (h : sh_shifts_Shifts_Far s_1 node_2 c_3 NOPE R w) : RET Tryz.prog 99 [s_1, node_2, c_3] w R :=
  ⟨by kernel_rfl, calls_by [(15008, [8])] Tryz.func99 (by kernel_rfl) (by kernel_rfl) (by kernel_rfl) h⟩

def sh_math_bits_Mul32 (x_1 y_2 : Value) (E : List PanicEntry → World → Prop) (R : Value → World → Prop) (w : World) : Prop :=
 PURE Tryz.prog (convert 175 140 x_1) fun v3 =>
 PURE Tryz.prog (convert 175 140 y_2) fun v4 =>
 PURE Tryz.prog (BINS .mul 140 (.tmp 8) (.tmp 10) v3 v4) fun v5 =>
 PURE Tryz.prog (BINS .shr 140 (.tmp 12) (.const (.int .u64 32)) v5 (.int .u64 32)) fun v6 =>
 PURE Tryz.prog (convert 140 175 v6) fun v7 =>
 PURE Tryz.prog (convert 140 175 v5) fun v8 =>
 R (.tuple #[v7, v8]) w
theorem by_math_bits_Mul32 {x_1 y_2 : Value} {R : Value → World → Prop} {w : World} (h : sh_math_bits_Mul32 x_1 y_2 NOPE R w) : RET Tryz.prog 100 [x_1, y_2] w R :=
  ⟨by kernel_rfl, calls_by [] Tryz.func100 (by kernel_rfl) (by kernel_rfl) (by kernel_rfl) h⟩

def sh_math_bits_Mul64 (x_1 y_2 : Value) (E : List PanicEntry → World → Prop) (R : Value → World → Prop) (w : World) : Prop :=
 PURE Tryz.prog (BINS .and 140 (.tmp 14) (.const (.int .u64 4294967295)) x_1 (.int .u64 4294967295)) fun v3 =>
 PURE Tryz.prog (BINS .shr 140 (.tmp 16) (.const (.int .u64 32)) x_1 (.int .u64 32)) fun v4 =>
 PURE Tryz.prog (BINS .and 140 (.tmp 18) (.const (.int .u64 4294967295)) y_2 (.int .u64 4294967295)) fun v5 =>
 PURE Tryz.prog (BINS .shr 140 (.tmp 20) (.const (.int .u64 32)) y_2 (.int .u64 32)) fun v6 =>
 PURE Tryz.prog (BINS .mul 140 (.tmp 22) (.tmp 23) v3 v5) fun v7 =>
 PURE Tryz.prog (BINS .mul 140 (.tmp 25) (.tmp 26) v4 v5) fun v8 =>
 PURE Tryz.prog (BINS .shr 140 (.tmp 28) (.const (.int .u64 32)) v7 (.int .u64 32)) fun v9 =>
 PURE Tryz.prog (BINS .add 140 (.tmp 27) (.tmp 29) v8 v9) fun v10 =>
 PURE Tryz.prog (BINS .and 140 (.tmp 31) (.const (.int .u64 4294967295)) v10 (.int .u64 4294967295)) fun v11 =>
 PURE Tryz.prog (BINS .shr 140 (.tmp 33) (.const (.int .u64 32)) v10 (.int .u64 32)) fun v12 =>
 PURE Tryz.prog (BINS .mul 140 (.tmp 36) (.tmp 37) v3 v6) fun v13 =>
 PURE Tryz.prog (BINS .add 140 (.tmp 35) (.tmp 38) v11 v13) fun v14 =>
 PURE Tryz.prog (BINS .mul 140 (.tmp 40) (.tmp 41) v4 v6) fun v15 =>
 PURE Tryz.prog (BINS .add 140 (.tmp 42) (.tmp 43) v15 v12) fun v16 =>
 PURE Tryz.prog (BINS .shr 140 (.tmp 45) (.const (.int .u64 32)) v14 (.int .u64 32)) fun v17 =>
 PURE Tryz.prog (BINS .add 140 (.tmp 44) (.tmp 46) v16 v17) fun v18 =>
 PURE Tryz.prog (BINS .mul 140 (.tmp 48) (.tmp 49) x_1 y_2) fun v19 =>
 R (.tuple #[v18, v19]) w
theorem by_math_bits_Mul64 {x_1 y_2 : Value} {R : Value → World → Prop} {w : World} (h : sh_math_bits_Mul64 x_1 y_2 NOPE R w) : RET Tryz.prog 101 [x_1, y_2] w R :=
  ⟨by kernel_rfl, calls_by [] Tryz.func101 (by kernel_rfl) (by kernel_rfl) (by kernel_rfl) h⟩

def sh_suffix_by (turned_1 : Value) (E : List PanicEntry → World → Prop) (R : Value → World → Prop) (w : World) : Prop :=
 RUN Tryz.prog (Instr.box 4 turned_1) w fun turned_2 w =>
 RUN Tryz.prog (Instr.alloc 182 true (.tuple #[])) w fun v3 w =>
 PURE Tryz.prog (Instr.makeFunc (Go.Fn.func 105) #[] #[turned_2]) fun v4 =>
 PURE Tryz.prog (Instr.build 182 #[(0, v4)]) fun v5 =>
 RUNU Tryz.prog (Instr.storeAt 182 v3 v5) w fun w =>
 LOADRES Tryz.prog 182 v3 w fun r => R r w
theorem by_suffix_by {turned_1 : Value} {R : Value → World → Prop} {w : World} (h : sh_suffix_by turned_1 NOPE R w) : RET Tryz.prog 102 [turned_1] w R :=
  ⟨by kernel_rfl, calls_by [] Tryz.func102 (by kernel_rfl) (by kernel_rfl) (by kernel_rfl) h⟩

def sh_shifts_Shifts_of (s_1 node_2 : Value) (E : List PanicEntry → World → Prop) (R : Value → World → Prop) (w : World) : Prop :=
 RUN Tryz.prog (Instr.alloc 159 true (.tuple #[])) w fun v3 w =>
 JOIN0 (fun J1 =>
 PURE Tryz.prog (BINS .eql 117 (.tmp 5) (.const (.pointer Option.none)) s_1 (.pointer Option.none)) fun v4 =>
 COND v4 (
 COND (.bool true) (
 PURE Tryz.prog (Instr.build 159 #[]) fun v5 =>
 RUNU Tryz.prog (Instr.storeAt 159 v3 v5) w fun w =>
 LOADRES Tryz.prog 159 v3 w fun r => R r w) (
 J1 w)) (
 PURE Tryz.prog (BINS .lss 3 (.tmp 8) (.const (.int .i64 0)) node_2 (.int .i64 0)) fun v6 =>
 COND v6 (
 COND (.bool true) (
 PURE Tryz.prog (Instr.build 159 #[]) fun v7 =>
 RUNU Tryz.prog (Instr.storeAt 159 v3 v7) w fun w =>
 LOADRES Tryz.prog 159 v3 w fun r => R r w) (
 J1 w)) (
 PURE Tryz.prog (NILS s_1) fun v8 =>
 PURE Tryz.prog (Instr.fieldAt 158 v8 1) fun v9 =>
 RUN Tryz.prog (Instr.loadAt 156 v9) w fun v10 w =>
 PURE Tryz.prog (Builtin.len_ #[156] 3 #[v10]) fun v11 =>
 PURE Tryz.prog (BINS .geq 3 (.tmp 12) (.tmp 17) node_2 v11) fun v12 =>
 COND v12 (
 PURE Tryz.prog (Instr.build 159 #[]) fun v13 =>
 RUNU Tryz.prog (Instr.storeAt 159 v3 v13) w fun w =>
 LOADRES Tryz.prog 159 v3 w fun r => R r w) (
 J1 w)))) (fun w =>
 PURE Tryz.prog (NILS s_1) fun v14 =>
 PURE Tryz.prog (Instr.fieldAt 158 v14 1) fun v15 =>
 RUN Tryz.prog (Instr.loadAt 156 v15) w fun v16 w =>
 PURE Tryz.prog (Instr.indexAt 156 v16 node_2) fun v17 =>
 RUN Tryz.prog (Instr.loadAt 159 v17) w fun v18 w =>
 RUNU Tryz.prog (Instr.storeAt 159 v3 v18) w fun w =>
 LOADRES Tryz.prog 159 v3 w fun r => R r w)
theorem by_shifts_Shifts_of {s_1 node_2 : Value} {R : Value → World → Prop} {w : World} (h : sh_shifts_Shifts_of s_1 node_2 NOPE R w) : RET Tryz.prog 103 [s_1, node_2] w R :=
  ⟨by kernel_rfl, calls_by [(11003, [])] Tryz.func103 (by kernel_rfl) (by kernel_rfl) (by kernel_rfl) h⟩

def sh_back_Back_Near (b_1 c_2 : Value) (E : List PanicEntry → World → Prop) (R : Value → World → Prop) (w : World) : Prop :=
 PURE Tryz.prog (BINS .eql 115 (.tmp 5) (.const (.pointer Option.none)) b_1 (.pointer Option.none)) fun v3 =>
 COND v3 (
 R (.int .i64 0) w) (
 PURE Tryz.prog (NILS b_1) fun v4 =>
 PURE Tryz.prog (Instr.fieldAt 154 v4 2) fun v5 =>
 PURE Tryz.prog (Instr.indexAt 101 v5 c_2) fun v6 =>
 RUN Tryz.prog (Instr.loadAt 3 v6) w fun v7 w =>
 R v7 w)
theorem by_back_Back_Near {b_1 c_2 : Value} {R : Value → World → Prop} {w : World} (h : sh_back_Back_Near b_1 c_2 NOPE R w) : RET Tryz.prog 104 [b_1, c_2] w R :=
  ⟨by kernel_rfl, calls_by [] Tryz.func104 (by kernel_rfl) (by kernel_rfl) (by kernel_rfl) h⟩

def sh_suffix_by_1 (a_1 b_2 v3 : Value) (E : List PanicEntry → World → Prop) (R : Value → World → Prop) (w : World) : Prop :=
 PURE Tryz.prog (BINS .neq 5 (.tmp 6) (.tmp 7) a_1 b_2) fun v4 =>
 COND v4 (
 PURE Tryz.prog (BINS .lss 5 (.tmp 10) (.tmp 11) a_1 b_2) fun v5 =>
 RUN Tryz.prog (Instr.loadAt 4 v3) w fun v6 w =>
 PURE Tryz.prog (BINS .neq 4 (.tmp 12) (.tmp 13) v5 v6) fun v7 =>
 R v7 w) (
 R (.bool false) w)
theorem by_suffix_by_1 {a_1 b_2 v3 : Value} {R : Value → World → Prop} {w : World} (h : sh_suffix_by_1 a_1 b_2 v3 NOPE R w) : RET Tryz.prog 105 [a_1, b_2, v3] w R :=
  ⟨by kernel_rfl, calls_by [] Tryz.func105 (by kernel_rfl) (by kernel_rfl) (by kernel_rfl) h⟩

def sh_sparse_Automaton_Scan (a_1 m_2 line_3 : Value) (E : List PanicEntry → World → Prop) (R : Value → World → Prop) (w : World) : Prop :=
 PURE Tryz.prog (BINS .eql 68 (.tmp 14) (.const (.pointer Option.none)) a_1 (.pointer Option.none)) fun v4 =>
 COND v4 (
 R (.slice Option.none 0 0) w) (
 DRAW w fun S w =>
 PURE Tryz.prog (NILS a_1) fun v5 =>
 PURE Tryz.prog (Instr.fieldAt 96 v5 2) fun v6 =>
 READ Tryz.prog S (Instr.loadAt 94 v6) w fun v7 =>
 CALL Tryz.prog 124 [m_2, line_3] w E fun v8 w =>
 KEEPS S w fun S =>
 CALL Tryz.prog 125 [m_2, v7] w E fun v9 w =>
 CALL Tryz.prog 126 [v8] w E fun v10 w =>
 LOOP3 (fun out_11 at_12 v13 w next1 =>
 PURE Tryz.prog (BINS .lss 3 (.tmp 27) (.tmp 26) v13 v10) fun v14 =>
 COND v14 (
 CALL Tryz.prog 128 [v8, v13] w E fun v15 w =>
 PURE Tryz.prog (convert 3 5 v15) fun v16 =>
 CALL Tryz.prog 127 [a_1, v9, at_12, v16] w E fun v17 w =>
 PURE Tryz.prog (NILS a_1) fun v18 =>
 PURE Tryz.prog (Instr.fieldAt 96 v18 1) fun v19 =>
 RUN Tryz.prog (Instr.loadAt 92 v19) w fun v20 w =>
 CALL Tryz.prog 129 [v20, v17] w E fun v21 w =>
 PURE Tryz.prog (Builtin.len_ #[105] 3 #[v21]) fun v22 =>
 LOOP2 (fun out_23 v24 w next2 =>
 PURE Tryz.prog (BINS .lss 3 (.tmp 45) (.tmp 44) v24 v22) fun v25 =>
 COND v25 (
 PURE Tryz.prog (Instr.indexAt 105 v21 v24) fun v26 =>
 RUN Tryz.prog (Instr.loadAt 3 v26) w fun v27 w =>
 PURE Tryz.prog (BINS .add 3 (.tmp 50) (.const (.int .i64 1)) v13 (.int .i64 1)) fun v28 =>
 PURE Tryz.prog (BINS .sub 3 (.tmp 51) (.tmp 52) v28 v27) fun v29 =>
 PURE Tryz.prog (BINS .add 3 (.tmp 54) (.const (.int .i64 1)) v13 (.int .i64 1)) fun v30 =>
 PURE Tryz.prog (Instr.build 57 #[(0, v29), (1, v30)]) fun v31 =>
 RUN Tryz.prog (Instr.buildSlice 37 1 #[(0, v31)]) w fun v32 w =>
 RUN Tryz.prog (Builtin.append_ #[37, 37] 37 #[out_23, v32]) w fun v33 w =>
 PURE Tryz.prog (BINS .add 3 (.tmp 45) (.const (.int .i64 1)) v24 (.int .i64 1)) fun v34 =>
 next2 v33 v34 w) (
 PURE Tryz.prog (BINS .add 3 (.tmp 27) (.const (.int .i64 1)) v13 (.int .i64 1)) fun v35 =>
 next1 out_23 v17 v35 w)) out_11 (.int .i64 0) w) (
 CALL Tryz.prog 55 [out_11] w E fun v36 w =>
 R v36 w)) (.slice Option.none 0 0) (.int .i64 0) (.int .i64 0) w)
theorem by_sparse_Automaton_Scan {a_1 m_2 line_3 : Value} {R : Value → World → Prop} {w : World} (h : sh_sparse_Automaton_Scan a_1 m_2 line_3 NOPE R w) : RET Tryz.prog 122 [a_1, m_2, line_3] w R :=
  ⟨by kernel_rfl, calls_by [(7, [9, 10, 27]), (11, [9, 45])] Tryz.func122 (by kernel_rfl) (by kernel_rfl) (by kernel_rfl) h⟩

def sh_meter_Meter_Text (m_1 b_2 : Value) (E : List PanicEntry → World → Prop) (R : Value → World → Prop) (w : World) : Prop :=
 CALL Tryz.prog 26 [b_2] w E fun v3 w =>
 PURE Tryz.prog (Instr.build 205 #[(0, m_1), (1, v3)]) fun v4 =>
 RUN Tryz.prog (Instr.box 205 v4) w fun v5 w =>
 R v5 w
theorem by_meter_Meter_Text {m_1 b_2 : Value} {R : Value → World → Prop} {w : World} (h : sh_meter_Meter_Text m_1 b_2 NOPE R w) : RET Tryz.prog 124 [m_1, b_2] w R :=
  ⟨by kernel_rfl, calls_by [] Tryz.func124 (by kernel_rfl) (by kernel_rfl) (by kernel_rfl) h⟩

def sh_meter_Meter_Sparse (m_1 l_2 : Value) (E : List PanicEntry → World → Prop) (R : Value → World → Prop) (w : World) : Prop :=
 RUN Tryz.prog (Instr.makeMap 206 none) w fun v3 w =>
 RUN Tryz.prog (Instr.alloc 206 true (.tuple #[])) w fun to_4 w =>
 RUNU Tryz.prog (Instr.storeAt 206 to_4 v3) w fun w =>
 PURE Tryz.prog (Builtin.len_ #[94] 3 #[l_2]) fun v5 =>
 LOOP1 (fun v6 w next1 =>
 PURE Tryz.prog (BINS .lss 3 (.tmp 11) (.tmp 10) v6 v5) fun v7 =>
 COND v7 (
 PURE Tryz.prog (Instr.indexAt 94 l_2 v6) fun v8 =>
 RUN Tryz.prog (Instr.loadAt 100 v8) w fun v9 w =>
 RUN Tryz.prog (Instr.alloc 100 true (.tuple #[])) w fun r_10 w =>
 RUNU Tryz.prog (Instr.storeAt 100 r_10 v9) w fun w =>
 RUN Tryz.prog (Instr.loadAt 206 to_4) w fun v11 w =>
 PURE Tryz.prog (Instr.fieldAt 100 r_10 0) fun v12 =>
 RUN Tryz.prog (Instr.loadAt 3 v12) w fun v13 w =>
 PURE Tryz.prog (Instr.fieldAt 100 r_10 1) fun v14 =>
 RUN Tryz.prog (Instr.loadAt 5 v14) w fun v15 w =>
 PURE Tryz.prog (Instr.build 208 #[(0, v13), (1, v15)]) fun v16 =>
 PURE Tryz.prog (Instr.fieldAt 100 r_10 2) fun v17 =>
 RUN Tryz.prog (Instr.loadAt 3 v17) w fun v18 w =>
 RUNU Tryz.prog (Instr.mapUpdate 206 v11 v16 v18) w fun w =>
 PURE Tryz.prog (BINS .add 3 (.tmp 11) (.const (.int .i64 1)) v6 (.int .i64 1)) fun v19 =>
 next1 v19 w) (
 PURE Tryz.prog (Instr.makeFunc (Go.Fn.func 130) #[] #[to_4]) fun v20 =>
 PURE Tryz.prog (Instr.build 211 #[(0, m_1), (1, v20)]) fun v21 =>
 RUN Tryz.prog (Instr.box 211 v21) w fun v22 w =>
 R v22 w)) (.int .i64 0) w
theorem by_meter_Meter_Sparse {m_1 l_2 : Value} {R : Value → World → Prop} {w : World} (h : sh_meter_Meter_Sparse m_1 l_2 NOPE R w) : RET Tryz.prog 125 [m_1, l_2] w R :=
  ⟨by kernel_rfl, calls_by [(3, [11])] Tryz.func125 (by kernel_rfl) (by kernel_rfl) (by kernel_rfl) h⟩

def sh_meter_Text_Len (t_1 : Value) (E : List PanicEntry → World → Prop) (R : Value → World → Prop) (w : World) : Prop :=
 PURE Tryz.prog (BINS .eql 199 (.tmp 3) (.const (.pointer Option.none)) t_1 (.pointer Option.none)) fun v2 =>
 COND v2 (
 R (.int .i64 0) w) (
 PURE Tryz.prog (NILS t_1) fun v3 =>
 PURE Tryz.prog (Instr.fieldAt 205 v3 1) fun v4 =>
 RUN Tryz.prog (Instr.loadAt 23 v4) w fun v5 w =>
 PURE Tryz.prog (Builtin.len_ #[23] 3 #[v5]) fun v6 =>
 R v6 w)
theorem by_meter_Text_Len {t_1 : Value} {R : Value → World → Prop} {w : World} (h : sh_meter_Text_Len t_1 NOPE R w) : RET Tryz.prog 126 [t_1] w R :=
  ⟨by kernel_rfl, calls_by [] Tryz.func126 (by kernel_rfl) (by kernel_rfl) (by kernel_rfl) h⟩

def sh_sparse_Automaton_step (a_1 edges_2 state_3 c_4 : Value) (E : List PanicEntry → World → Prop) (R : Value → World → Prop) (w : World) : Prop :=
 LOOP1 (fun state_5 w next1 =>
 CALL Tryz.prog 131 [edges_2, state_5, c_4] w E fun v6 w =>
 JOIN1 (fun J2 =>
 PURE Tryz.prog (BINS .lss 3 (.tmp 14) (.const (.int .i64 0)) v6 (.int .i64 0)) fun v7 =>
 COND v7 (
 PURE Tryz.prog (BINS .gtr 3 (.tmp 17) (.const (.int .i64 0)) state_5 (.int .i64 0)) fun v8 =>
 J2 v8 w) (
 J2 (.bool false) w)) (fun v9 w =>
 COND v9 (
 PURE Tryz.prog (NILS a_1) fun v10 =>
 PURE Tryz.prog (Instr.fieldAt 96 v10 1) fun v11 =>
 RUN Tryz.prog (Instr.loadAt 92 v11) w fun v12 w =>
 CALL Tryz.prog 74 [v12, state_5] w E fun v13 w =>
 next1 v13 w) (
 PURE Tryz.prog (Builtin.max_ #[3, 3] 3 #[v6, (.int .i64 0)]) fun v14 =>
 R v14 w))) state_3 w
theorem by_sparse_Automaton_step {a_1 edges_2 state_3 c_4 : Value} {R : Value → World → Prop} {w : World} (h : sh_sparse_Automaton_step a_1 edges_2 state_3 c_4 NOPE R w) : RET Tryz.prog 127 [a_1, edges_2, state_3, c_4] w R :=
  ⟨by kernel_rfl, calls_by [(1000, [2]), (12003, [19])] Tryz.func127 (by kernel_rfl) (by kernel_rfl) (by kernel_rfl) h⟩

def sh_meter_Text_At (t_1 i_2 : Value) (E : List PanicEntry → World → Prop) (R : Value → World → Prop) (w : World) : Prop :=
 JOIN0 (fun J1 =>
 PURE Tryz.prog (BINS .lss 3 (.tmp 5) (.const (.int .i64 0)) i_2 (.int .i64 0)) fun v3 =>
 COND v3 (
 COND (.bool true) (
 R (.int .i64 (-1)) w) (
 J1 w)) (
 CALL Tryz.prog 126 [t_1] w E fun v4 w =>
 PURE Tryz.prog (BINS .geq 3 (.tmp 8) (.tmp 10) i_2 v4) fun v5 =>
 COND v5 (
 R (.int .i64 (-1)) w) (
 J1 w))) (fun w =>
 PURE Tryz.prog (NILS t_1) fun v6 =>
 PURE Tryz.prog (Instr.fieldAt 205 v6 0) fun v7 =>
 RUN Tryz.prog (Instr.loadAt 46 v7) w fun v8 w =>
 CALL Tryz.prog 132 [v8] w E fun v9 w =>
 PURE Tryz.prog (NILS v9) fun v10 =>
 PURE Tryz.prog (Instr.fieldAt 49 v10 0) fun v11 =>
 RUN Tryz.prog (Instr.loadAt 3 v11) w fun v12 w =>
 PURE Tryz.prog (BINS .add 3 (.tmp 20) (.const (.int .i64 1)) v12 (.int .i64 1)) fun v13 =>
 PURE Tryz.prog (NILS v9) fun v14 =>
 PURE Tryz.prog (Instr.fieldAt 49 v14 0) fun v15 =>
 RUNU Tryz.prog (Instr.storeAt 3 v15 v13) w fun w =>
 PURE Tryz.prog (NILS t_1) fun v16 =>
 PURE Tryz.prog (Instr.fieldAt 205 v16 1) fun v17 =>
 RUN Tryz.prog (Instr.loadAt 23 v17) w fun v18 w =>
 PURE Tryz.prog (Instr.indexAt 23 v18 i_2) fun v19 =>
 RUN Tryz.prog (Instr.loadAt 5 v19) w fun v20 w =>
 PURE Tryz.prog (convert 5 3 v20) fun v21 =>
 R v21 w)
theorem by_meter_Text_At {t_1 i_2 : Value} {R : Value → World → Prop} {w : World} (h : sh_meter_Text_At t_1 i_2 NOPE R w) : RET Tryz.prog 128 [t_1, i_2] w R :=
  ⟨by kernel_rfl, calls_by [(11003, [])] Tryz.func128 (by kernel_rfl) (by kernel_rfl) (by kernel_rfl) h⟩

def sh_links_Links_Ends (l_1 node_2 : Value) (E : List PanicEntry → World → Prop) (R : Value → World → Prop) (w : World) : Prop :=
 LOOP2 (fun node_3 out_4 w next1 =>
 CALL Tryz.prog 92 [l_1, node_3] w E fun v5 w =>
 COND v5 (
 JOIN1 (fun J2 =>
 PURE Tryz.prog (NILS l_1) fun v6 =>
 PURE Tryz.prog (Instr.fieldAt 137 v6 2) fun v7 =>
 RUN Tryz.prog (Instr.loadAt 105 v7) w fun v8 w =>
 PURE Tryz.prog (Instr.indexAt 105 v8 node_3) fun v9 =>
 RUN Tryz.prog (Instr.loadAt 3 v9) w fun v10 w =>
 PURE Tryz.prog (BINS .gtr 3 (.tmp 15) (.const (.int .i64 0)) v10 (.int .i64 0)) fun v11 =>
 COND v11 (
 PURE Tryz.prog (NILS l_1) fun v12 =>
 PURE Tryz.prog (Instr.fieldAt 137 v12 2) fun v13 =>
 RUN Tryz.prog (Instr.loadAt 105 v13) w fun v14 w =>
 PURE Tryz.prog (Instr.indexAt 105 v14 node_3) fun v15 =>
 RUN Tryz.prog (Instr.loadAt 3 v15) w fun v16 w =>
 RUN Tryz.prog (Instr.buildSlice 105 1 #[(0, v16)]) w fun v17 w =>
 RUN Tryz.prog (Builtin.append_ #[105, 105] 105 #[out_4, v17]) w fun v18 w =>
 J2 v18 w) (
 J2 out_4 w)) (fun out_19 w =>
 PURE Tryz.prog (NILS l_1) fun v20 =>
 PURE Tryz.prog (Instr.fieldAt 137 v20 1) fun v21 =>
 RUN Tryz.prog (Instr.loadAt 105 v21) w fun v22 w =>
 PURE Tryz.prog (Instr.indexAt 105 v22 node_3) fun v23 =>
 RUN Tryz.prog (Instr.loadAt 3 v23) w fun v24 w =>
 next1 v24 out_19 w)) (
 R out_4 w)) node_2 (.slice Option.none 0 0) w
theorem by_links_Links_Ends {l_1 node_2 : Value} {R : Value → World → Prop} {w : World} (h : sh_links_Links_Ends l_1 node_2 NOPE R w) : RET Tryz.prog 129 [l_1, node_2] w R :=
  ⟨by kernel_rfl, calls_by [(2, [1, 5]), (13005, [5])] Tryz.func129 (by kernel_rfl) (by kernel_rfl) (by kernel_rfl) h⟩

def sh_meter_Meter_Sparse_1 (e_1 v2 : Value) (E : List PanicEntry → World → Prop) (R : Value → World → Prop) (w : World) : Prop :=
 RUN Tryz.prog (Instr.box 208 e_1) w fun e_3 w =>
 RUN Tryz.prog (Instr.loadAt 206 v2) w fun v4 w =>
 RUN Tryz.prog (Instr.loadAt 208 e_3) w fun v5 w =>
 RUN Tryz.prog (Instr.lookup 206 v4 v5 Bool.true) w fun v6 w =>
 PURE Tryz.prog (Instr.extract v6 0) fun v7 =>
 PURE Tryz.prog (Instr.extract v6 1) fun v8 =>
 COND v8 (
 R v7 w) (
 R (.int .i64 (-1)) w)
theorem by_meter_Meter_Sparse_1 {e_1 v2 : Value} {R : Value → World → Prop} {w : World} (h : sh_meter_Meter_Sparse_1 e_1 v2 NOPE R w) : RET Tryz.prog 130 [e_1, v2] w R :=
  ⟨by kernel_rfl, calls_by [] Tryz.func130 (by kernel_rfl) (by kernel_rfl) (by kernel_rfl) h⟩

def sh_meter_Table_Look (t_1 state_2 c_3 : Value) (E : List PanicEntry → World → Prop) (R : Value → World → Prop) (w : World) : Prop :=
 PURE Tryz.prog (BINS .eql 201 (.tmp 7) (.const (.pointer Option.none)) t_1 (.pointer Option.none)) fun v4 =>
 COND v4 (
 R (.int .i64 (-1)) w) (
 PURE Tryz.prog (NILS t_1) fun v5 =>
 PURE Tryz.prog (Instr.fieldAt 211 v5 0) fun v6 =>
 RUN Tryz.prog (Instr.loadAt 46 v6) w fun v7 w =>
 CALL Tryz.prog 132 [v7] w E fun v8 w =>
 PURE Tryz.prog (NILS v8) fun v9 =>
 PURE Tryz.prog (Instr.fieldAt 49 v9 1) fun v10 =>
 RUN Tryz.prog (Instr.loadAt 3 v10) w fun v11 w =>
 PURE Tryz.prog (BINS .add 3 (.tmp 16) (.const (.int .i64 1)) v11 (.int .i64 1)) fun v12 =>
 PURE Tryz.prog (NILS v8) fun v13 =>
 PURE Tryz.prog (Instr.fieldAt 49 v13 1) fun v14 =>
 RUNU Tryz.prog (Instr.storeAt 3 v14 v12) w fun w =>
 PURE Tryz.prog (NILS t_1) fun v15 =>
 PURE Tryz.prog (Instr.fieldAt 211 v15 1) fun v16 =>
 RUN Tryz.prog (Instr.loadAt 209 v16) w fun v17 w =>
 PURE Tryz.prog (Instr.build 208 #[(0, state_2), (1, c_3)]) fun v18 =>
 CALLV Tryz.prog v17 [v18] w E fun v19 w =>
 R v19 w)
theorem by_meter_Table_Look {t_1 state_2 c_3 : Value} {R : Value → World → Prop} {w : World} (h : sh_meter_Table_Look t_1 state_2 c_3 NOPE R w) : RET Tryz.prog 131 [t_1, state_2, c_3] w R :=
  ⟨by kernel_rfl, calls_by [] Tryz.func131 (by kernel_rfl) (by kernel_rfl) (by kernel_rfl) h⟩

def sh_meter_Meter_count (m_1 : Value) (E : List PanicEntry → World → Prop) (R : Value → World → Prop) (w : World) : Prop :=
 PURE Tryz.prog (BINS .eql 46 (.tmp 3) (.const (.pointer Option.none)) m_1 (.pointer Option.none)) fun v2 =>
 COND v2 (
 PURE Tryz.prog (Instr.build 49 #[]) fun v3 =>
 RUN Tryz.prog (Instr.box 49 v3) w fun v4 w =>
 R v4 w) (
 PURE Tryz.prog (NILS m_1) fun v5 =>
 PURE Tryz.prog (Instr.fieldAt 86 v5 0) fun v6 =>
 R v6 w)
theorem by_meter_Meter_count {m_1 : Value} {R : Value → World → Prop} {w : World} (h : sh_meter_Meter_count m_1 NOPE R w) : RET Tryz.prog 132 [m_1] w R :=
  ⟨by kernel_rfl, calls_by [] Tryz.func132 (by kernel_rfl) (by kernel_rfl) (by kernel_rfl) h⟩

def sh_dfa_DFA_Scan (d_1 m_2 line_3 : Value) (E : List PanicEntry → World → Prop) (R : Value → World → Prop) (w : World) : Prop :=
 PURE Tryz.prog (BINS .eql 70 (.tmp 14) (.const (.pointer Option.none)) d_1 (.pointer Option.none)) fun v4 =>
 COND v4 (
 R (.slice Option.none 0 0) w) (
 DRAW w fun S w =>
 PURE Tryz.prog (NILS d_1) fun v5 =>
 PURE Tryz.prog (Instr.fieldAt 107 v5 2) fun v6 =>
 READ Tryz.prog S (Instr.loadAt 103 v6) w fun v7 =>
 PURE Tryz.prog (NILS d_1) fun v8 =>
 PURE Tryz.prog (Instr.fieldAt 107 v8 2) fun v9 =>
 READ Tryz.prog S (Instr.loadAt 103 v9) w fun v10 =>
 PURE Tryz.prog (NILS d_1) fun v11 =>
 PURE Tryz.prog (Instr.fieldAt 107 v11 3) fun v12 =>
 READ Tryz.prog S (Instr.loadAt 105 v12) w fun v13 =>
 CALL Tryz.prog 124 [m_2, line_3] w E fun v14 w =>
 KEEPS S w fun S =>
 CALL Tryz.prog 135 [v7] w E fun v15 w =>
 KEEPS S w fun S =>
 CALL Tryz.prog 71 [v10] w E fun v16 w =>
 KEEPS S w fun S =>
 CALL Tryz.prog 134 [m_2, v15, v16, v13] w E fun v17 w =>
 CALL Tryz.prog 126 [v14] w E fun v18 w =>
 LOOP3 (fun out_19 at_20 v21 w next1 =>
 PURE Tryz.prog (BINS .lss 3 (.tmp 37) (.tmp 36) v21 v18) fun v22 =>
 COND v22 (
 CALL Tryz.prog 128 [v14, v21] w E fun v23 w =>
 PURE Tryz.prog (convert 3 5 v23) fun v24 =>
 CALL Tryz.prog 131 [v17, at_20, v24] w E fun v25 w =>
 PURE Tryz.prog (NILS d_1) fun v26 =>
 PURE Tryz.prog (Instr.fieldAt 107 v26 1) fun v27 =>
 RUN Tryz.prog (Instr.loadAt 92 v27) w fun v28 w =>
 CALL Tryz.prog 129 [v28, v25] w E fun v29 w =>
 PURE Tryz.prog (Builtin.len_ #[105] 3 #[v29]) fun v30 =>
 LOOP2 (fun out_31 v32 w next2 =>
 PURE Tryz.prog (BINS .lss 3 (.tmp 54) (.tmp 53) v32 v30) fun v33 =>
 COND v33 (
 PURE Tryz.prog (Instr.indexAt 105 v29 v32) fun v34 =>
 RUN Tryz.prog (Instr.loadAt 3 v34) w fun v35 w =>
 PURE Tryz.prog (BINS .add 3 (.tmp 59) (.const (.int .i64 1)) v21 (.int .i64 1)) fun v36 =>
 PURE Tryz.prog (BINS .sub 3 (.tmp 60) (.tmp 61) v36 v35) fun v37 =>
 PURE Tryz.prog (BINS .add 3 (.tmp 63) (.const (.int .i64 1)) v21 (.int .i64 1)) fun v38 =>
 PURE Tryz.prog (Instr.build 57 #[(0, v37), (1, v38)]) fun v39 =>
 RUN Tryz.prog (Instr.buildSlice 37 1 #[(0, v39)]) w fun v40 w =>
 RUN Tryz.prog (Builtin.append_ #[37, 37] 37 #[out_31, v40]) w fun v41 w =>
 PURE Tryz.prog (BINS .add 3 (.tmp 54) (.const (.int .i64 1)) v32 (.int .i64 1)) fun v42 =>
 next2 v41 v42 w) (
 PURE Tryz.prog (BINS .add 3 (.tmp 37) (.const (.int .i64 1)) v21 (.int .i64 1)) fun v43 =>
 next1 out_31 v25 v43 w)) out_19 (.int .i64 0) w) (
 CALL Tryz.prog 55 [out_19] w E fun v44 w =>
 R v44 w)) (.slice Option.none 0 0) (.int .i64 0) (.int .i64 0) w)
theorem by_dfa_DFA_Scan {d_1 m_2 line_3 : Value} {R : Value → World → Prop} {w : World} (h : sh_dfa_DFA_Scan d_1 m_2 line_3 NOPE R w) : RET Tryz.prog 133 [d_1, m_2, line_3] w R :=
  ⟨by kernel_rfl, calls_by [(7, [9, 10, 37]), (11, [9, 54])] Tryz.func133 (by kernel_rfl) (by kernel_rfl) (by kernel_rfl) h⟩

def sh_meter_Meter_Dense (m_1 class_2 width_3 next_4 : Value) (E : List PanicEntry → World → Prop) (R : Value → World → Prop) (w : World) : Prop :=
 RUN Tryz.prog (Instr.box 101 class_2) w fun class_5 w =>
 RUN Tryz.prog (Instr.box 3 width_3) w fun width_6 w =>
 RUN Tryz.prog (Instr.box 105 next_4) w fun next_7 w =>
 RUN Tryz.prog (Instr.loadAt 105 next_7) w fun v8 w =>
 CALL Tryz.prog 91 [v8] w E fun v9 w =>
 RUNU Tryz.prog (Instr.storeAt 105 next_7 v9) w fun w =>
 PURE Tryz.prog (Instr.makeFunc (Go.Fn.func 136) #[] #[class_5, width_6, next_7]) fun v10 =>
 PURE Tryz.prog (Instr.build 211 #[(0, m_1), (1, v10)]) fun v11 =>
 RUN Tryz.prog (Instr.box 211 v11) w fun v12 w =>
 R v12 w
theorem by_meter_Meter_Dense {m_1 class_2 width_3 next_4 : Value} {R : Value → World → Prop} {w : World} (h : sh_meter_Meter_Dense m_1 class_2 width_3 next_4 NOPE R w) : RET Tryz.prog 134 [m_1, class_2, width_3, next_4] w R :=
  ⟨by kernel_rfl, calls_by [] Tryz.func134 (by kernel_rfl) (by kernel_rfl) (by kernel_rfl) h⟩

def sh_classes_Classes_Table (c_1 : Value) (E : List PanicEntry → World → Prop) (R : Value → World → Prop) (w : World) : Prop :=
 RUN Tryz.prog (Instr.box 103 c_1) w fun c_2 w =>
 RUN Tryz.prog (Instr.alloc 101 true (.tuple #[])) w fun v3 w =>
 PURE Tryz.prog (Instr.fieldAt 103 c_2 0) fun v4 =>
 RUN Tryz.prog (Instr.loadAt 101 v4) w fun v5 w =>
 RUNU Tryz.prog (Instr.storeAt 101 v3 v5) w fun w =>
 LOADRES Tryz.prog 101 v3 w fun r => R r w
theorem by_classes_Classes_Table {c_1 : Value} {R : Value → World → Prop} {w : World} (h : sh_classes_Classes_Table c_1 NOPE R w) : RET Tryz.prog 135 [c_1] w R :=
  ⟨by kernel_rfl, calls_by [] Tryz.func135 (by kernel_rfl) (by kernel_rfl) (by kernel_rfl) h⟩

def sh_meter_Meter_Dense_1 (e_1 v2 v3 v4 : Value) (E : List PanicEntry → World → Prop) (R : Value → World → Prop) (w : World) : Prop :=
 RUN Tryz.prog (Instr.box 208 e_1) w fun e_5 w =>
 PURE Tryz.prog (Instr.fieldAt 208 e_5 1) fun v6 =>
 RUN Tryz.prog (Instr.loadAt 5 v6) w fun v7 w =>
 PURE Tryz.prog (Instr.indexAt 101 v2 v7) fun v8 =>
 RUN Tryz.prog (Instr.loadAt 3 v8) w fun v9 w =>
 JOIN0 (fun J1 =>
 DRAWQ w fun S w =>
 PURE Tryz.prog (Instr.fieldAt 208 e_5 0) fun v10 =>
 READ Tryz.prog S (Instr.loadAt 3 v10) w fun v11 =>
 PURE Tryz.prog (BINS .lss 3 (.tmp 12) (.const (.int .i64 0)) v11 (.int .i64 0)) fun v12 =>
 COND v12 (
 COND (.bool true) (
 R (.int .i64 (-1)) w) (
 J1 w)) (
 PURE Tryz.prog (BINS .lss 3 (.tmp 15) (.const (.int .i64 0)) v9 (.int .i64 0)) fun v13 =>
 COND v13 (
 COND (.bool true) (
 R (.int .i64 (-1)) w) (
 J1 w)) (
 READ Tryz.prog S (Instr.loadAt 3 v3) w fun v14 =>
 PURE Tryz.prog (BINS .geq 3 (.tmp 19) (.tmp 20) v9 v14) fun v15 =>
 COND v15 (
 COND (.bool true) (
 R (.int .i64 (-1)) w) (
 J1 w)) (
 READ Tryz.prog S (Instr.loadAt 105 v4) w fun v16 =>
 PURE Tryz.prog (Builtin.len_ #[105] 3 #[v16]) fun v17 =>
 PURE Tryz.prog (BINS .geq 3 (.tmp 24) (.tmp 26) v9 v17) fun v18 =>
 COND v18 (
 COND (.bool true) (
 R (.int .i64 (-1)) w) (
 J1 w)) (
 PURE Tryz.prog (Instr.fieldAt 208 e_5 0) fun v19 =>
 READ Tryz.prog S (Instr.loadAt 3 v19) w fun v20 =>
 READ Tryz.prog S (Instr.loadAt 105 v4) w fun v21 =>
 PURE Tryz.prog (Builtin.len_ #[105] 3 #[v21]) fun v22 =>
 PURE Tryz.prog (BINS .sub 3 (.tmp 33) (.const (.int .i64 1)) v22 (.int .i64 1)) fun v23 =>
 PURE Tryz.prog (BINS .sub 3 (.tmp 34) (.tmp 35) v23 v9) fun v24 =>
 READ Tryz.prog S (Instr.loadAt 3 v3) w fun v25 =>
 PURE Tryz.prog (BINS .quo 3 (.tmp 36) (.tmp 37) v24 v25) fun v26 =>
 PURE Tryz.prog (BINS .gtr 3 (.tmp 31) (.tmp 38) v20 v26) fun v27 =>
 COND v27 (
 R (.int .i64 (-1)) w) (
 J1 w)))))) (fun w =>
 RUN Tryz.prog (Instr.loadAt 105 v4) w fun v28 w =>
 PURE Tryz.prog (Instr.fieldAt 208 e_5 0) fun v29 =>
 RUN Tryz.prog (Instr.loadAt 3 v29) w fun v30 w =>
 RUN Tryz.prog (Instr.loadAt 3 v3) w fun v31 w =>
 PURE Tryz.prog (BINS .mul 3 (.tmp 43) (.tmp 44) v30 v31) fun v32 =>
 PURE Tryz.prog (BINS .add 3 (.tmp 45) (.tmp 46) v32 v9) fun v33 =>
 PURE Tryz.prog (Instr.indexAt 105 v28 v33) fun v34 =>
 RUN Tryz.prog (Instr.loadAt 3 v34) w fun v35 w =>
 R v35 w)
theorem by_meter_Meter_Dense_1 {e_1 v2 v3 v4 : Value} {R : Value → World → Prop} {w : World} (h : sh_meter_Meter_Dense_1 e_1 v2 v3 v4 NOPE R w) : RET Tryz.prog 136 [e_1, v2, v3, v4] w R :=
  ⟨by kernel_rfl, calls_by [(12004, [])] Tryz.func136 (by kernel_rfl) (by kernel_rfl) (by kernel_rfl) h⟩

def sh_engine_quiet_Scan (q_1 v2 line_3 : Value) (E : List PanicEntry → World → Prop) (R : Value → World → Prop) (w : World) : Prop :=
 RUN Tryz.prog (Instr.box 78 q_1) w fun q_4 w =>
 PURE Tryz.prog (Instr.fieldAt 78 q_4 0) fun v5 =>
 RUN Tryz.prog (Instr.loadAt 76 v5) w fun v6 w =>
 CALLV Tryz.prog v6 [line_3] w E fun v7 w =>
 R v7 w
theorem by_engine_quiet_Scan {q_1 v2 line_3 : Value} {R : Value → World → Prop} {w : World} (h : sh_engine_quiet_Scan q_1 v2 line_3 NOPE R w) : RET Tryz.prog 137 [q_1, v2, line_3] w R :=
  ⟨by kernel_rfl, calls_by [] Tryz.func137 (by kernel_rfl) (by kernel_rfl) (by kernel_rfl) h⟩
end Go.Proofs.YtgjfhmahiiokeaaGreat.Y
