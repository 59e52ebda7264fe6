import Derived.Test.YtopdjdkkhpkmiaaLib
import Derived.Test.YtopdjdkkhpkmiaaProg
import Derived.KernelRfl
set_option linter.unusedVariables false
set_option maxRecDepth 100000
namespace Go.Proofs.Ytopdjdkkhpkmiaa.Y
open Go Go.Sx
def sh_seinelaw10_DfaClasses (l_1 state_2 a_3 b_4 : Value) (E : List PanicEntry → World → Prop) (R : Value → World → Prop) (w : World) : Prop :=
 CALL Try.prog 9 [] w E fun v5 w =>
 PURE Try.prog (Op.unary .not v5) fun v6 =>
 COND v6 (
 R (.bool Bool.false) w) (
 CALL Try.prog 10 [l_1] w E fun v7 w =>
 PURE Try.prog (Instr.extract v7 0) fun v8 =>
 PURE Try.prog (Instr.extract v7 1) fun v9 =>
 PURE Try.prog (Op.unary .not v9) fun v10 =>
 COND v10 (
 R (.bool Bool.true) w) (
 CALL Try.prog 11 [l_1] w E fun v11 w =>
 PURE Try.prog (Instr.extract v11 0) fun v12 =>
 PURE Try.prog (Instr.extract v11 1) fun v13 =>
 PURE Try.prog (BINS .neq 28 (.tmp 32) (.const (.int .i64 0)) v13 (.int .i64 0)) fun v14 =>
 COND v14 (
 PURE Try.prog (BINS .eql 27 (.tmp 34) (.const (.pointer Option.none)) v12 (.pointer Option.none)) fun v15 =>
 R v15 w) (
 CALL Try.prog 12 [l_1] w E fun v16 w =>
 RUN Try.prog (Instr.alloc 33 true (.tuple #[])) w fun c_17 w =>
 RUNU Try.prog (Instr.storeAt 33 c_17 v16) w fun w =>
 CALL Try.prog 13 [v12, state_2, a_3] w E fun v18 w =>
 CALL Try.prog 13 [v12, state_2, b_4] w E fun v19 w =>
 JOIN0 (fun J1 =>
 PURE Try.prog (BINS .lss 3 (.tmp 46) (.const (.int .i64 0)) state_2 (.int .i64 0)) fun v20 =>
 COND v20 (
 PURE Try.prog (PICKS (.bool true) (.bool Bool.true) undef) fun v21 =>
 COND v21 (
 PURE Try.prog (BINS .eql 3 (.tmp 54) (.const (.int .i64 (-1))) v18 (.int .i64 (-1))) fun v22 =>
 COND v22 (
 PURE Try.prog (BINS .eql 3 (.tmp 57) (.const (.int .i64 (-1))) v19 (.int .i64 (-1))) fun v23 =>
 PURE Try.prog (PICKS (.bool true) v23 (.bool Bool.false)) fun v24 =>
 R v24 w) (
 PURE Try.prog (PICKS (.bool false) undef (.bool Bool.false)) fun v25 =>
 R v25 w)) (
 J1 w)) (
 CALL Try.prog 14 [v12] w E fun v26 w =>
 PURE Try.prog (BINS .geq 3 (.tmp 49) (.tmp 51) state_2 v26) fun v27 =>
 PURE Try.prog (PICKS (.bool false) (.bool Bool.true) v27) fun v28 =>
 COND v28 (
 PURE Try.prog (BINS .eql 3 (.tmp 54) (.const (.int .i64 (-1))) v18 (.int .i64 (-1))) fun v29 =>
 COND v29 (
 PURE Try.prog (BINS .eql 3 (.tmp 57) (.const (.int .i64 (-1))) v19 (.int .i64 (-1))) fun v30 =>
 PURE Try.prog (PICKS (.bool true) v30 (.bool Bool.false)) fun v31 =>
 R v31 w) (
 PURE Try.prog (PICKS (.bool false) undef (.bool Bool.false)) fun v32 =>
 R v32 w)) (
 J1 w))) (fun w =>
 DRAW w fun S w =>
 READ Try.prog S (Instr.loadAt 33 c_17) w fun v33 =>
 READ Try.prog S (Instr.loadAt 33 c_17) w fun v34 =>
 CALL Try.prog 15 [v33, a_3] w E fun v35 w =>
 KEEPS S w fun S =>
 CALL Try.prog 15 [v34, b_4] w E fun v36 w =>
 KEEPS S w fun S =>
 PURE Try.prog (BINS .neq 3 (.tmp 62) (.tmp 65) v35 v36) fun v37 =>
 COND v37 (
 PURE Try.prog (PICKS (.bool true) (.bool Bool.true) undef) fun v38 =>
 COND v38 (
 READ Try.prog S (Instr.loadAt 33 c_17) w fun v39 =>
 CALL Try.prog 15 [v39, a_3] w E fun v40 w =>
 KEEPS S w fun S =>
 PURE Try.prog (BINS .neq 3 (.tmp 75) (.const (.int .i64 0)) v40 (.int .i64 0)) fun v41 =>
 COND v41 (
 PURE Try.prog (PICKS (.bool true) (.bool Bool.true) undef) fun v42 =>
 PURE Try.prog (PICKS (.bool true) v42 (.bool Bool.false)) fun v43 =>
 COND v43 (
 PURE Try.prog (BINS .geq 3 (.tmp 83) (.const (.int .i64 0)) v18 (.int .i64 0)) fun v44 =>
 PURE Try.prog (PICKS (.bool true) v44 (.bool Bool.false)) fun v45 =>
 COND v45 (
 CALL Try.prog 14 [v12] w E fun v46 w =>
 KEEPS S w fun S =>
 PURE Try.prog (BINS .lss 3 (.tmp 87) (.tmp 89) v18 v46) fun v47 =>
 PURE Try.prog (PICKS (.bool true) v47 (.bool Bool.false)) fun v48 =>
 COND v48 (
 READ Try.prog S (Instr.loadAt 33 c_17) w fun v49 =>
 CALL Try.prog 16 [v12] w E fun v50 w =>
 KEEPS S w fun S =>
 CALL Try.prog 17 [v49] w E fun v51 w =>
 KEEPS S w fun S =>
 PURE Try.prog (BINS .eql 3 (.tmp 94) (.tmp 96) v50 v51) fun v52 =>
 PURE Try.prog (PICKS (.bool true) v52 (.bool Bool.false)) fun v53 =>
 R v53 w) (
 PURE Try.prog (PICKS (.bool false) undef (.bool Bool.false)) fun v54 =>
 R v54 w)) (
 PURE Try.prog (PICKS (.bool false) undef (.bool Bool.false)) fun v55 =>
 COND v55 (
 READ Try.prog S (Instr.loadAt 33 c_17) w fun v56 =>
 CALL Try.prog 16 [v12] w E fun v57 w =>
 KEEPS S w fun S =>
 CALL Try.prog 17 [v56] w E fun v58 w =>
 KEEPS S w fun S =>
 PURE Try.prog (BINS .eql 3 (.tmp 94) (.tmp 96) v57 v58) fun v59 =>
 PURE Try.prog (PICKS (.bool true) v59 (.bool Bool.false)) fun v60 =>
 R v60 w) (
 PURE Try.prog (PICKS (.bool false) undef (.bool Bool.false)) fun v61 =>
 R v61 w))) (
 PURE Try.prog (PICKS (.bool false) undef (.bool Bool.false)) fun v62 =>
 COND v62 (
 CALL Try.prog 14 [v12] w E fun v63 w =>
 KEEPS S w fun S =>
 PURE Try.prog (BINS .lss 3 (.tmp 87) (.tmp 89) v18 v63) fun v64 =>
 PURE Try.prog (PICKS (.bool true) v64 (.bool Bool.false)) fun v65 =>
 COND v65 (
 READ Try.prog S (Instr.loadAt 33 c_17) w fun v66 =>
 CALL Try.prog 16 [v12] w E fun v67 w =>
 KEEPS S w fun S =>
 CALL Try.prog 17 [v66] w E fun v68 w =>
 KEEPS S w fun S =>
 PURE Try.prog (BINS .eql 3 (.tmp 94) (.tmp 96) v67 v68) fun v69 =>
 PURE Try.prog (PICKS (.bool true) v69 (.bool Bool.false)) fun v70 =>
 R v70 w) (
 PURE Try.prog (PICKS (.bool false) undef (.bool Bool.false)) fun v71 =>
 R v71 w)) (
 PURE Try.prog (PICKS (.bool false) undef (.bool Bool.false)) fun v72 =>
 COND v72 (
 READ Try.prog S (Instr.loadAt 33 c_17) w fun v73 =>
 CALL Try.prog 16 [v12] w E fun v74 w =>
 KEEPS S w fun S =>
 CALL Try.prog 17 [v73] w E fun v75 w =>
 KEEPS S w fun S =>
 PURE Try.prog (BINS .eql 3 (.tmp 94) (.tmp 96) v74 v75) fun v76 =>
 PURE Try.prog (PICKS (.bool true) v76 (.bool Bool.false)) fun v77 =>
 R v77 w) (
 PURE Try.prog (PICKS (.bool false) undef (.bool Bool.false)) fun v78 =>
 R v78 w)))) (
 PURE Try.prog (BINS .eql 3 (.tmp 78) (.const (.int .i64 0)) v18 (.int .i64 0)) fun v79 =>
 PURE Try.prog (PICKS (.bool false) (.bool Bool.true) v79) fun v80 =>
 PURE Try.prog (PICKS (.bool true) v80 (.bool Bool.false)) fun v81 =>
 COND v81 (
 PURE Try.prog (BINS .geq 3 (.tmp 83) (.const (.int .i64 0)) v18 (.int .i64 0)) fun v82 =>
 PURE Try.prog (PICKS (.bool true) v82 (.bool Bool.false)) fun v83 =>
 COND v83 (
 CALL Try.prog 14 [v12] w E fun v84 w =>
 KEEPS S w fun S =>
 PURE Try.prog (BINS .lss 3 (.tmp 87) (.tmp 89) v18 v84) fun v85 =>
 PURE Try.prog (PICKS (.bool true) v85 (.bool Bool.false)) fun v86 =>
 COND v86 (
 READ Try.prog S (Instr.loadAt 33 c_17) w fun v87 =>
 CALL Try.prog 16 [v12] w E fun v88 w =>
 KEEPS S w fun S =>
 CALL Try.prog 17 [v87] w E fun v89 w =>
 KEEPS S w fun S =>
 PURE Try.prog (BINS .eql 3 (.tmp 94) (.tmp 96) v88 v89) fun v90 =>
 PURE Try.prog (PICKS (.bool true) v90 (.bool Bool.false)) fun v91 =>
 R v91 w) (
 PURE Try.prog (PICKS (.bool false) undef (.bool Bool.false)) fun v92 =>
 R v92 w)) (
 PURE Try.prog (PICKS (.bool false) undef (.bool Bool.false)) fun v93 =>
 COND v93 (
 READ Try.prog S (Instr.loadAt 33 c_17) w fun v94 =>
 CALL Try.prog 16 [v12] w E fun v95 w =>
 KEEPS S w fun S =>
 CALL Try.prog 17 [v94] w E fun v96 w =>
 KEEPS S w fun S =>
 PURE Try.prog (BINS .eql 3 (.tmp 94) (.tmp 96) v95 v96) fun v97 =>
 PURE Try.prog (PICKS (.bool true) v97 (.bool Bool.false)) fun v98 =>
 R v98 w) (
 PURE Try.prog (PICKS (.bool false) undef (.bool Bool.false)) fun v99 =>
 R v99 w))) (
 PURE Try.prog (PICKS (.bool false) undef (.bool Bool.false)) fun v100 =>
 COND v100 (
 CALL Try.prog 14 [v12] w E fun v101 w =>
 KEEPS S w fun S =>
 PURE Try.prog (BINS .lss 3 (.tmp 87) (.tmp 89) v18 v101) fun v102 =>
 PURE Try.prog (PICKS (.bool true) v102 (.bool Bool.false)) fun v103 =>
 COND v103 (
 READ Try.prog S (Instr.loadAt 33 c_17) w fun v104 =>
 CALL Try.prog 16 [v12] w E fun v105 w =>
 KEEPS S w fun S =>
 CALL Try.prog 17 [v104] w E fun v106 w =>
 KEEPS S w fun S =>
 PURE Try.prog (BINS .eql 3 (.tmp 94) (.tmp 96) v105 v106) fun v107 =>
 PURE Try.prog (PICKS (.bool true) v107 (.bool Bool.false)) fun v108 =>
 R v108 w) (
 PURE Try.prog (PICKS (.bool false) undef (.bool Bool.false)) fun v109 =>
 R v109 w)) (
 PURE Try.prog (PICKS (.bool false) undef (.bool Bool.false)) fun v110 =>
 COND v110 (
 READ Try.prog S (Instr.loadAt 33 c_17) w fun v111 =>
 CALL Try.prog 16 [v12] w E fun v112 w =>
 KEEPS S w fun S =>
 CALL Try.prog 17 [v111] w E fun v113 w =>
 KEEPS S w fun S =>
 PURE Try.prog (BINS .eql 3 (.tmp 94) (.tmp 96) v112 v113) fun v114 =>
 PURE Try.prog (PICKS (.bool true) v114 (.bool Bool.false)) fun v115 =>
 R v115 w) (
 PURE Try.prog (PICKS (.bool false) undef (.bool Bool.false)) fun v116 =>
 R v116 w))))) (
 PURE Try.prog (PICKS (.bool false) undef (.bool Bool.false)) fun v117 =>
 COND v117 (
 PURE Try.prog (BINS .geq 3 (.tmp 83) (.const (.int .i64 0)) v18 (.int .i64 0)) fun v118 =>
 PURE Try.prog (PICKS (.bool true) v118 (.bool Bool.false)) fun v119 =>
 COND v119 (
 CALL Try.prog 14 [v12] w E fun v120 w =>
 KEEPS S w fun S =>
 PURE Try.prog (BINS .lss 3 (.tmp 87) (.tmp 89) v18 v120) fun v121 =>
 PURE Try.prog (PICKS (.bool true) v121 (.bool Bool.false)) fun v122 =>
 COND v122 (
 READ Try.prog S (Instr.loadAt 33 c_17) w fun v123 =>
 CALL Try.prog 16 [v12] w E fun v124 w =>
 KEEPS S w fun S =>
 CALL Try.prog 17 [v123] w E fun v125 w =>
 KEEPS S w fun S =>
 PURE Try.prog (BINS .eql 3 (.tmp 94) (.tmp 96) v124 v125) fun v126 =>
 PURE Try.prog (PICKS (.bool true) v126 (.bool Bool.false)) fun v127 =>
 R v127 w) (
 PURE Try.prog (PICKS (.bool false) undef (.bool Bool.false)) fun v128 =>
 R v128 w)) (
 PURE Try.prog (PICKS (.bool false) undef (.bool Bool.false)) fun v129 =>
 COND v129 (
 READ Try.prog S (Instr.loadAt 33 c_17) w fun v130 =>
 CALL Try.prog 16 [v12] w E fun v131 w =>
 KEEPS S w fun S =>
 CALL Try.prog 17 [v130] w E fun v132 w =>
 KEEPS S w fun S =>
 PURE Try.prog (BINS .eql 3 (.tmp 94) (.tmp 96) v131 v132) fun v133 =>
 PURE Try.prog (PICKS (.bool true) v133 (.bool Bool.false)) fun v134 =>
 R v134 w) (
 PURE Try.prog (PICKS (.bool false) undef (.bool Bool.false)) fun v135 =>
 R v135 w))) (
 PURE Try.prog (PICKS (.bool false) undef (.bool Bool.false)) fun v136 =>
 COND v136 (
 CALL Try.prog 14 [v12] w E fun v137 w =>
 KEEPS S w fun S =>
 PURE Try.prog (BINS .lss 3 (.tmp 87) (.tmp 89) v18 v137) fun v138 =>
 PURE Try.prog (PICKS (.bool true) v138 (.bool Bool.false)) fun v139 =>
 COND v139 (
 READ Try.prog S (Instr.loadAt 33 c_17) w fun v140 =>
 CALL Try.prog 16 [v12] w E fun v141 w =>
 KEEPS S w fun S =>
 CALL Try.prog 17 [v140] w E fun v142 w =>
 KEEPS S w fun S =>
 PURE Try.prog (BINS .eql 3 (.tmp 94) (.tmp 96) v141 v142) fun v143 =>
 PURE Try.prog (PICKS (.bool true) v143 (.bool Bool.false)) fun v144 =>
 R v144 w) (
 PURE Try.prog (PICKS (.bool false) undef (.bool Bool.false)) fun v145 =>
 R v145 w)) (
 PURE Try.prog (PICKS (.bool false) undef (.bool Bool.false)) fun v146 =>
 COND v146 (
 READ Try.prog S (Instr.loadAt 33 c_17) w fun v147 =>
 CALL Try.prog 16 [v12] w E fun v148 w =>
 KEEPS S w fun S =>
 CALL Try.prog 17 [v147] w E fun v149 w =>
 KEEPS S w fun S =>
 PURE Try.prog (BINS .eql 3 (.tmp 94) (.tmp 96) v148 v149) fun v150 =>
 PURE Try.prog (PICKS (.bool true) v150 (.bool Bool.false)) fun v151 =>
 R v151 w) (
 PURE Try.prog (PICKS (.bool false) undef (.bool Bool.false)) fun v152 =>
 R v152 w))))) (
 PURE Try.prog (BINS .eql 3 (.tmp 68) (.tmp 69) v18 v19) fun v153 =>
 PURE Try.prog (PICKS (.bool false) (.bool Bool.true) v153) fun v154 =>
 COND v154 (
 READ Try.prog S (Instr.loadAt 33 c_17) w fun v155 =>
 CALL Try.prog 15 [v155, a_3] w E fun v156 w =>
 KEEPS S w fun S =>
 PURE Try.prog (BINS .neq 3 (.tmp 75) (.const (.int .i64 0)) v156 (.int .i64 0)) fun v157 =>
 COND v157 (
 PURE Try.prog (PICKS (.bool true) (.bool Bool.true) undef) fun v158 =>
 PURE Try.prog (PICKS (.bool true) v158 (.bool Bool.false)) fun v159 =>
 COND v159 (
 PURE Try.prog (BINS .geq 3 (.tmp 83) (.const (.int .i64 0)) v18 (.int .i64 0)) fun v160 =>
 PURE Try.prog (PICKS (.bool true) v160 (.bool Bool.false)) fun v161 =>
 COND v161 (
 CALL Try.prog 14 [v12] w E fun v162 w =>
 KEEPS S w fun S =>
 PURE Try.prog (BINS .lss 3 (.tmp 87) (.tmp 89) v18 v162) fun v163 =>
 PURE Try.prog (PICKS (.bool true) v163 (.bool Bool.false)) fun v164 =>
 COND v164 (
 READ Try.prog S (Instr.loadAt 33 c_17) w fun v165 =>
 CALL Try.prog 16 [v12] w E fun v166 w =>
 KEEPS S w fun S =>
 CALL Try.prog 17 [v165] w E fun v167 w =>
 KEEPS S w fun S =>
 PURE Try.prog (BINS .eql 3 (.tmp 94) (.tmp 96) v166 v167) fun v168 =>
 PURE Try.prog (PICKS (.bool true) v168 (.bool Bool.false)) fun v169 =>
 R v169 w) (
 PURE Try.prog (PICKS (.bool false) undef (.bool Bool.false)) fun v170 =>
 R v170 w)) (
 PURE Try.prog (PICKS (.bool false) undef (.bool Bool.false)) fun v171 =>
 COND v171 (
 READ Try.prog S (Instr.loadAt 33 c_17) w fun v172 =>
 CALL Try.prog 16 [v12] w E fun v173 w =>
 KEEPS S w fun S =>
 CALL Try.prog 17 [v172] w E fun v174 w =>
 KEEPS S w fun S =>
 PURE Try.prog (BINS .eql 3 (.tmp 94) (.tmp 96) v173 v174) fun v175 =>
 PURE Try.prog (PICKS (.bool true) v175 (.bool Bool.false)) fun v176 =>
 R v176 w) (
 PURE Try.prog (PICKS (.bool false) undef (.bool Bool.false)) fun v177 =>
 R v177 w))) (
 PURE Try.prog (PICKS (.bool false) undef (.bool Bool.false)) fun v178 =>
 COND v178 (
 CALL Try.prog 14 [v12] w E fun v179 w =>
 KEEPS S w fun S =>
 PURE Try.prog (BINS .lss 3 (.tmp 87) (.tmp 89) v18 v179) fun v180 =>
 PURE Try.prog (PICKS (.bool true) v180 (.bool Bool.false)) fun v181 =>
 COND v181 (
 READ Try.prog S (Instr.loadAt 33 c_17) w fun v182 =>
 CALL Try.prog 16 [v12] w E fun v183 w =>
 KEEPS S w fun S =>
 CALL Try.prog 17 [v182] w E fun v184 w =>
 KEEPS S w fun S =>
 PURE Try.prog (BINS .eql 3 (.tmp 94) (.tmp 96) v183 v184) fun v185 =>
 PURE Try.prog (PICKS (.bool true) v185 (.bool Bool.false)) fun v186 =>
 R v186 w) (
 PURE Try.prog (PICKS (.bool false) undef (.bool Bool.false)) fun v187 =>
 R v187 w)) (
 PURE Try.prog (PICKS (.bool false) undef (.bool Bool.false)) fun v188 =>
 COND v188 (
 READ Try.prog S (Instr.loadAt 33 c_17) w fun v189 =>
 CALL Try.prog 16 [v12] w E fun v190 w =>
 KEEPS S w fun S =>
 CALL Try.prog 17 [v189] w E fun v191 w =>
 KEEPS S w fun S =>
 PURE Try.prog (BINS .eql 3 (.tmp 94) (.tmp 96) v190 v191) fun v192 =>
 PURE Try.prog (PICKS (.bool true) v192 (.bool Bool.false)) fun v193 =>
 R v193 w) (
 PURE Try.prog (PICKS (.bool false) undef (.bool Bool.false)) fun v194 =>
 R v194 w)))) (
 PURE Try.prog (BINS .eql 3 (.tmp 78) (.const (.int .i64 0)) v18 (.int .i64 0)) fun v195 =>
 PURE Try.prog (PICKS (.bool false) (.bool Bool.true) v195) fun v196 =>
 PURE Try.prog (PICKS (.bool true) v196 (.bool Bool.false)) fun v197 =>
 COND v197 (
 PURE Try.prog (BINS .geq 3 (.tmp 83) (.const (.int .i64 0)) v18 (.int .i64 0)) fun v198 =>
 PURE Try.prog (PICKS (.bool true) v198 (.bool Bool.false)) fun v199 =>
 COND v199 (
 CALL Try.prog 14 [v12] w E fun v200 w =>
 KEEPS S w fun S =>
 PURE Try.prog (BINS .lss 3 (.tmp 87) (.tmp 89) v18 v200) fun v201 =>
 PURE Try.prog (PICKS (.bool true) v201 (.bool Bool.false)) fun v202 =>
 COND v202 (
 READ Try.prog S (Instr.loadAt 33 c_17) w fun v203 =>
 CALL Try.prog 16 [v12] w E fun v204 w =>
 KEEPS S w fun S =>
 CALL Try.prog 17 [v203] w E fun v205 w =>
 KEEPS S w fun S =>
 PURE Try.prog (BINS .eql 3 (.tmp 94) (.tmp 96) v204 v205) fun v206 =>
 PURE Try.prog (PICKS (.bool true) v206 (.bool Bool.false)) fun v207 =>
 R v207 w) (
 PURE Try.prog (PICKS (.bool false) undef (.bool Bool.false)) fun v208 =>
 R v208 w)) (
 PURE Try.prog (PICKS (.bool false) undef (.bool Bool.false)) fun v209 =>
 COND v209 (
 READ Try.prog S (Instr.loadAt 33 c_17) w fun v210 =>
 CALL Try.prog 16 [v12] w E fun v211 w =>
 KEEPS S w fun S =>
 CALL Try.prog 17 [v210] w E fun v212 w =>
 KEEPS S w fun S =>
 PURE Try.prog (BINS .eql 3 (.tmp 94) (.tmp 96) v211 v212) fun v213 =>
 PURE Try.prog (PICKS (.bool true) v213 (.bool Bool.false)) fun v214 =>
 R v214 w) (
 PURE Try.prog (PICKS (.bool false) undef (.bool Bool.false)) fun v215 =>
 R v215 w))) (
 PURE Try.prog (PICKS (.bool false) undef (.bool Bool.false)) fun v216 =>
 COND v216 (
 CALL Try.prog 14 [v12] w E fun v217 w =>
 KEEPS S w fun S =>
 PURE Try.prog (BINS .lss 3 (.tmp 87) (.tmp 89) v18 v217) fun v218 =>
 PURE Try.prog (PICKS (.bool true) v218 (.bool Bool.false)) fun v219 =>
 COND v219 (
 READ Try.prog S (Instr.loadAt 33 c_17) w fun v220 =>
 CALL Try.prog 16 [v12] w E fun v221 w =>
 KEEPS S w fun S =>
 CALL Try.prog 17 [v220] w E fun v222 w =>
 KEEPS S w fun S =>
 PURE Try.prog (BINS .eql 3 (.tmp 94) (.tmp 96) v221 v222) fun v223 =>
 PURE Try.prog (PICKS (.bool true) v223 (.bool Bool.false)) fun v224 =>
 R v224 w) (
 PURE Try.prog (PICKS (.bool false) undef (.bool Bool.false)) fun v225 =>
 R v225 w)) (
 PURE Try.prog (PICKS (.bool false) undef (.bool Bool.false)) fun v226 =>
 COND v226 (
 READ Try.prog S (Instr.loadAt 33 c_17) w fun v227 =>
 CALL Try.prog 16 [v12] w E fun v228 w =>
 KEEPS S w fun S =>
 CALL Try.prog 17 [v227] w E fun v229 w =>
 KEEPS S w fun S =>
 PURE Try.prog (BINS .eql 3 (.tmp 94) (.tmp 96) v228 v229) fun v230 =>
 PURE Try.prog (PICKS (.bool true) v230 (.bool Bool.false)) fun v231 =>
 R v231 w) (
 PURE Try.prog (PICKS (.bool false) undef (.bool Bool.false)) fun v232 =>
 R v232 w))))) (
 PURE Try.prog (PICKS (.bool false) undef (.bool Bool.false)) fun v233 =>
 COND v233 (
 PURE Try.prog (BINS .geq 3 (.tmp 83) (.const (.int .i64 0)) v18 (.int .i64 0)) fun v234 =>
 PURE Try.prog (PICKS (.bool true) v234 (.bool Bool.false)) fun v235 =>
 COND v235 (
 CALL Try.prog 14 [v12] w E fun v236 w =>
 KEEPS S w fun S =>
 PURE Try.prog (BINS .lss 3 (.tmp 87) (.tmp 89) v18 v236) fun v237 =>
 PURE Try.prog (PICKS (.bool true) v237 (.bool Bool.false)) fun v238 =>
 COND v238 (
 READ Try.prog S (Instr.loadAt 33 c_17) w fun v239 =>
 CALL Try.prog 16 [v12] w E fun v240 w =>
 KEEPS S w fun S =>
 CALL Try.prog 17 [v239] w E fun v241 w =>
 KEEPS S w fun S =>
 PURE Try.prog (BINS .eql 3 (.tmp 94) (.tmp 96) v240 v241) fun v242 =>
 PURE Try.prog (PICKS (.bool true) v242 (.bool Bool.false)) fun v243 =>
 R v243 w) (
 PURE Try.prog (PICKS (.bool false) undef (.bool Bool.false)) fun v244 =>
 R v244 w)) (
 PURE Try.prog (PICKS (.bool false) undef (.bool Bool.false)) fun v245 =>
 COND v245 (
 READ Try.prog S (Instr.loadAt 33 c_17) w fun v246 =>
 CALL Try.prog 16 [v12] w E fun v247 w =>
 KEEPS S w fun S =>
 CALL Try.prog 17 [v246] w E fun v248 w =>
 KEEPS S w fun S =>
 PURE Try.prog (BINS .eql 3 (.tmp 94) (.tmp 96) v247 v248) fun v249 =>
 PURE Try.prog (PICKS (.bool true) v249 (.bool Bool.false)) fun v250 =>
 R v250 w) (
 PURE Try.prog (PICKS (.bool false) undef (.bool Bool.false)) fun v251 =>
 R v251 w))) (
 PURE Try.prog (PICKS (.bool false) undef (.bool Bool.false)) fun v252 =>
 COND v252 (
 CALL Try.prog 14 [v12] w E fun v253 w =>
 KEEPS S w fun S =>
 PURE Try.prog (BINS .lss 3 (.tmp 87) (.tmp 89) v18 v253) fun v254 =>
 PURE Try.prog (PICKS (.bool true) v254 (.bool Bool.false)) fun v255 =>
 COND v255 (
 READ Try.prog S (Instr.loadAt 33 c_17) w fun v256 =>
 CALL Try.prog 16 [v12] w E fun v257 w =>
 KEEPS S w fun S =>
 CALL Try.prog 17 [v256] w E fun v258 w =>
 KEEPS S w fun S =>
 PURE Try.prog (BINS .eql 3 (.tmp 94) (.tmp 96) v257 v258) fun v259 =>
 PURE Try.prog (PICKS (.bool true) v259 (.bool Bool.false)) fun v260 =>
 R v260 w) (
 PURE Try.prog (PICKS (.bool false) undef (.bool Bool.false)) fun v261 =>
 R v261 w)) (
 PURE Try.prog (PICKS (.bool false) undef (.bool Bool.false)) fun v262 =>
 COND v262 (
 READ Try.prog S (Instr.loadAt 33 c_17) w fun v263 =>
 CALL Try.prog 16 [v12] w E fun v264 w =>
 KEEPS S w fun S =>
 CALL Try.prog 17 [v263] w E fun v265 w =>
 KEEPS S w fun S =>
 PURE Try.prog (BINS .eql 3 (.tmp 94) (.tmp 96) v264 v265) fun v266 =>
 PURE Try.prog (PICKS (.bool true) v266 (.bool Bool.false)) fun v267 =>
 R v267 w) (
 PURE Try.prog (PICKS (.bool false) undef (.bool Bool.false)) fun v268 =>
 R v268 w)))))))))
theorem by_seinelaw10_DfaClasses {l_1 state_2 a_3 b_4 : Value} {R : Value → World → Prop} {w : World} (h : sh_seinelaw10_DfaClasses l_1 state_2 a_3 b_4 NOPE R w) : RET Try.prog 3 [l_1, state_2, a_3, b_4] w R :=
  ⟨by kernel_rfl, calls_by [(23015, [])] Try.func3 (by kernel_rfl) (by kernel_rfl) (by kernel_rfl) h⟩

def sh_seinelaw10_DfaNext (l_1 state_2 c_3 : Value) (E : List PanicEntry → World → Prop) (R : Value → World → Prop) (w : World) : Prop :=
 CALL Try.prog 9 [] w E fun v4 w =>
 PURE Try.prog (Op.unary .not v4) fun v5 =>
 COND v5 (
 R (.bool Bool.false) w) (
 CALL Try.prog 10 [l_1] w E fun v6 w =>
 PURE Try.prog (Instr.extract v6 0) fun v7 =>
 PURE Try.prog (Instr.extract v6 1) fun v8 =>
 CALL Try.prog 18 [v7] w E fun v9 w =>
 JOIN0 (fun J1 =>
 PURE Try.prog (Op.unary .not v8) fun v10 =>
 COND v10 (
 PURE Try.prog (PICKS (.bool true) (.bool Bool.true) undef) fun v11 =>
 COND v11 (
 R (.bool Bool.true) w) (
 J1 w)) (
 PURE Try.prog (Builtin.len_ #[24] 3 #[v9]) fun v12 =>
 PURE Try.prog (BINS .gtr 3 (.tmp 27) (.const (.int .i64 160)) v12 (.int .i64 160)) fun v13 =>
 PURE Try.prog (PICKS (.bool false) (.bool Bool.true) v13) fun v14 =>
 COND v14 (
 R (.bool Bool.true) w) (
 J1 w))) (fun w =>
 CALL Try.prog 11 [l_1] w E fun v15 w =>
 PURE Try.prog (Instr.extract v15 0) fun v16 =>
 PURE Try.prog (Instr.extract v15 1) fun v17 =>
 JOIN0 (fun J2 =>
 PURE Try.prog (BINS .neq 28 (.tmp 35) (.const (.int .i64 0)) v17 (.int .i64 0)) fun v18 =>
 COND v18 (
 PURE Try.prog (PICKS (.bool true) (.bool Bool.true) undef) fun v19 =>
 COND v19 (
 PURE Try.prog (PICKS (.bool true) (.bool Bool.true) undef) fun v20 =>
 COND v20 (
 PURE Try.prog (PICKS (.bool true) (.bool Bool.true) undef) fun v21 =>
 COND v21 (
 R (.bool Bool.false) w) (
 J2 w)) (
 CALL Try.prog 13 [v16, state_2, c_3] w E fun v22 w =>
 CALL Try.prog 20 [v9, state_2, c_3] w E fun v23 w =>
 PURE Try.prog (BINS .neq 3 (.tmp 55) (.tmp 59) v22 v23) fun v24 =>
 PURE Try.prog (PICKS (.bool false) (.bool Bool.true) v24) fun v25 =>
 COND v25 (
 R (.bool Bool.false) w) (
 J2 w))) (
 CALL Try.prog 16 [v16] w E fun v26 w =>
 CALL Try.prog 19 [v7] w E fun v27 w =>
 PURE Try.prog (BINS .neq 3 (.tmp 46) (.tmp 48) v26 v27) fun v28 =>
 PURE Try.prog (PICKS (.bool false) (.bool Bool.true) v28) fun v29 =>
 COND v29 (
 PURE Try.prog (PICKS (.bool true) (.bool Bool.true) undef) fun v30 =>
 COND v30 (
 R (.bool Bool.false) w) (
 J2 w)) (
 CALL Try.prog 13 [v16, state_2, c_3] w E fun v31 w =>
 CALL Try.prog 20 [v9, state_2, c_3] w E fun v32 w =>
 PURE Try.prog (BINS .neq 3 (.tmp 55) (.tmp 59) v31 v32) fun v33 =>
 PURE Try.prog (PICKS (.bool false) (.bool Bool.true) v33) fun v34 =>
 COND v34 (
 R (.bool Bool.false) w) (
 J2 w)))) (
 CALL Try.prog 14 [v16] w E fun v35 w =>
 PURE Try.prog (Builtin.len_ #[24] 3 #[v9]) fun v36 =>
 PURE Try.prog (BINS .neq 3 (.tmp 39) (.tmp 41) v35 v36) fun v37 =>
 PURE Try.prog (PICKS (.bool false) (.bool Bool.true) v37) fun v38 =>
 COND v38 (
 PURE Try.prog (PICKS (.bool true) (.bool Bool.true) undef) fun v39 =>
 COND v39 (
 PURE Try.prog (PICKS (.bool true) (.bool Bool.true) undef) fun v40 =>
 COND v40 (
 R (.bool Bool.false) w) (
 J2 w)) (
 CALL Try.prog 13 [v16, state_2, c_3] w E fun v41 w =>
 CALL Try.prog 20 [v9, state_2, c_3] w E fun v42 w =>
 PURE Try.prog (BINS .neq 3 (.tmp 55) (.tmp 59) v41 v42) fun v43 =>
 PURE Try.prog (PICKS (.bool false) (.bool Bool.true) v43) fun v44 =>
 COND v44 (
 R (.bool Bool.false) w) (
 J2 w))) (
 CALL Try.prog 16 [v16] w E fun v45 w =>
 CALL Try.prog 19 [v7] w E fun v46 w =>
 PURE Try.prog (BINS .neq 3 (.tmp 46) (.tmp 48) v45 v46) fun v47 =>
 PURE Try.prog (PICKS (.bool false) (.bool Bool.true) v47) fun v48 =>
 COND v48 (
 PURE Try.prog (PICKS (.bool true) (.bool Bool.true) undef) fun v49 =>
 COND v49 (
 R (.bool Bool.false) w) (
 J2 w)) (
 CALL Try.prog 13 [v16, state_2, c_3] w E fun v50 w =>
 CALL Try.prog 20 [v9, state_2, c_3] w E fun v51 w =>
 PURE Try.prog (BINS .neq 3 (.tmp 55) (.tmp 59) v50 v51) fun v52 =>
 PURE Try.prog (PICKS (.bool false) (.bool Bool.true) v52) fun v53 =>
 COND v53 (
 R (.bool Bool.false) w) (
 J2 w))))) (fun w =>
 JOIN0 (fun J3 =>
 PURE Try.prog (BINS .lss 3 (.tmp 62) (.const (.int .i64 0)) state_2 (.int .i64 0)) fun v54 =>
 COND v54 (
 PURE Try.prog (PICKS (.bool true) (.bool Bool.true) undef) fun v55 =>
 COND v55 (
 CALL Try.prog 21 [v16, state_2] w E fun v56 w =>
 PURE Try.prog (Builtin.len_ #[42] 3 #[v56]) fun v57 =>
 PURE Try.prog (BINS .eql 3 (.tmp 73) (.const (.int .i64 0)) v57 (.int .i64 0)) fun v58 =>
 R v58 w) (
 J3 w)) (
 PURE Try.prog (Builtin.len_ #[24] 3 #[v9]) fun v59 =>
 PURE Try.prog (BINS .geq 3 (.tmp 65) (.tmp 67) state_2 v59) fun v60 =>
 PURE Try.prog (PICKS (.bool false) (.bool Bool.true) v60) fun v61 =>
 COND v61 (
 CALL Try.prog 21 [v16, state_2] w E fun v62 w =>
 PURE Try.prog (Builtin.len_ #[42] 3 #[v62]) fun v63 =>
 PURE Try.prog (BINS .eql 3 (.tmp 73) (.const (.int .i64 0)) v63 (.int .i64 0)) fun v64 =>
 R v64 w) (
 J3 w))) (fun w =>
 DRAW w fun S w =>
 PURE Try.prog (Instr.indexAt 24 v9 state_2) fun v65 =>
 READ Try.prog S (Instr.loadAt 9 v65) w fun v66 =>
 CALL Try.prog 21 [v16, state_2] w E fun v67 w =>
 KEEPS S w fun S =>
 READ Try.prog S (convert 42 9 v67) w fun v68 =>
 PURE Try.prog (BINS .eql 9 (.tmp 78) (.tmp 82) v68 v66) fun v69 =>
 R v69 w))))
theorem by_seinelaw10_DfaNext {l_1 state_2 c_3 : Value} {R : Value → World → Prop} {w : World} (h : sh_seinelaw10_DfaNext l_1 state_2 c_3 NOPE R w) : RET Try.prog 4 [l_1, state_2, c_3] w R :=
  ⟨by kernel_rfl, calls_by [(16008, []), (19011, []), (21013, [])] Try.func4 (by kernel_rfl) (by kernel_rfl) (by kernel_rfl) h⟩

def sh_seinelaw10_DfaCap (b_1 n_2 : Value) (E : List PanicEntry → World → Prop) (R : Value → World → Prop) (w : World) : Prop :=
 CALL Try.prog 9 [] w E fun v3 w =>
 PURE Try.prog (Op.unary .not v3) fun v4 =>
 COND v4 (
 R (.bool Bool.false) w) (
 PURE Try.prog (Builtin.len_ #[42] 3 #[b_1]) fun v5 =>
 PURE Try.prog (BINS .gtr 3 (.tmp 16) (.const (.int .i64 400)) v5 (.int .i64 400)) fun v6 =>
 COND v6 (
 R (.bool Bool.true) w) (
 RUN Try.prog (Builtin.append_ #[42, 42] 42 #[(.slice Option.none 0 0), b_1]) w fun v7 w =>
 LOOP2 (fun t_8 i_9 w next1 =>
 PURE Try.prog (convert 5 3 n_2) fun v10 =>
 PURE Try.prog (BINS .lss 3 (.tmp 21) (.tmp 23) i_9 v10) fun v11 =>
 COND v11 (
 RUN Try.prog (Instr.buildSlice 42 1 #[(0, (.int .u8 97))]) w fun v12 w =>
 RUN Try.prog (Builtin.append_ #[42, 42] 42 #[t_8, v12]) w fun v13 w =>
 PURE Try.prog (BINS .add 3 (.tmp 25) (.const (.int .i64 1)) i_9 (.int .i64 1)) fun v14 =>
 next1 v13 v14 w) (
 RUN Try.prog (Instr.buildSlice 22 1 #[(0, t_8)]) w fun v15 w =>
 CALL Try.prog 11 [v15] w E fun v16 w =>
 PURE Try.prog (Instr.extract v16 0) fun v17 =>
 PURE Try.prog (Instr.extract v16 1) fun v18 =>
 PURE Try.prog (Builtin.len_ #[42] 3 #[t_8]) fun v19 =>
 PURE Try.prog (BINS .add 3 (.tmp 37) (.const (.int .i64 1)) v19 (.int .i64 1)) fun v20 =>
 PURE Try.prog (BINS .gtr 3 (.tmp 38) (.const (.int .i64 160)) v20 (.int .i64 160)) fun v21 =>
 JOIN0 (fun J2 =>
 RUN Try.prog (Instr.buildSlice 22 1 #[(0, t_8)]) w fun v22 w =>
 CALL Try.prog 22 [v22] w E fun v23 w =>
 CALL Try.prog 23 [v23] w E fun v24 w =>
 PURE Try.prog (Builtin.len_ #[42] 3 #[t_8]) fun v25 =>
 PURE Try.prog (BINS .add 3 (.tmp 45) (.const (.int .i64 1)) v25 (.int .i64 1)) fun v26 =>
 PURE Try.prog (BINS .neq 3 (.tmp 43) (.tmp 46) v24 v26) fun v27 =>
 COND v27 (
 PURE Try.prog (PICKS (.bool true) (.bool Bool.true) undef) fun v28 =>
 COND v28 (
 PURE Try.prog (PICKS (.bool true) (.bool Bool.true) undef) fun v29 =>
 COND v29 (
 R (.bool Bool.false) w) (
 J2 w)) (
 PURE Try.prog (BINS .eql 27 (.tmp 55) (.const (.pointer Option.none)) v17 (.pointer Option.none)) fun v30 =>
 PURE Try.prog (BINS .neq 4 (.tmp 56) (.tmp 57) v30 v21) fun v31 =>
 PURE Try.prog (PICKS (.bool false) (.bool Bool.true) v31) fun v32 =>
 COND v32 (
 R (.bool Bool.false) w) (
 J2 w))) (
 PURE Try.prog (BINS .eql 28 (.tmp 49) (.const (.int .i64 14)) v18 (.int .i64 14)) fun v33 =>
 PURE Try.prog (BINS .neq 4 (.tmp 50) (.tmp 51) v33 v21) fun v34 =>
 PURE Try.prog (PICKS (.bool false) (.bool Bool.true) v34) fun v35 =>
 COND v35 (
 PURE Try.prog (PICKS (.bool true) (.bool Bool.true) undef) fun v36 =>
 COND v36 (
 R (.bool Bool.false) w) (
 J2 w)) (
 PURE Try.prog (BINS .eql 27 (.tmp 55) (.const (.pointer Option.none)) v17 (.pointer Option.none)) fun v37 =>
 PURE Try.prog (BINS .neq 4 (.tmp 56) (.tmp 57) v37 v21) fun v38 =>
 PURE Try.prog (PICKS (.bool false) (.bool Bool.true) v38) fun v39 =>
 COND v39 (
 R (.bool Bool.false) w) (
 J2 w)))) (fun w =>
 CALL Try.prog 24 [] w E fun v40 w =>
 COND v21 (
 CALL Try.prog 25 [v17, v40, t_8] w E fun v41 w =>
 PURE Try.prog (Builtin.len_ #[49] 3 #[v41]) fun v42 =>
 PURE Try.prog (BINS .eql 3 (.tmp 66) (.const (.int .i64 0)) v42 (.int .i64 0)) fun v43 =>
 COND v43 (
 CALL Try.prog 26 [v40] w E fun v44 w =>
 PURE Try.prog (Instr.build 52 #[]) fun v45 =>
 PURE Try.prog (BINS .eql 52 (.tmp 70) (.tmp 71) v44 v45) fun v46 =>
 PURE Try.prog (PICKS (.bool true) v46 (.bool Bool.false)) fun v47 =>
 COND v47 (
 CALL Try.prog 14 [v17] w E fun v48 w =>
 PURE Try.prog (BINS .eql 3 (.tmp 76) (.const (.int .i64 0)) v48 (.int .i64 0)) fun v49 =>
 PURE Try.prog (PICKS (.bool true) v49 (.bool Bool.false)) fun v50 =>
 COND v50 (
 CALL Try.prog 16 [v17] w E fun v51 w =>
 PURE Try.prog (BINS .eql 3 (.tmp 81) (.const (.int .i64 0)) v51 (.int .i64 0)) fun v52 =>
 PURE Try.prog (PICKS (.bool true) v52 (.bool Bool.false)) fun v53 =>
 COND v53 (
 CALL Try.prog 13 [v17, (.int .i64 0), (.int .u8 97)] w E fun v54 w =>
 PURE Try.prog (BINS .eql 3 (.tmp 86) (.const (.int .i64 (-1))) v54 (.int .i64 (-1))) fun v55 =>
 PURE Try.prog (PICKS (.bool true) v55 (.bool Bool.false)) fun v56 =>
 COND v56 (
 CALL Try.prog 21 [v17, (.int .i64 0)] w E fun v57 w =>
 PURE Try.prog (Builtin.len_ #[42] 3 #[v57]) fun v58 =>
 PURE Try.prog (BINS .eql 3 (.tmp 92) (.const (.int .i64 0)) v58 (.int .i64 0)) fun v59 =>
 PURE Try.prog (PICKS (.bool true) v59 (.bool Bool.false)) fun v60 =>
 R v60 w) (
 PURE Try.prog (PICKS (.bool false) undef (.bool Bool.false)) fun v61 =>
 R v61 w)) (
 PURE Try.prog (PICKS (.bool false) undef (.bool Bool.false)) fun v62 =>
 COND v62 (
 CALL Try.prog 21 [v17, (.int .i64 0)] w E fun v63 w =>
 PURE Try.prog (Builtin.len_ #[42] 3 #[v63]) fun v64 =>
 PURE Try.prog (BINS .eql 3 (.tmp 92) (.const (.int .i64 0)) v64 (.int .i64 0)) fun v65 =>
 PURE Try.prog (PICKS (.bool true) v65 (.bool Bool.false)) fun v66 =>
 R v66 w) (
 PURE Try.prog (PICKS (.bool false) undef (.bool Bool.false)) fun v67 =>
 R v67 w))) (
 PURE Try.prog (PICKS (.bool false) undef (.bool Bool.false)) fun v68 =>
 COND v68 (
 CALL Try.prog 13 [v17, (.int .i64 0), (.int .u8 97)] w E fun v69 w =>
 PURE Try.prog (BINS .eql 3 (.tmp 86) (.const (.int .i64 (-1))) v69 (.int .i64 (-1))) fun v70 =>
 PURE Try.prog (PICKS (.bool true) v70 (.bool Bool.false)) fun v71 =>
 COND v71 (
 CALL Try.prog 21 [v17, (.int .i64 0)] w E fun v72 w =>
 PURE Try.prog (Builtin.len_ #[42] 3 #[v72]) fun v73 =>
 PURE Try.prog (BINS .eql 3 (.tmp 92) (.const (.int .i64 0)) v73 (.int .i64 0)) fun v74 =>
 PURE Try.prog (PICKS (.bool true) v74 (.bool Bool.false)) fun v75 =>
 R v75 w) (
 PURE Try.prog (PICKS (.bool false) undef (.bool Bool.false)) fun v76 =>
 R v76 w)) (
 PURE Try.prog (PICKS (.bool false) undef (.bool Bool.false)) fun v77 =>
 COND v77 (
 CALL Try.prog 21 [v17, (.int .i64 0)] w E fun v78 w =>
 PURE Try.prog (Builtin.len_ #[42] 3 #[v78]) fun v79 =>
 PURE Try.prog (BINS .eql 3 (.tmp 92) (.const (.int .i64 0)) v79 (.int .i64 0)) fun v80 =>
 PURE Try.prog (PICKS (.bool true) v80 (.bool Bool.false)) fun v81 =>
 R v81 w) (
 PURE Try.prog (PICKS (.bool false) undef (.bool Bool.false)) fun v82 =>
 R v82 w)))) (
 PURE Try.prog (PICKS (.bool false) undef (.bool Bool.false)) fun v83 =>
 COND v83 (
 CALL Try.prog 16 [v17] w E fun v84 w =>
 PURE Try.prog (BINS .eql 3 (.tmp 81) (.const (.int .i64 0)) v84 (.int .i64 0)) fun v85 =>
 PURE Try.prog (PICKS (.bool true) v85 (.bool Bool.false)) fun v86 =>
 COND v86 (
 CALL Try.prog 13 [v17, (.int .i64 0), (.int .u8 97)] w E fun v87 w =>
 PURE Try.prog (BINS .eql 3 (.tmp 86) (.const (.int .i64 (-1))) v87 (.int .i64 (-1))) fun v88 =>
 PURE Try.prog (PICKS (.bool true) v88 (.bool Bool.false)) fun v89 =>
 COND v89 (
 CALL Try.prog 21 [v17, (.int .i64 0)] w E fun v90 w =>
 PURE Try.prog (Builtin.len_ #[42] 3 #[v90]) fun v91 =>
 PURE Try.prog (BINS .eql 3 (.tmp 92) (.const (.int .i64 0)) v91 (.int .i64 0)) fun v92 =>
 PURE Try.prog (PICKS (.bool true) v92 (.bool Bool.false)) fun v93 =>
 R v93 w) (
 PURE Try.prog (PICKS (.bool false) undef (.bool Bool.false)) fun v94 =>
 R v94 w)) (
 PURE Try.prog (PICKS (.bool false) undef (.bool Bool.false)) fun v95 =>
 COND v95 (
 CALL Try.prog 21 [v17, (.int .i64 0)] w E fun v96 w =>
 PURE Try.prog (Builtin.len_ #[42] 3 #[v96]) fun v97 =>
 PURE Try.prog (BINS .eql 3 (.tmp 92) (.const (.int .i64 0)) v97 (.int .i64 0)) fun v98 =>
 PURE Try.prog (PICKS (.bool true) v98 (.bool Bool.false)) fun v99 =>
 R v99 w) (
 PURE Try.prog (PICKS (.bool false) undef (.bool Bool.false)) fun v100 =>
 R v100 w))) (
 PURE Try.prog (PICKS (.bool false) undef (.bool Bool.false)) fun v101 =>
 COND v101 (
 CALL Try.prog 13 [v17, (.int .i64 0), (.int .u8 97)] w E fun v102 w =>
 PURE Try.prog (BINS .eql 3 (.tmp 86) (.const (.int .i64 (-1))) v102 (.int .i64 (-1))) fun v103 =>
 PURE Try.prog (PICKS (.bool true) v103 (.bool Bool.false)) fun v104 =>
 COND v104 (
 CALL Try.prog 21 [v17, (.int .i64 0)] w E fun v105 w =>
 PURE Try.prog (Builtin.len_ #[42] 3 #[v105]) fun v106 =>
 PURE Try.prog (BINS .eql 3 (.tmp 92) (.const (.int .i64 0)) v106 (.int .i64 0)) fun v107 =>
 PURE Try.prog (PICKS (.bool true) v107 (.bool Bool.false)) fun v108 =>
 R v108 w) (
 PURE Try.prog (PICKS (.bool false) undef (.bool Bool.false)) fun v109 =>
 R v109 w)) (
 PURE Try.prog (PICKS (.bool false) undef (.bool Bool.false)) fun v110 =>
 COND v110 (
 CALL Try.prog 21 [v17, (.int .i64 0)] w E fun v111 w =>
 PURE Try.prog (Builtin.len_ #[42] 3 #[v111]) fun v112 =>
 PURE Try.prog (BINS .eql 3 (.tmp 92) (.const (.int .i64 0)) v112 (.int .i64 0)) fun v113 =>
 PURE Try.prog (PICKS (.bool true) v113 (.bool Bool.false)) fun v114 =>
 R v114 w) (
 PURE Try.prog (PICKS (.bool false) undef (.bool Bool.false)) fun v115 =>
 R v115 w))))) (
 PURE Try.prog (PICKS (.bool false) undef (.bool Bool.false)) fun v116 =>
 COND v116 (
 CALL Try.prog 14 [v17] w E fun v117 w =>
 PURE Try.prog (BINS .eql 3 (.tmp 76) (.const (.int .i64 0)) v117 (.int .i64 0)) fun v118 =>
 PURE Try.prog (PICKS (.bool true) v118 (.bool Bool.false)) fun v119 =>
 COND v119 (
 CALL Try.prog 16 [v17] w E fun v120 w =>
 PURE Try.prog (BINS .eql 3 (.tmp 81) (.const (.int .i64 0)) v120 (.int .i64 0)) fun v121 =>
 PURE Try.prog (PICKS (.bool true) v121 (.bool Bool.false)) fun v122 =>
 COND v122 (
 CALL Try.prog 13 [v17, (.int .i64 0), (.int .u8 97)] w E fun v123 w =>
 PURE Try.prog (BINS .eql 3 (.tmp 86) (.const (.int .i64 (-1))) v123 (.int .i64 (-1))) fun v124 =>
 PURE Try.prog (PICKS (.bool true) v124 (.bool Bool.false)) fun v125 =>
 COND v125 (
 CALL Try.prog 21 [v17, (.int .i64 0)] w E fun v126 w =>
 PURE Try.prog (Builtin.len_ #[42] 3 #[v126]) fun v127 =>
 PURE Try.prog (BINS .eql 3 (.tmp 92) (.const (.int .i64 0)) v127 (.int .i64 0)) fun v128 =>
 PURE Try.prog (PICKS (.bool true) v128 (.bool Bool.false)) fun v129 =>
 R v129 w) (
 PURE Try.prog (PICKS (.bool false) undef (.bool Bool.false)) fun v130 =>
 R v130 w)) (
 PURE Try.prog (PICKS (.bool false) undef (.bool Bool.false)) fun v131 =>
 COND v131 (
 CALL Try.prog 21 [v17, (.int .i64 0)] w E fun v132 w =>
 PURE Try.prog (Builtin.len_ #[42] 3 #[v132]) fun v133 =>
 PURE Try.prog (BINS .eql 3 (.tmp 92) (.const (.int .i64 0)) v133 (.int .i64 0)) fun v134 =>
 PURE Try.prog (PICKS (.bool true) v134 (.bool Bool.false)) fun v135 =>
 R v135 w) (
 PURE Try.prog (PICKS (.bool false) undef (.bool Bool.false)) fun v136 =>
 R v136 w))) (
 PURE Try.prog (PICKS (.bool false) undef (.bool Bool.false)) fun v137 =>
 COND v137 (
 CALL Try.prog 13 [v17, (.int .i64 0), (.int .u8 97)] w E fun v138 w =>
 PURE Try.prog (BINS .eql 3 (.tmp 86) (.const (.int .i64 (-1))) v138 (.int .i64 (-1))) fun v139 =>
 PURE Try.prog (PICKS (.bool true) v139 (.bool Bool.false)) fun v140 =>
 COND v140 (
 CALL Try.prog 21 [v17, (.int .i64 0)] w E fun v141 w =>
 PURE Try.prog (Builtin.len_ #[42] 3 #[v141]) fun v142 =>
 PURE Try.prog (BINS .eql 3 (.tmp 92) (.const (.int .i64 0)) v142 (.int .i64 0)) fun v143 =>
 PURE Try.prog (PICKS (.bool true) v143 (.bool Bool.false)) fun v144 =>
 R v144 w) (
 PURE Try.prog (PICKS (.bool false) undef (.bool Bool.false)) fun v145 =>
 R v145 w)) (
 PURE Try.prog (PICKS (.bool false) undef (.bool Bool.false)) fun v146 =>
 COND v146 (
 CALL Try.prog 21 [v17, (.int .i64 0)] w E fun v147 w =>
 PURE Try.prog (Builtin.len_ #[42] 3 #[v147]) fun v148 =>
 PURE Try.prog (BINS .eql 3 (.tmp 92) (.const (.int .i64 0)) v148 (.int .i64 0)) fun v149 =>
 PURE Try.prog (PICKS (.bool true) v149 (.bool Bool.false)) fun v150 =>
 R v150 w) (
 PURE Try.prog (PICKS (.bool false) undef (.bool Bool.false)) fun v151 =>
 R v151 w)))) (
 PURE Try.prog (PICKS (.bool false) undef (.bool Bool.false)) fun v152 =>
 COND v152 (
 CALL Try.prog 16 [v17] w E fun v153 w =>
 PURE Try.prog (BINS .eql 3 (.tmp 81) (.const (.int .i64 0)) v153 (.int .i64 0)) fun v154 =>
 PURE Try.prog (PICKS (.bool true) v154 (.bool Bool.false)) fun v155 =>
 COND v155 (
 CALL Try.prog 13 [v17, (.int .i64 0), (.int .u8 97)] w E fun v156 w =>
 PURE Try.prog (BINS .eql 3 (.tmp 86) (.const (.int .i64 (-1))) v156 (.int .i64 (-1))) fun v157 =>
 PURE Try.prog (PICKS (.bool true) v157 (.bool Bool.false)) fun v158 =>
 COND v158 (
 CALL Try.prog 21 [v17, (.int .i64 0)] w E fun v159 w =>
 PURE Try.prog (Builtin.len_ #[42] 3 #[v159]) fun v160 =>
 PURE Try.prog (BINS .eql 3 (.tmp 92) (.const (.int .i64 0)) v160 (.int .i64 0)) fun v161 =>
 PURE Try.prog (PICKS (.bool true) v161 (.bool Bool.false)) fun v162 =>
 R v162 w) (
 PURE Try.prog (PICKS (.bool false) undef (.bool Bool.false)) fun v163 =>
 R v163 w)) (
 PURE Try.prog (PICKS (.bool false) undef (.bool Bool.false)) fun v164 =>
 COND v164 (
 CALL Try.prog 21 [v17, (.int .i64 0)] w E fun v165 w =>
 PURE Try.prog (Builtin.len_ #[42] 3 #[v165]) fun v166 =>
 PURE Try.prog (BINS .eql 3 (.tmp 92) (.const (.int .i64 0)) v166 (.int .i64 0)) fun v167 =>
 PURE Try.prog (PICKS (.bool true) v167 (.bool Bool.false)) fun v168 =>
 R v168 w) (
 PURE Try.prog (PICKS (.bool false) undef (.bool Bool.false)) fun v169 =>
 R v169 w))) (
 PURE Try.prog (PICKS (.bool false) undef (.bool Bool.false)) fun v170 =>
 COND v170 (
 CALL Try.prog 13 [v17, (.int .i64 0), (.int .u8 97)] w E fun v171 w =>
 PURE Try.prog (BINS .eql 3 (.tmp 86) (.const (.int .i64 (-1))) v171 (.int .i64 (-1))) fun v172 =>
 PURE Try.prog (PICKS (.bool true) v172 (.bool Bool.false)) fun v173 =>
 COND v173 (
 CALL Try.prog 21 [v17, (.int .i64 0)] w E fun v174 w =>
 PURE Try.prog (Builtin.len_ #[42] 3 #[v174]) fun v175 =>
 PURE Try.prog (BINS .eql 3 (.tmp 92) (.const (.int .i64 0)) v175 (.int .i64 0)) fun v176 =>
 PURE Try.prog (PICKS (.bool true) v176 (.bool Bool.false)) fun v177 =>
 R v177 w) (
 PURE Try.prog (PICKS (.bool false) undef (.bool Bool.false)) fun v178 =>
 R v178 w)) (
 PURE Try.prog (PICKS (.bool false) undef (.bool Bool.false)) fun v179 =>
 COND v179 (
 CALL Try.prog 21 [v17, (.int .i64 0)] w E fun v180 w =>
 PURE Try.prog (Builtin.len_ #[42] 3 #[v180]) fun v181 =>
 PURE Try.prog (BINS .eql 3 (.tmp 92) (.const (.int .i64 0)) v181 (.int .i64 0)) fun v182 =>
 PURE Try.prog (PICKS (.bool true) v182 (.bool Bool.false)) fun v183 =>
 R v183 w) (
 PURE Try.prog (PICKS (.bool false) undef (.bool Bool.false)) fun v184 =>
 R v184 w)))))) (
 PURE Try.prog (BINS .eql 28 (.tmp 95) (.const (.int .i64 0)) v18 (.int .i64 0)) fun v185 =>
 COND v185 (
 CALL Try.prog 14 [v17] w E fun v186 w =>
 PURE Try.prog (Builtin.len_ #[42] 3 #[t_8]) fun v187 =>
 PURE Try.prog (BINS .add 3 (.tmp 101) (.const (.int .i64 1)) v187 (.int .i64 1)) fun v188 =>
 PURE Try.prog (BINS .eql 3 (.tmp 99) (.tmp 102) v186 v188) fun v189 =>
 PURE Try.prog (PICKS (.bool true) v189 (.bool Bool.false)) fun v190 =>
 R v190 w) (
 PURE Try.prog (PICKS (.bool false) undef (.bool Bool.false)) fun v191 =>
 R v191 w))))) v7 (.int .i64 0) w))
theorem by_seinelaw10_DfaCap {b_1 n_2 : Value} {R : Value → World → Prop} {w : World} (h : sh_seinelaw10_DfaCap b_1 n_2 NOPE R w) : RET Try.prog 5 [b_1, n_2] w R :=
  ⟨by kernel_rfl, calls_by [(9, [6, 7]), (24016, [])] Try.func5 (by kernel_rfl) (by kernel_rfl) (by kernel_rfl) h⟩

def sh_seinelaw13_TwowaySparse (b_1 line_2 : Value) (E : List PanicEntry → World → Prop) (R : Value → World → Prop) (w : World) : Prop :=
 CALL Try.prog 27 [] w E fun v3 w =>
 PURE Try.prog (Op.unary .not v3) fun v4 =>
 COND v4 (
 R (.bool Bool.false) w) (
 CALL Try.prog 28 [b_1, line_2] w E fun v5 w =>
 JOIN0 (fun J1 =>
 PURE Try.prog (Op.unary .not v5) fun v6 =>
 COND v6 (
 PURE Try.prog (PICKS (.bool true) (.bool Bool.true) undef) fun v7 =>
 COND v7 (
 R (.bool Bool.true) w) (
 J1 w)) (
 PURE Try.prog (Builtin.len_ #[42] 3 #[b_1]) fun v8 =>
 PURE Try.prog (BINS .eql 3 (.tmp 19) (.const (.int .i64 0)) v8 (.int .i64 0)) fun v9 =>
 PURE Try.prog (PICKS (.bool false) (.bool Bool.true) v9) fun v10 =>
 COND v10 (
 R (.bool Bool.true) w) (
 J1 w))) (fun w =>
 CALL Try.prog 29 [b_1] w E fun v11 w =>
 PURE Try.prog (Instr.extract v11 0) fun v12 =>
 PURE Try.prog (Instr.extract v11 1) fun v13 =>
 PURE Try.prog (BINS .eql 28 (.tmp 27) (.const (.int .i64 0)) v13 (.int .i64 0)) fun v14 =>
 COND v14 (
 CALL Try.prog 31 [v12, line_2] w E fun v15 w =>
 RUN Try.prog (Instr.buildSlice 22 1 #[(0, b_1)]) w fun v16 w =>
 CALL Try.prog 32 [v16] w E fun v17 w =>
 CALL Try.prog 33 [v17, (.pointer Option.none), line_2] w E fun v18 w =>
 CALL Try.prog 30 [v15, v18] w E fun v19 w =>
 PURE Try.prog (PICKS (.bool true) v19 (.bool Bool.false)) fun v20 =>
 R v20 w) (
 PURE Try.prog (PICKS (.bool false) undef (.bool Bool.false)) fun v21 =>
 R v21 w)))
theorem by_seinelaw13_TwowaySparse {b_1 line_2 : Value} {R : Value → World → Prop} {w : World} (h : sh_seinelaw13_TwowaySparse b_1 line_2 NOPE R w) : RET Try.prog 6 [b_1, line_2] w R :=
  ⟨by kernel_rfl, calls_by [(15007, [])] Try.func6 (by kernel_rfl) (by kernel_rfl) (by kernel_rfl) h⟩

def sh_seinelaw10_DfaSparse (l_1 line_2 state_3 c_4 : Value) (E : List PanicEntry → World → Prop) (R : Value → World → Prop) (w : World) : Prop :=
 CALL Try.prog 9 [] w E fun v5 w =>
 PURE Try.prog (Op.unary .not v5) fun v6 =>
 COND v6 (
 R (.bool Bool.false) w) (
 CALL Try.prog 10 [l_1] w E fun v7 w =>
 PURE Try.prog (Instr.extract v7 0) fun v8 =>
 PURE Try.prog (Instr.extract v7 1) fun v9 =>
 JOIN0 (fun J1 =>
 PURE Try.prog (Op.unary .not v9) fun v10 =>
 COND v10 (
 PURE Try.prog (PICKS (.bool true) (.bool Bool.true) undef) fun v11 =>
 COND v11 (
 R (.bool Bool.true) w) (
 J1 w)) (
 PURE Try.prog (Builtin.len_ #[42] 3 #[line_2]) fun v12 =>
 PURE Try.prog (BINS .gtr 3 (.tmp 27) (.const (.int .i64 400)) v12 (.int .i64 400)) fun v13 =>
 PURE Try.prog (PICKS (.bool false) (.bool Bool.true) v13) fun v14 =>
 COND v14 (
 R (.bool Bool.true) w) (
 J1 w))) (fun w =>
 CALL Try.prog 11 [l_1] w E fun v15 w =>
 PURE Try.prog (Instr.extract v15 0) fun v16 =>
 PURE Try.prog (Instr.extract v15 1) fun v17 =>
 CALL Try.prog 32 [l_1] w E fun v18 w =>
 PURE Try.prog (BINS .neq 28 (.tmp 37) (.const (.int .i64 0)) v17 (.int .i64 0)) fun v19 =>
 COND v19 (
 CALL Try.prog 34 [v18] w E fun v20 w =>
 PURE Try.prog (BINS .gtr 3 (.tmp 40) (.const (.int .i64 160)) v20 (.int .i64 160)) fun v21 =>
 R v21 w) (
 CALL Try.prog 25 [v16, (.pointer Option.none), line_2] w E fun v22 w =>
 CALL Try.prog 33 [v18, (.pointer Option.none), line_2] w E fun v23 w =>
 CALL Try.prog 30 [v22, v23] w E fun v24 w =>
 COND v24 (
 CALL Try.prog 13 [v16, state_3, c_4] w E fun v25 w =>
 CALL Try.prog 35 [v18, (.pointer Option.none), state_3, c_4] w E fun v26 w =>
 PURE Try.prog (BINS .eql 3 (.tmp 53) (.tmp 57) v25 v26) fun v27 =>
 PURE Try.prog (PICKS (.bool true) v27 (.bool Bool.false)) fun v28 =>
 COND v28 (
 CALL Try.prog 14 [v16] w E fun v29 w =>
 CALL Try.prog 34 [v18] w E fun v30 w =>
 PURE Try.prog (BINS .eql 3 (.tmp 62) (.tmp 64) v29 v30) fun v31 =>
 PURE Try.prog (PICKS (.bool true) v31 (.bool Bool.false)) fun v32 =>
 R v32 w) (
 PURE Try.prog (PICKS (.bool false) undef (.bool Bool.false)) fun v33 =>
 R v33 w)) (
 PURE Try.prog (PICKS (.bool false) undef (.bool Bool.false)) fun v34 =>
 COND v34 (
 CALL Try.prog 14 [v16] w E fun v35 w =>
 CALL Try.prog 34 [v18] w E fun v36 w =>
 PURE Try.prog (BINS .eql 3 (.tmp 62) (.tmp 64) v35 v36) fun v37 =>
 PURE Try.prog (PICKS (.bool true) v37 (.bool Bool.false)) fun v38 =>
 R v38 w) (
 PURE Try.prog (PICKS (.bool false) undef (.bool Bool.false)) fun v39 =>
 R v39 w)))))
theorem by_seinelaw10_DfaSparse {l_1 line_2 state_3 c_4 : Value} {R : Value → World → Prop} {w : World} (h : sh_seinelaw10_DfaSparse l_1 line_2 state_3 c_4 NOPE R w) : RET Try.prog 7 [l_1, line_2, state_3, c_4] w R :=
  ⟨by kernel_rfl, calls_by [(15007, [])] Try.func7 (by kernel_rfl) (by kernel_rfl) (by kernel_rfl) h⟩

def sh_seinelaw16_CwalterSparse (l_1 line_2 turn_3 : Value) (E : List PanicEntry → World → Prop) (R : Value → World → Prop) (w : World) : Prop :=
 CALL Try.prog 36 [] w E fun v4 w =>
 PURE Try.prog (Op.unary .not v4) fun v5 =>
 COND v5 (
 R (.bool Bool.false) w) (
 CALL Try.prog 37 [l_1] w E fun v6 w =>
 PURE Try.prog (Instr.extract v6 0) fun v7 =>
 PURE Try.prog (Instr.extract v6 1) fun v8 =>
 JOIN0 (fun J1 =>
 PURE Try.prog (Op.unary .not v8) fun v9 =>
 COND v9 (
 PURE Try.prog (PICKS (.bool true) (.bool Bool.true) undef) fun v10 =>
 COND v10 (
 PURE Try.prog (PICKS (.bool true) (.bool Bool.true) undef) fun v11 =>
 COND v11 (
 R (.bool Bool.true) w) (
 J1 w)) (
 PURE Try.prog (Builtin.len_ #[22] 3 #[l_1]) fun v12 =>
 PURE Try.prog (BINS .eql 3 (.tmp 30) (.const (.int .i64 0)) v12 (.int .i64 0)) fun v13 =>
 PURE Try.prog (PICKS (.bool false) (.bool Bool.true) v13) fun v14 =>
 COND v14 (
 R (.bool Bool.true) w) (
 J1 w))) (
 PURE Try.prog (Builtin.len_ #[42] 3 #[line_2]) fun v15 =>
 PURE Try.prog (BINS .gtr 3 (.tmp 25) (.const (.int .i64 300)) v15 (.int .i64 300)) fun v16 =>
 PURE Try.prog (PICKS (.bool false) (.bool Bool.true) v16) fun v17 =>
 COND v17 (
 PURE Try.prog (PICKS (.bool true) (.bool Bool.true) undef) fun v18 =>
 COND v18 (
 R (.bool Bool.true) w) (
 J1 w)) (
 PURE Try.prog (Builtin.len_ #[22] 3 #[l_1]) fun v19 =>
 PURE Try.prog (BINS .eql 3 (.tmp 30) (.const (.int .i64 0)) v19 (.int .i64 0)) fun v20 =>
 PURE Try.prog (PICKS (.bool false) (.bool Bool.true) v20) fun v21 =>
 COND v21 (
 R (.bool Bool.true) w) (
 J1 w)))) (fun w =>
 CALL Try.prog 38 [l_1] w E fun v22 w =>
 CALL Try.prog 39 [v22, line_2] w E fun v23 w =>
 RUN Try.prog (Instr.buildSlice 22 1 #[(0, (.slice Option.none 0 0))]) w fun v24 w =>
 RUN Try.prog (Builtin.append_ #[22, 22] 22 #[(.slice Option.none 0 0), v24]) w fun v25 w =>
 LOOP2 (fun o_26 i_27 w next2 =>
 PURE Try.prog (Builtin.len_ #[22] 3 #[l_1]) fun v28 =>
 PURE Try.prog (BINS .lss 3 (.tmp 40) (.tmp 42) i_27 v28) fun v29 =>
 COND v29 (
 PURE Try.prog (convert 5 3 turn_3) fun v30 =>
 PURE Try.prog (BINS .add 3 (.tmp 48) (.tmp 50) i_27 v30) fun v31 =>
 PURE Try.prog (Builtin.len_ #[22] 3 #[l_1]) fun v32 =>
 PURE Try.prog (BINS .rem 3 (.tmp 51) (.tmp 53) v31 v32) fun v33 =>
 PURE Try.prog (Instr.indexAt 22 l_1 v33) fun v34 =>
 RUN Try.prog (Instr.loadAt 42 v34) w fun v35 w =>
 RUN Try.prog (Instr.buildSlice 22 1 #[(0, v35)]) w fun v36 w =>
 RUN Try.prog (Builtin.append_ #[22, 22] 22 #[o_26, v36]) w fun v37 w =>
 PURE Try.prog (BINS .add 3 (.tmp 44) (.const (.int .i64 1)) i_27 (.int .i64 1)) fun v38 =>
 next2 v37 v38 w) (
 CALL Try.prog 32 [l_1] w E fun v39 w =>
 CALL Try.prog 33 [v39, (.pointer Option.none), line_2] w E fun v40 w =>
 CALL Try.prog 30 [v23, v40] w E fun v41 w =>
 COND v41 (
 CALL Try.prog 38 [o_26] w E fun v42 w =>
 CALL Try.prog 39 [v42, line_2] w E fun v43 w =>
 CALL Try.prog 30 [v23, v43] w E fun v44 w =>
 PURE Try.prog (PICKS (.bool true) v44 (.bool Bool.false)) fun v45 =>
 R v45 w) (
 PURE Try.prog (PICKS (.bool false) undef (.bool Bool.false)) fun v46 =>
 R v46 w))) v25 (.int .i64 0) w))
theorem by_seinelaw16_CwalterSparse {l_1 line_2 turn_3 : Value} {R : Value → World → Prop} {w : World} (h : sh_seinelaw16_CwalterSparse l_1 line_2 turn_3 NOPE R w) : RET Try.prog 8 [l_1, line_2, turn_3] w R :=
  ⟨by kernel_rfl, calls_by [(11, [11, 12]), (15007, [])] Try.func8 (by kernel_rfl) (by kernel_rfl) (by kernel_rfl) h⟩

def sh_seinelaw10_awake (E : List PanicEntry → World → Prop) (R : Value → World → Prop) (w : World) : Prop :=
 RUN Try.prog (Instr.buildSlice 42 2 #[(0, (.int .u8 104)), (1, (.int .u8 101))]) w fun v1 w =>
 RUN Try.prog (convert 42 42 v1) w fun v2 w =>
 RUN Try.prog (Instr.buildSlice 42 3 #[(0, (.int .u8 115)), (1, (.int .u8 104)), (2, (.int .u8 101))]) w fun v3 w =>
 RUN Try.prog (convert 42 42 v3) w fun v4 w =>
 RUN Try.prog (Instr.buildSlice 22 2 #[(0, v2), (1, v4)]) w fun v5 w =>
 CALL Try.prog 11 [v5] w E fun v6 w =>
 PURE Try.prog (Instr.extract v6 0) fun v7 =>
 PURE Try.prog (Instr.extract v6 1) fun v8 =>
 CALL Try.prog 24 [] w E fun v9 w =>
 RUN Try.prog (Instr.buildSlice 42 4 #[(0, (.int .u8 117)), (1, (.int .u8 115)), (2, (.int .u8 104)), (3, (.int .u8 101))]) w fun v10 w =>
 RUN Try.prog (convert 42 42 v10) w fun v11 w =>
 CALL Try.prog 25 [v7, v9, v11] w E fun v12 w =>
 PURE Try.prog (BINS .eql 28 (.tmp 20) (.const (.int .i64 0)) v8 (.int .i64 0)) fun v13 =>
 COND v13 (
 CALL Try.prog 14 [v7] w E fun v14 w =>
 PURE Try.prog (BINS .eql 3 (.tmp 24) (.const (.int .i64 6)) v14 (.int .i64 6)) fun v15 =>
 PURE Try.prog (PICKS (.bool true) v15 (.bool Bool.false)) fun v16 =>
 COND v16 (
 CALL Try.prog 16 [v7] w E fun v17 w =>
 PURE Try.prog (BINS .eql 3 (.tmp 29) (.const (.int .i64 4)) v17 (.int .i64 4)) fun v18 =>
 PURE Try.prog (PICKS (.bool true) v18 (.bool Bool.false)) fun v19 =>
 COND v19 (
 PURE Try.prog (Instr.build 69 #[(0, (.int .i64 1)), (1, (.int .i64 4))]) fun v20 =>
 PURE Try.prog (Instr.build 69 #[(0, (.int .i64 2)), (1, (.int .i64 4))]) fun v21 =>
 RUN Try.prog (Instr.buildSlice 49 2 #[(0, v20), (1, v21)]) w fun v22 w =>
 CALL Try.prog 30 [v12, v22] w E fun v23 w =>
 PURE Try.prog (PICKS (.bool true) v23 (.bool Bool.false)) fun v24 =>
 COND v24 (
 CALL Try.prog 26 [v9] w E fun v25 w =>
 PURE Try.prog (Instr.build 52 #[(0, (.int .i64 4)), (1, (.int .i64 4))]) fun v26 =>
 PURE Try.prog (BINS .eql 52 (.tmp 41) (.tmp 42) v25 v26) fun v27 =>
 PURE Try.prog (PICKS (.bool true) v27 (.bool Bool.false)) fun v28 =>
 COND v28 (
 CALL Try.prog 13 [v7, (.int .i64 0), (.int .u8 115)] w E fun v29 w =>
 PURE Try.prog (BINS .eql 3 (.tmp 47) (.const (.int .i64 3)) v29 (.int .i64 3)) fun v30 =>
 PURE Try.prog (PICKS (.bool true) v30 (.bool Bool.false)) fun v31 =>
 COND v31 (
 CALL Try.prog 13 [v7, (.int .i64 5), (.int .u8 120)] w E fun v32 w =>
 PURE Try.prog (BINS .eql 3 (.tmp 52) (.const (.int .i64 0)) v32 (.int .i64 0)) fun v33 =>
 PURE Try.prog (PICKS (.bool true) v33 (.bool Bool.false)) fun v34 =>
 R v34 w) (
 PURE Try.prog (PICKS (.bool false) undef (.bool Bool.false)) fun v35 =>
 R v35 w)) (
 PURE Try.prog (PICKS (.bool false) undef (.bool Bool.false)) fun v36 =>
 COND v36 (
 CALL Try.prog 13 [v7, (.int .i64 5), (.int .u8 120)] w E fun v37 w =>
 PURE Try.prog (BINS .eql 3 (.tmp 52) (.const (.int .i64 0)) v37 (.int .i64 0)) fun v38 =>
 PURE Try.prog (PICKS (.bool true) v38 (.bool Bool.false)) fun v39 =>
 R v39 w) (
 PURE Try.prog (PICKS (.bool false) undef (.bool Bool.false)) fun v40 =>
 R v40 w))) (
 PURE Try.prog (PICKS (.bool false) undef (.bool Bool.false)) fun v41 =>
 COND v41 (
 CALL Try.prog 13 [v7, (.int .i64 0), (.int .u8 115)] w E fun v42 w =>
 PURE Try.prog (BINS .eql 3 (.tmp 47) (.const (.int .i64 3)) v42 (.int .i64 3)) fun v43 =>
 PURE Try.prog (PICKS (.bool true) v43 (.bool Bool.false)) fun v44 =>
 COND v44 (
 CALL Try.prog 13 [v7, (.int .i64 5), (.int .u8 120)] w E fun v45 w =>
 PURE Try.prog (BINS .eql 3 (.tmp 52) (.const (.int .i64 0)) v45 (.int .i64 0)) fun v46 =>
 PURE Try.prog (PICKS (.bool true) v46 (.bool Bool.false)) fun v47 =>
 R v47 w) (
 PURE Try.prog (PICKS (.bool false) undef (.bool Bool.false)) fun v48 =>
 R v48 w)) (
 PURE Try.prog (PICKS (.bool false) undef (.bool Bool.false)) fun v49 =>
 COND v49 (
 CALL Try.prog 13 [v7, (.int .i64 5), (.int .u8 120)] w E fun v50 w =>
 PURE Try.prog (BINS .eql 3 (.tmp 52) (.const (.int .i64 0)) v50 (.int .i64 0)) fun v51 =>
 PURE Try.prog (PICKS (.bool true) v51 (.bool Bool.false)) fun v52 =>
 R v52 w) (
 PURE Try.prog (PICKS (.bool false) undef (.bool Bool.false)) fun v53 =>
 R v53 w)))) (
 PURE Try.prog (PICKS (.bool false) undef (.bool Bool.false)) fun v54 =>
 COND v54 (
 CALL Try.prog 26 [v9] w E fun v55 w =>
 PURE Try.prog (Instr.build 52 #[(0, (.int .i64 4)), (1, (.int .i64 4))]) fun v56 =>
 PURE Try.prog (BINS .eql 52 (.tmp 41) (.tmp 42) v55 v56) fun v57 =>
 PURE Try.prog (PICKS (.bool true) v57 (.bool Bool.false)) fun v58 =>
 COND v58 (
 CALL Try.prog 13 [v7, (.int .i64 0), (.int .u8 115)] w E fun v59 w =>
 PURE Try.prog (BINS .eql 3 (.tmp 47) (.const (.int .i64 3)) v59 (.int .i64 3)) fun v60 =>
 PURE Try.prog (PICKS (.bool true) v60 (.bool Bool.false)) fun v61 =>
 COND v61 (
 CALL Try.prog 13 [v7, (.int .i64 5), (.int .u8 120)] w E fun v62 w =>
 PURE Try.prog (BINS .eql 3 (.tmp 52) (.const (.int .i64 0)) v62 (.int .i64 0)) fun v63 =>
 PURE Try.prog (PICKS (.bool true) v63 (.bool Bool.false)) fun v64 =>
 R v64 w) (
 PURE Try.prog (PICKS (.bool false) undef (.bool Bool.false)) fun v65 =>
 R v65 w)) (
 PURE Try.prog (PICKS (.bool false) undef (.bool Bool.false)) fun v66 =>
 COND v66 (
 CALL Try.prog 13 [v7, (.int .i64 5), (.int .u8 120)] w E fun v67 w =>
 PURE Try.prog (BINS .eql 3 (.tmp 52) (.const (.int .i64 0)) v67 (.int .i64 0)) fun v68 =>
 PURE Try.prog (PICKS (.bool true) v68 (.bool Bool.false)) fun v69 =>
 R v69 w) (
 PURE Try.prog (PICKS (.bool false) undef (.bool Bool.false)) fun v70 =>
 R v70 w))) (
 PURE Try.prog (PICKS (.bool false) undef (.bool Bool.false)) fun v71 =>
 COND v71 (
 CALL Try.prog 13 [v7, (.int .i64 0), (.int .u8 115)] w E fun v72 w =>
 PURE Try.prog (BINS .eql 3 (.tmp 47) (.const (.int .i64 3)) v72 (.int .i64 3)) fun v73 =>
 PURE Try.prog (PICKS (.bool true) v73 (.bool Bool.false)) fun v74 =>
 COND v74 (
 CALL Try.prog 13 [v7, (.int .i64 5), (.int .u8 120)] w E fun v75 w =>
 PURE Try.prog (BINS .eql 3 (.tmp 52) (.const (.int .i64 0)) v75 (.int .i64 0)) fun v76 =>
 PURE Try.prog (PICKS (.bool true) v76 (.bool Bool.false)) fun v77 =>
 R v77 w) (
 PURE Try.prog (PICKS (.bool false) undef (.bool Bool.false)) fun v78 =>
 R v78 w)) (
 PURE Try.prog (PICKS (.bool false) undef (.bool Bool.false)) fun v79 =>
 COND v79 (
 CALL Try.prog 13 [v7, (.int .i64 5), (.int .u8 120)] w E fun v80 w =>
 PURE Try.prog (BINS .eql 3 (.tmp 52) (.const (.int .i64 0)) v80 (.int .i64 0)) fun v81 =>
 PURE Try.prog (PICKS (.bool true) v81 (.bool Bool.false)) fun v82 =>
 R v82 w) (
 PURE Try.prog (PICKS (.bool false) undef (.bool Bool.false)) fun v83 =>
 R v83 w))))) (
 PURE Try.prog (PICKS (.bool false) undef (.bool Bool.false)) fun v84 =>
 COND v84 (
 PURE Try.prog (Instr.build 69 #[(0, (.int .i64 1)), (1, (.int .i64 4))]) fun v85 =>
 PURE Try.prog (Instr.build 69 #[(0, (.int .i64 2)), (1, (.int .i64 4))]) fun v86 =>
 RUN Try.prog (Instr.buildSlice 49 2 #[(0, v85), (1, v86)]) w fun v87 w =>
 CALL Try.prog 30 [v12, v87] w E fun v88 w =>
 PURE Try.prog (PICKS (.bool true) v88 (.bool Bool.false)) fun v89 =>
 COND v89 (
 CALL Try.prog 26 [v9] w E fun v90 w =>
 PURE Try.prog (Instr.build 52 #[(0, (.int .i64 4)), (1, (.int .i64 4))]) fun v91 =>
 PURE Try.prog (BINS .eql 52 (.tmp 41) (.tmp 42) v90 v91) fun v92 =>
 PURE Try.prog (PICKS (.bool true) v92 (.bool Bool.false)) fun v93 =>
 COND v93 (
 CALL Try.prog 13 [v7, (.int .i64 0), (.int .u8 115)] w E fun v94 w =>
 PURE Try.prog (BINS .eql 3 (.tmp 47) (.const (.int .i64 3)) v94 (.int .i64 3)) fun v95 =>
 PURE Try.prog (PICKS (.bool true) v95 (.bool Bool.false)) fun v96 =>
 COND v96 (
 CALL Try.prog 13 [v7, (.int .i64 5), (.int .u8 120)] w E fun v97 w =>
 PURE Try.prog (BINS .eql 3 (.tmp 52) (.const (.int .i64 0)) v97 (.int .i64 0)) fun v98 =>
 PURE Try.prog (PICKS (.bool true) v98 (.bool Bool.false)) fun v99 =>
 R v99 w) (
 PURE Try.prog (PICKS (.bool false) undef (.bool Bool.false)) fun v100 =>
 R v100 w)) (
 PURE Try.prog (PICKS (.bool false) undef (.bool Bool.false)) fun v101 =>
 COND v101 (
 CALL Try.prog 13 [v7, (.int .i64 5), (.int .u8 120)] w E fun v102 w =>
 PURE Try.prog (BINS .eql 3 (.tmp 52) (.const (.int .i64 0)) v102 (.int .i64 0)) fun v103 =>
 PURE Try.prog (PICKS (.bool true) v103 (.bool Bool.false)) fun v104 =>
 R v104 w) (
 PURE Try.prog (PICKS (.bool false) undef (.bool Bool.false)) fun v105 =>
 R v105 w))) (
 PURE Try.prog (PICKS (.bool false) undef (.bool Bool.false)) fun v106 =>
 COND v106 (
 CALL Try.prog 13 [v7, (.int .i64 0), (.int .u8 115)] w E fun v107 w =>
 PURE Try.prog (BINS .eql 3 (.tmp 47) (.const (.int .i64 3)) v107 (.int .i64 3)) fun v108 =>
 PURE Try.prog (PICKS (.bool true) v108 (.bool Bool.false)) fun v109 =>
 COND v109 (
 CALL Try.prog 13 [v7, (.int .i64 5), (.int .u8 120)] w E fun v110 w =>
 PURE Try.prog (BINS .eql 3 (.tmp 52) (.const (.int .i64 0)) v110 (.int .i64 0)) fun v111 =>
 PURE Try.prog (PICKS (.bool true) v111 (.bool Bool.false)) fun v112 =>
 R v112 w) (
 PURE Try.prog (PICKS (.bool false) undef (.bool Bool.false)) fun v113 =>
 R v113 w)) (
 PURE Try.prog (PICKS (.bool false) undef (.bool Bool.false)) fun v114 =>
 COND v114 (
 CALL Try.prog 13 [v7, (.int .i64 5), (.int .u8 120)] w E fun v115 w =>
 PURE Try.prog (BINS .eql 3 (.tmp 52) (.const (.int .i64 0)) v115 (.int .i64 0)) fun v116 =>
 PURE Try.prog (PICKS (.bool true) v116 (.bool Bool.false)) fun v117 =>
 R v117 w) (
 PURE Try.prog (PICKS (.bool false) undef (.bool Bool.false)) fun v118 =>
 R v118 w)))) (
 PURE Try.prog (PICKS (.bool false) undef (.bool Bool.false)) fun v119 =>
 COND v119 (
 CALL Try.prog 26 [v9] w E fun v120 w =>
 PURE Try.prog (Instr.build 52 #[(0, (.int .i64 4)), (1, (.int .i64 4))]) fun v121 =>
 PURE Try.prog (BINS .eql 52 (.tmp 41) (.tmp 42) v120 v121) fun v122 =>
 PURE Try.prog (PICKS (.bool true) v122 (.bool Bool.false)) fun v123 =>
 COND v123 (
 CALL Try.prog 13 [v7, (.int .i64 0), (.int .u8 115)] w E fun v124 w =>
 PURE Try.prog (BINS .eql 3 (.tmp 47) (.const (.int .i64 3)) v124 (.int .i64 3)) fun v125 =>
 PURE Try.prog (PICKS (.bool true) v125 (.bool Bool.false)) fun v126 =>
 COND v126 (
 CALL Try.prog 13 [v7, (.int .i64 5), (.int .u8 120)] w E fun v127 w =>
 PURE Try.prog (BINS .eql 3 (.tmp 52) (.const (.int .i64 0)) v127 (.int .i64 0)) fun v128 =>
 PURE Try.prog (PICKS (.bool true) v128 (.bool Bool.false)) fun v129 =>
 R v129 w) (
 PURE Try.prog (PICKS (.bool false) undef (.bool Bool.false)) fun v130 =>
 R v130 w)) (
 PURE Try.prog (PICKS (.bool false) undef (.bool Bool.false)) fun v131 =>
 COND v131 (
 CALL Try.prog 13 [v7, (.int .i64 5), (.int .u8 120)] w E fun v132 w =>
 PURE Try.prog (BINS .eql 3 (.tmp 52) (.const (.int .i64 0)) v132 (.int .i64 0)) fun v133 =>
 PURE Try.prog (PICKS (.bool true) v133 (.bool Bool.false)) fun v134 =>
 R v134 w) (
 PURE Try.prog (PICKS (.bool false) undef (.bool Bool.false)) fun v135 =>
 R v135 w))) (
 PURE Try.prog (PICKS (.bool false) undef (.bool Bool.false)) fun v136 =>
 COND v136 (
 CALL Try.prog 13 [v7, (.int .i64 0), (.int .u8 115)] w E fun v137 w =>
 PURE Try.prog (BINS .eql 3 (.tmp 47) (.const (.int .i64 3)) v137 (.int .i64 3)) fun v138 =>
 PURE Try.prog (PICKS (.bool true) v138 (.bool Bool.false)) fun v139 =>
 COND v139 (
 CALL Try.prog 13 [v7, (.int .i64 5), (.int .u8 120)] w E fun v140 w =>
 PURE Try.prog (BINS .eql 3 (.tmp 52) (.const (.int .i64 0)) v140 (.int .i64 0)) fun v141 =>
 PURE Try.prog (PICKS (.bool true) v141 (.bool Bool.false)) fun v142 =>
 R v142 w) (
 PURE Try.prog (PICKS (.bool false) undef (.bool Bool.false)) fun v143 =>
 R v143 w)) (
 PURE Try.prog (PICKS (.bool false) undef (.bool Bool.false)) fun v144 =>
 COND v144 (
 CALL Try.prog 13 [v7, (.int .i64 5), (.int .u8 120)] w E fun v145 w =>
 PURE Try.prog (BINS .eql 3 (.tmp 52) (.const (.int .i64 0)) v145 (.int .i64 0)) fun v146 =>
 PURE Try.prog (PICKS (.bool true) v146 (.bool Bool.false)) fun v147 =>
 R v147 w) (
 PURE Try.prog (PICKS (.bool false) undef (.bool Bool.false)) fun v148 =>
 R v148 w)))))) (
 PURE Try.prog (PICKS (.bool false) undef (.bool Bool.false)) fun v149 =>
 COND v149 (
 CALL Try.prog 16 [v7] w E fun v150 w =>
 PURE Try.prog (BINS .eql 3 (.tmp 29) (.const (.int .i64 4)) v150 (.int .i64 4)) fun v151 =>
 PURE Try.prog (PICKS (.bool true) v151 (.bool Bool.false)) fun v152 =>
 COND v152 (
 PURE Try.prog (Instr.build 69 #[(0, (.int .i64 1)), (1, (.int .i64 4))]) fun v153 =>
 PURE Try.prog (Instr.build 69 #[(0, (.int .i64 2)), (1, (.int .i64 4))]) fun v154 =>
 RUN Try.prog (Instr.buildSlice 49 2 #[(0, v153), (1, v154)]) w fun v155 w =>
 CALL Try.prog 30 [v12, v155] w E fun v156 w =>
 PURE Try.prog (PICKS (.bool true) v156 (.bool Bool.false)) fun v157 =>
 COND v157 (
 CALL Try.prog 26 [v9] w E fun v158 w =>
 PURE Try.prog (Instr.build 52 #[(0, (.int .i64 4)), (1, (.int .i64 4))]) fun v159 =>
 PURE Try.prog (BINS .eql 52 (.tmp 41) (.tmp 42) v158 v159) fun v160 =>
 PURE Try.prog (PICKS (.bool true) v160 (.bool Bool.false)) fun v161 =>
 COND v161 (
 CALL Try.prog 13 [v7, (.int .i64 0), (.int .u8 115)] w E fun v162 w =>
 PURE Try.prog (BINS .eql 3 (.tmp 47) (.const (.int .i64 3)) v162 (.int .i64 3)) fun v163 =>
 PURE Try.prog (PICKS (.bool true) v163 (.bool Bool.false)) fun v164 =>
 COND v164 (
 CALL Try.prog 13 [v7, (.int .i64 5), (.int .u8 120)] w E fun v165 w =>
 PURE Try.prog (BINS .eql 3 (.tmp 52) (.const (.int .i64 0)) v165 (.int .i64 0)) fun v166 =>
 PURE Try.prog (PICKS (.bool true) v166 (.bool Bool.false)) fun v167 =>
 R v167 w) (
 PURE Try.prog (PICKS (.bool false) undef (.bool Bool.false)) fun v168 =>
 R v168 w)) (
 PURE Try.prog (PICKS (.bool false) undef (.bool Bool.false)) fun v169 =>
 COND v169 (
 CALL Try.prog 13 [v7, (.int .i64 5), (.int .u8 120)] w E fun v170 w =>
 PURE Try.prog (BINS .eql 3 (.tmp 52) (.const (.int .i64 0)) v170 (.int .i64 0)) fun v171 =>
 PURE Try.prog (PICKS (.bool true) v171 (.bool Bool.false)) fun v172 =>
 R v172 w) (
 PURE Try.prog (PICKS (.bool false) undef (.bool Bool.false)) fun v173 =>
 R v173 w))) (
 PURE Try.prog (PICKS (.bool false) undef (.bool Bool.false)) fun v174 =>
 COND v174 (
 CALL Try.prog 13 [v7, (.int .i64 0), (.int .u8 115)] w E fun v175 w =>
 PURE Try.prog (BINS .eql 3 (.tmp 47) (.const (.int .i64 3)) v175 (.int .i64 3)) fun v176 =>
 PURE Try.prog (PICKS (.bool true) v176 (.bool Bool.false)) fun v177 =>
 COND v177 (
 CALL Try.prog 13 [v7, (.int .i64 5), (.int .u8 120)] w E fun v178 w =>
 PURE Try.prog (BINS .eql 3 (.tmp 52) (.const (.int .i64 0)) v178 (.int .i64 0)) fun v179 =>
 PURE Try.prog (PICKS (.bool true) v179 (.bool Bool.false)) fun v180 =>
 R v180 w) (
 PURE Try.prog (PICKS (.bool false) undef (.bool Bool.false)) fun v181 =>
 R v181 w)) (
 PURE Try.prog (PICKS (.bool false) undef (.bool Bool.false)) fun v182 =>
 COND v182 (
 CALL Try.prog 13 [v7, (.int .i64 5), (.int .u8 120)] w E fun v183 w =>
 PURE Try.prog (BINS .eql 3 (.tmp 52) (.const (.int .i64 0)) v183 (.int .i64 0)) fun v184 =>
 PURE Try.prog (PICKS (.bool true) v184 (.bool Bool.false)) fun v185 =>
 R v185 w) (
 PURE Try.prog (PICKS (.bool false) undef (.bool Bool.false)) fun v186 =>
 R v186 w)))) (
 PURE Try.prog (PICKS (.bool false) undef (.bool Bool.false)) fun v187 =>
 COND v187 (
 CALL Try.prog 26 [v9] w E fun v188 w =>
 PURE Try.prog (Instr.build 52 #[(0, (.int .i64 4)), (1, (.int .i64 4))]) fun v189 =>
 PURE Try.prog (BINS .eql 52 (.tmp 41) (.tmp 42) v188 v189) fun v190 =>
 PURE Try.prog (PICKS (.bool true) v190 (.bool Bool.false)) fun v191 =>
 COND v191 (
 CALL Try.prog 13 [v7, (.int .i64 0), (.int .u8 115)] w E fun v192 w =>
 PURE Try.prog (BINS .eql 3 (.tmp 47) (.const (.int .i64 3)) v192 (.int .i64 3)) fun v193 =>
 PURE Try.prog (PICKS (.bool true) v193 (.bool Bool.false)) fun v194 =>
 COND v194 (
 CALL Try.prog 13 [v7, (.int .i64 5), (.int .u8 120)] w E fun v195 w =>
 PURE Try.prog (BINS .eql 3 (.tmp 52) (.const (.int .i64 0)) v195 (.int .i64 0)) fun v196 =>
 PURE Try.prog (PICKS (.bool true) v196 (.bool Bool.false)) fun v197 =>
 R v197 w) (
 PURE Try.prog (PICKS (.bool false) undef (.bool Bool.false)) fun v198 =>
 R v198 w)) (
 PURE Try.prog (PICKS (.bool false) undef (.bool Bool.false)) fun v199 =>
 COND v199 (
 CALL Try.prog 13 [v7, (.int .i64 5), (.int .u8 120)] w E fun v200 w =>
 PURE Try.prog (BINS .eql 3 (.tmp 52) (.const (.int .i64 0)) v200 (.int .i64 0)) fun v201 =>
 PURE Try.prog (PICKS (.bool true) v201 (.bool Bool.false)) fun v202 =>
 R v202 w) (
 PURE Try.prog (PICKS (.bool false) undef (.bool Bool.false)) fun v203 =>
 R v203 w))) (
 PURE Try.prog (PICKS (.bool false) undef (.bool Bool.false)) fun v204 =>
 COND v204 (
 CALL Try.prog 13 [v7, (.int .i64 0), (.int .u8 115)] w E fun v205 w =>
 PURE Try.prog (BINS .eql 3 (.tmp 47) (.const (.int .i64 3)) v205 (.int .i64 3)) fun v206 =>
 PURE Try.prog (PICKS (.bool true) v206 (.bool Bool.false)) fun v207 =>
 COND v207 (
 CALL Try.prog 13 [v7, (.int .i64 5), (.int .u8 120)] w E fun v208 w =>
 PURE Try.prog (BINS .eql 3 (.tmp 52) (.const (.int .i64 0)) v208 (.int .i64 0)) fun v209 =>
 PURE Try.prog (PICKS (.bool true) v209 (.bool Bool.false)) fun v210 =>
 R v210 w) (
 PURE Try.prog (PICKS (.bool false) undef (.bool Bool.false)) fun v211 =>
 R v211 w)) (
 PURE Try.prog (PICKS (.bool false) undef (.bool Bool.false)) fun v212 =>
 COND v212 (
 CALL Try.prog 13 [v7, (.int .i64 5), (.int .u8 120)] w E fun v213 w =>
 PURE Try.prog (BINS .eql 3 (.tmp 52) (.const (.int .i64 0)) v213 (.int .i64 0)) fun v214 =>
 PURE Try.prog (PICKS (.bool true) v214 (.bool Bool.false)) fun v215 =>
 R v215 w) (
 PURE Try.prog (PICKS (.bool false) undef (.bool Bool.false)) fun v216 =>
 R v216 w))))) (
 PURE Try.prog (PICKS (.bool false) undef (.bool Bool.false)) fun v217 =>
 COND v217 (
 PURE Try.prog (Instr.build 69 #[(0, (.int .i64 1)), (1, (.int .i64 4))]) fun v218 =>
 PURE Try.prog (Instr.build 69 #[(0, (.int .i64 2)), (1, (.int .i64 4))]) fun v219 =>
 RUN Try.prog (Instr.buildSlice 49 2 #[(0, v218), (1, v219)]) w fun v220 w =>
 CALL Try.prog 30 [v12, v220] w E fun v221 w =>
 PURE Try.prog (PICKS (.bool true) v221 (.bool Bool.false)) fun v222 =>
 COND v222 (
 CALL Try.prog 26 [v9] w E fun v223 w =>
 PURE Try.prog (Instr.build 52 #[(0, (.int .i64 4)), (1, (.int .i64 4))]) fun v224 =>
 PURE Try.prog (BINS .eql 52 (.tmp 41) (.tmp 42) v223 v224) fun v225 =>
 PURE Try.prog (PICKS (.bool true) v225 (.bool Bool.false)) fun v226 =>
 COND v226 (
 CALL Try.prog 13 [v7, (.int .i64 0), (.int .u8 115)] w E fun v227 w =>
 PURE Try.prog (BINS .eql 3 (.tmp 47) (.const (.int .i64 3)) v227 (.int .i64 3)) fun v228 =>
 PURE Try.prog (PICKS (.bool true) v228 (.bool Bool.false)) fun v229 =>
 COND v229 (
 CALL Try.prog 13 [v7, (.int .i64 5), (.int .u8 120)] w E fun v230 w =>
 PURE Try.prog (BINS .eql 3 (.tmp 52) (.const (.int .i64 0)) v230 (.int .i64 0)) fun v231 =>
 PURE Try.prog (PICKS (.bool true) v231 (.bool Bool.false)) fun v232 =>
 R v232 w) (
 PURE Try.prog (PICKS (.bool false) undef (.bool Bool.false)) fun v233 =>
 R v233 w)) (
 PURE Try.prog (PICKS (.bool false) undef (.bool Bool.false)) fun v234 =>
 COND v234 (
 CALL Try.prog 13 [v7, (.int .i64 5), (.int .u8 120)] w E fun v235 w =>
 PURE Try.prog (BINS .eql 3 (.tmp 52) (.const (.int .i64 0)) v235 (.int .i64 0)) fun v236 =>
 PURE Try.prog (PICKS (.bool true) v236 (.bool Bool.false)) fun v237 =>
 R v237 w) (
 PURE Try.prog (PICKS (.bool false) undef (.bool Bool.false)) fun v238 =>
 R v238 w))) (
 PURE Try.prog (PICKS (.bool false) undef (.bool Bool.false)) fun v239 =>
 COND v239 (
 CALL Try.prog 13 [v7, (.int .i64 0), (.int .u8 115)] w E fun v240 w =>
 PURE Try.prog (BINS .eql 3 (.tmp 47) (.const (.int .i64 3)) v240 (.int .i64 3)) fun v241 =>
 PURE Try.prog (PICKS (.bool true) v241 (.bool Bool.false)) fun v242 =>
 COND v242 (
 CALL Try.prog 13 [v7, (.int .i64 5), (.int .u8 120)] w E fun v243 w =>
 PURE Try.prog (BINS .eql 3 (.tmp 52) (.const (.int .i64 0)) v243 (.int .i64 0)) fun v244 =>
 PURE Try.prog (PICKS (.bool true) v244 (.bool Bool.false)) fun v245 =>
 R v245 w) (
 PURE Try.prog (PICKS (.bool false) undef (.bool Bool.false)) fun v246 =>
 R v246 w)) (
 PURE Try.prog (PICKS (.bool false) undef (.bool Bool.false)) fun v247 =>
 COND v247 (
 CALL Try.prog 13 [v7, (.int .i64 5), (.int .u8 120)] w E fun v248 w =>
 PURE Try.prog (BINS .eql 3 (.tmp 52) (.const (.int .i64 0)) v248 (.int .i64 0)) fun v249 =>
 PURE Try.prog (PICKS (.bool true) v249 (.bool Bool.false)) fun v250 =>
 R v250 w) (
 PURE Try.prog (PICKS (.bool false) undef (.bool Bool.false)) fun v251 =>
 R v251 w)))) (
 PURE Try.prog (PICKS (.bool false) undef (.bool Bool.false)) fun v252 =>
 COND v252 (
 CALL Try.prog 26 [v9] w E fun v253 w =>
 PURE Try.prog (Instr.build 52 #[(0, (.int .i64 4)), (1, (.int .i64 4))]) fun v254 =>
 PURE Try.prog (BINS .eql 52 (.tmp 41) (.tmp 42) v253 v254) fun v255 =>
 PURE Try.prog (PICKS (.bool true) v255 (.bool Bool.false)) fun v256 =>
 COND v256 (
 CALL Try.prog 13 [v7, (.int .i64 0), (.int .u8 115)] w E fun v257 w =>
 PURE Try.prog (BINS .eql 3 (.tmp 47) (.const (.int .i64 3)) v257 (.int .i64 3)) fun v258 =>
 PURE Try.prog (PICKS (.bool true) v258 (.bool Bool.false)) fun v259 =>
 COND v259 (
 CALL Try.prog 13 [v7, (.int .i64 5), (.int .u8 120)] w E fun v260 w =>
 PURE Try.prog (BINS .eql 3 (.tmp 52) (.const (.int .i64 0)) v260 (.int .i64 0)) fun v261 =>
 PURE Try.prog (PICKS (.bool true) v261 (.bool Bool.false)) fun v262 =>
 R v262 w) (
 PURE Try.prog (PICKS (.bool false) undef (.bool Bool.false)) fun v263 =>
 R v263 w)) (
 PURE Try.prog (PICKS (.bool false) undef (.bool Bool.false)) fun v264 =>
 COND v264 (
 CALL Try.prog 13 [v7, (.int .i64 5), (.int .u8 120)] w E fun v265 w =>
 PURE Try.prog (BINS .eql 3 (.tmp 52) (.const (.int .i64 0)) v265 (.int .i64 0)) fun v266 =>
 PURE Try.prog (PICKS (.bool true) v266 (.bool Bool.false)) fun v267 =>
 R v267 w) (
 PURE Try.prog (PICKS (.bool false) undef (.bool Bool.false)) fun v268 =>
 R v268 w))) (
 PURE Try.prog (PICKS (.bool false) undef (.bool Bool.false)) fun v269 =>
 COND v269 (
 CALL Try.prog 13 [v7, (.int .i64 0), (.int .u8 115)] w E fun v270 w =>
 PURE Try.prog (BINS .eql 3 (.tmp 47) (.const (.int .i64 3)) v270 (.int .i64 3)) fun v271 =>
 PURE Try.prog (PICKS (.bool true) v271 (.bool Bool.false)) fun v272 =>
 COND v272 (
 CALL Try.prog 13 [v7, (.int .i64 5), (.int .u8 120)] w E fun v273 w =>
 PURE Try.prog (BINS .eql 3 (.tmp 52) (.const (.int .i64 0)) v273 (.int .i64 0)) fun v274 =>
 PURE Try.prog (PICKS (.bool true) v274 (.bool Bool.false)) fun v275 =>
 R v275 w) (
 PURE Try.prog (PICKS (.bool false) undef (.bool Bool.false)) fun v276 =>
 R v276 w)) (
 PURE Try.prog (PICKS (.bool false) undef (.bool Bool.false)) fun v277 =>
 COND v277 (
 CALL Try.prog 13 [v7, (.int .i64 5), (.int .u8 120)] w E fun v278 w =>
 PURE Try.prog (BINS .eql 3 (.tmp 52) (.const (.int .i64 0)) v278 (.int .i64 0)) fun v279 =>
 PURE Try.prog (PICKS (.bool true) v279 (.bool Bool.false)) fun v280 =>
 R v280 w) (
 PURE Try.prog (PICKS (.bool false) undef (.bool Bool.false)) fun v281 =>
 R v281 w))))))
theorem by_seinelaw10_awake {R : Value → World → Prop} {w : World} (h : sh_seinelaw10_awake NOPE R w) : RET Try.prog 9 [] w R :=
  ⟨by kernel_rfl, calls_by [] Try.func9 (by kernel_rfl) (by kernel_rfl) (by kernel_rfl) h⟩

def sh_seinelaw10_texts (l_1 : Value) (E : List PanicEntry → World → Prop) (R : Value → World → Prop) (w : World) : Prop :=
 LOOP2 (fun out_2 i_3 w next1 =>
 PURE Try.prog (Builtin.len_ #[22] 3 #[l_1]) fun v4 =>
 PURE Try.prog (BINS .lss 3 (.tmp 6) (.tmp 8) i_3 v4) fun v5 =>
 COND v5 (
 PURE Try.prog (Instr.indexAt 22 l_1 i_3) fun v6 =>
 RUN Try.prog (Instr.loadAt 42 v6) w fun v7 w =>
 PURE Try.prog (Builtin.len_ #[42] 3 #[v7]) fun v8 =>
 PURE Try.prog (BINS .gtr 3 (.tmp 16) (.const (.int .i64 40)) v8 (.int .i64 40)) fun v9 =>
 COND v9 (
 R (.tuple #[(.slice Option.none 0 0), (.bool Bool.false)]) w) (
 PURE Try.prog (Instr.indexAt 22 l_1 i_3) fun v10 =>
 RUN Try.prog (Instr.loadAt 42 v10) w fun v11 w =>
 RUN Try.prog (convert 42 9 v11) w fun v12 w =>
 RUN Try.prog (Instr.buildSlice 24 1 #[(0, v12)]) w fun v13 w =>
 RUN Try.prog (Builtin.append_ #[24, 24] 24 #[out_2, v13]) w fun v14 w =>
 PURE Try.prog (BINS .add 3 (.tmp 10) (.const (.int .i64 1)) i_3 (.int .i64 1)) fun v15 =>
 next1 v14 v15 w)) (
 PURE Try.prog (Builtin.len_ #[22] 3 #[l_1]) fun v16 =>
 PURE Try.prog (BINS .leq 3 (.tmp 28) (.const (.int .i64 12)) v16 (.int .i64 12)) fun v17 =>
 R (.tuple #[out_2, v17]) w)) (.slice Option.none 0 0) (.int .i64 0) w
theorem by_seinelaw10_texts {l_1 : Value} {R : Value → World → Prop} {w : World} (h : sh_seinelaw10_texts l_1 NOPE R w) : RET Try.prog 10 [l_1] w R :=
  ⟨by kernel_rfl, calls_by [(3, [4, 5])] Try.func10 (by kernel_rfl) (by kernel_rfl) (by kernel_rfl) h⟩

def sh_dfa_New (l_1 : Value) (E : List PanicEntry → World → Prop) (R : Value → World → Prop) (w : World) : Prop :=
 CALL Try.prog 22 [l_1] w E fun v2 w =>
 CALL Try.prog 23 [v2] w E fun v3 w =>
 PURE Try.prog (BINS .gtr 3 (.tmp 9) (.const (.int .i64 160)) v3 (.int .i64 160)) fun v4 =>
 COND v4 (
 R (.tuple #[(.pointer Option.none), (.int .i64 14)]) w) (
 CALL Try.prog 40 [v2] w E fun v5 w =>
 CALL Try.prog 12 [l_1] w E fun v6 w =>
 PURE Try.prog (Instr.build 74 #[(0, v2), (1, v5), (2, v6)]) fun v7 =>
 RUN Try.prog (Instr.box 74 v7) w fun v8 w =>
 CALL Try.prog 41 [v8] w E fun v9 w =>
 R (.tuple #[v8, (.int .i64 0)]) w)
theorem by_dfa_New {l_1 : Value} {R : Value → World → Prop} {w : World} (h : sh_dfa_New l_1 NOPE R w) : RET Try.prog 11 [l_1] w R :=
  ⟨by kernel_rfl, calls_by [] Try.func11 (by kernel_rfl) (by kernel_rfl) (by kernel_rfl) h⟩

def sh_classes_Of (l_1 : Value) (E : List PanicEntry → World → Prop) (R : Value → World → Prop) (w : World) : Prop :=
 RUN Try.prog (Instr.alloc 33 true (.tuple #[])) w fun v2 w =>
 RUN Try.prog (Instr.alloc 77 true (.tuple #[])) w fun s_3 w =>
 PURE Try.prog (Builtin.len_ #[22] 3 #[l_1]) fun v4 =>
 LOOP1 (fun v5 w next1 =>
 PURE Try.prog (BINS .lss 3 (.tmp 11) (.tmp 10) v5 v4) fun v6 =>
 COND v6 (
 PURE Try.prog (Instr.indexAt 22 l_1 v5) fun v7 =>
 RUN Try.prog (Instr.loadAt 42 v7) w fun v8 w =>
 DRAW w fun S w =>
 READ Try.prog S (Instr.loadAt 77 s_3) w fun v9 =>
 CALL Try.prog 43 [v8] w E fun v10 w =>
 KEEPS S w fun S =>
 CALL Try.prog 42 [v9, v10] w E fun v11 w =>
 RUNU Try.prog (Instr.storeAt 77 s_3 v11) w fun w =>
 PURE Try.prog (BINS .add 3 (.tmp 11) (.const (.int .i64 1)) v5 (.int .i64 1)) fun v12 =>
 next1 v12 w) (
 RUN Try.prog (Instr.alloc 33 true (.tuple #[])) w fun c_13 w =>
 RUN Try.prog (Instr.loadAt 77 s_3) w fun v14 w =>
 CALL Try.prog 44 [v14] w E fun v15 w =>
 PURE Try.prog (Builtin.len_ #[42] 3 #[v15]) fun v16 =>
 LOOP1 (fun v17 w next2 =>
 PURE Try.prog (BINS .lss 3 (.tmp 23) (.tmp 22) v17 v16) fun v18 =>
 COND v18 (
 PURE Try.prog (Instr.indexAt 42 v15 v17) fun v19 =>
 RUN Try.prog (Instr.loadAt 5 v19) w fun v20 w =>
 PURE Try.prog (Instr.fieldAt 33 c_13 1) fun v21 =>
 RUN Try.prog (Instr.loadAt 3 v21) w fun v22 w =>
 PURE Try.prog (BINS .add 3 (.tmp 28) (.const (.int .i64 1)) v22 (.int .i64 1)) fun v23 =>
 PURE Try.prog (Instr.fieldAt 33 c_13 1) fun v24 =>
 RUNU Try.prog (Instr.storeAt 3 v24 v23) w fun w =>
 PURE Try.prog (Instr.fieldAt 33 c_13 1) fun v25 =>
 RUN Try.prog (Instr.loadAt 3 v25) w fun v26 w =>
 PURE Try.prog (Instr.fieldAt 33 c_13 0) fun v27 =>
 PURE Try.prog (Instr.indexAt 31 v27 v20) fun v28 =>
 RUNU Try.prog (Instr.storeAt 3 v28 v26) w fun w =>
 PURE Try.prog (BINS .add 3 (.tmp 23) (.const (.int .i64 1)) v17 (.int .i64 1)) fun v29 =>
 next2 v29 w) (
 RUN Try.prog (Instr.loadAt 33 c_13) w fun v30 w =>
 RUNU Try.prog (Instr.storeAt 33 v2 v30) w fun w =>
 LOADRES Try.prog 33 v2 w fun r => R r w)) (.int .i64 0) w)) (.int .i64 0) w
theorem by_classes_Of {l_1 : Value} {R : Value → World → Prop} {w : World} (h : sh_classes_Of l_1 NOPE R w) : RET Try.prog 12 [l_1] w R :=
  ⟨by kernel_rfl, calls_by [(3, [11]), (9, [23])] Try.func12 (by kernel_rfl) (by kernel_rfl) (by kernel_rfl) h⟩

def sh_dfa_DFA_Next (d_1 state_2 c_3 : Value) (E : List PanicEntry → World → Prop) (R : Value → World → Prop) (w : World) : Prop :=
 JOIN0 (fun J1 =>
 PURE Try.prog (BINS .lss 3 (.tmp 7) (.const (.int .i64 0)) state_2 (.int .i64 0)) fun v4 =>
 COND v4 (
 PURE Try.prog (PICKS (.bool true) (.bool Bool.true) undef) fun v5 =>
 COND v5 (
 R (.int .i64 (-1)) w) (
 J1 w)) (
 CALL Try.prog 14 [d_1] w E fun v6 w =>
 PURE Try.prog (BINS .geq 3 (.tmp 10) (.tmp 12) state_2 v6) fun v7 =>
 PURE Try.prog (PICKS (.bool false) (.bool Bool.true) v7) fun v8 =>
 COND v8 (
 R (.int .i64 (-1)) w) (
 J1 w))) (fun w =>
 DRAW w fun S w =>
 PURE Try.prog (NILS d_1) fun v9 =>
 PURE Try.prog (Instr.fieldAt 74 v9 2) fun v10 =>
 READ Try.prog S (Instr.loadAt 33 v10) w fun v11 =>
 CALL Try.prog 45 [d_1, state_2] w E fun v12 w =>
 KEEPS S w fun S =>
 CALL Try.prog 15 [v11, c_3] w E fun v13 w =>
 KEEPS S w fun S =>
 PURE Try.prog (Instr.indexAt 72 v12 v13) fun v14 =>
 READ Try.prog S (Instr.loadAt 3 v14) w fun v15 =>
 R v15 w)
theorem by_dfa_DFA_Next {d_1 state_2 c_3 : Value} {R : Value → World → Prop} {w : World} (h : sh_dfa_DFA_Next d_1 state_2 c_3 NOPE R w) : RET Try.prog 13 [d_1, state_2, c_3] w R :=
  ⟨by kernel_rfl, calls_by [(11003, [])] Try.func13 (by kernel_rfl) (by kernel_rfl) (by kernel_rfl) h⟩

def sh_dfa_DFA_States (d_1 : Value) (E : List PanicEntry → World → Prop) (R : Value → World → Prop) (w : World) : Prop :=
 PURE Try.prog (BINS .eql 27 (.tmp 3) (.const (.pointer Option.none)) d_1 (.pointer Option.none)) fun v2 =>
 COND v2 (
 R (.int .i64 0) w) (
 PURE Try.prog (NILS d_1) fun v3 =>
 PURE Try.prog (Instr.fieldAt 74 v3 0) fun v4 =>
 RUN Try.prog (Instr.loadAt 45 v4) w fun v5 w =>
 CALL Try.prog 23 [v5] w E fun v6 w =>
 R v6 w)
theorem by_dfa_DFA_States {d_1 : Value} {R : Value → World → Prop} {w : World} (h : sh_dfa_DFA_States d_1 NOPE R w) : RET Try.prog 14 [d_1] w R :=
  ⟨by kernel_rfl, calls_by [] Try.func14 (by kernel_rfl) (by kernel_rfl) (by kernel_rfl) h⟩

def sh_classes_Classes_Class (c_1 b_2 : Value) (E : List PanicEntry → World → Prop) (R : Value → World → Prop) (w : World) : Prop :=
 RUN Try.prog (Instr.box 33 c_1) w fun c_3 w =>
 PURE Try.prog (Instr.fieldAt 33 c_3 0) fun v4 =>
 PURE Try.prog (Instr.indexAt 31 v4 b_2) fun v5 =>
 RUN Try.prog (Instr.loadAt 3 v5) w fun v6 w =>
 R v6 w
theorem by_classes_Classes_Class {c_1 b_2 : Value} {R : Value → World → Prop} {w : World} (h : sh_classes_Classes_Class c_1 b_2 NOPE R w) : RET Try.prog 15 [c_1, b_2] w R :=
  ⟨by kernel_rfl, calls_by [] Try.func15 (by kernel_rfl) (by kernel_rfl) (by kernel_rfl) h⟩

def sh_dfa_DFA_Width (d_1 : Value) (E : List PanicEntry → World → Prop) (R : Value → World → Prop) (w : World) : Prop :=
 PURE Try.prog (BINS .eql 27 (.tmp 3) (.const (.pointer Option.none)) d_1 (.pointer Option.none)) fun v2 =>
 COND v2 (
 R (.int .i64 0) w) (
 PURE Try.prog (NILS d_1) fun v3 =>
 PURE Try.prog (Instr.fieldAt 74 v3 2) fun v4 =>
 RUN Try.prog (Instr.loadAt 33 v4) w fun v5 w =>
 CALL Try.prog 17 [v5] w E fun v6 w =>
 R v6 w)
theorem by_dfa_DFA_Width {d_1 : Value} {R : Value → World → Prop} {w : World} (h : sh_dfa_DFA_Width d_1 NOPE R w) : RET Try.prog 16 [d_1] w R :=
  ⟨by kernel_rfl, calls_by [] Try.func16 (by kernel_rfl) (by kernel_rfl) (by kernel_rfl) h⟩

def sh_classes_Classes_Len (c_1 : Value) (E : List PanicEntry → World → Prop) (R : Value → World → Prop) (w : World) : Prop :=
 RUN Try.prog (Instr.box 33 c_1) w fun c_2 w =>
 PURE Try.prog (Instr.fieldAt 33 c_2 1) fun v3 =>
 RUN Try.prog (Instr.loadAt 3 v3) w fun v4 w =>
 PURE Try.prog (BINS .add 3 (.tmp 4) (.const (.int .i64 1)) v4 (.int .i64 1)) fun v5 =>
 R v5 w
theorem by_classes_Classes_Len {c_1 : Value} {R : Value → World → Prop} {w : World} (h : sh_classes_Classes_Len c_1 NOPE R w) : RET Try.prog 17 [c_1] w R :=
  ⟨by kernel_rfl, calls_by [] Try.func17 (by kernel_rfl) (by kernel_rfl) (by kernel_rfl) h⟩

def sh_seineref06_Paths (l_1 : Value) (E : List PanicEntry → World → Prop) (R : Value → World → Prop) (w : World) : Prop :=
 RUN Try.prog (Instr.buildSlice 24 1 #[(0, (.string { data := #[] }))]) w fun v2 w =>
 LOOP2 (fun out_3 i_4 w next1 =>
 PURE Try.prog (Builtin.len_ #[24] 3 #[l_1]) fun v5 =>
 PURE Try.prog (BINS .lss 3 (.tmp 7) (.tmp 9) i_4 v5) fun v6 =>
 COND v6 (
 LOOP2 (fun out_7 n_8 w next2 =>
 PURE Try.prog (Instr.indexAt 24 l_1 i_4) fun v9 =>
 RUN Try.prog (Instr.loadAt 9 v9) w fun v10 w =>
 PURE Try.prog (Builtin.len_ #[9] 3 #[v10]) fun v11 =>
 PURE Try.prog (BINS .leq 3 (.tmp 13) (.tmp 18) n_8 v11) fun v12 =>
 COND v12 (
 PURE Try.prog (Instr.indexAt 24 l_1 i_4) fun v13 =>
 RUN Try.prog (Instr.loadAt 9 v13) w fun v14 w =>
 PURE Try.prog (Instr.sliceAt 9 v14 none (some n_8) none) fun v15 =>
 CALL Try.prog 46 [out_7, v15] w E fun v16 w =>
 PURE Try.prog (BINS .lss 3 (.tmp 29) (.const (.int .i64 0)) v16 (.int .i64 0)) fun v17 =>
 COND v17 (
 PURE Try.prog (Instr.indexAt 24 l_1 i_4) fun v18 =>
 RUN Try.prog (Instr.loadAt 9 v18) w fun v19 w =>
 PURE Try.prog (Instr.sliceAt 9 v19 none (some n_8) none) fun v20 =>
 RUN Try.prog (Instr.buildSlice 24 1 #[(0, v20)]) w fun v21 w =>
 RUN Try.prog (Builtin.append_ #[24, 24] 24 #[out_7, v21]) w fun v22 w =>
 PURE Try.prog (BINS .add 3 (.tmp 20) (.const (.int .i64 1)) n_8 (.int .i64 1)) fun v23 =>
 next2 v22 v23 w) (
 PURE Try.prog (BINS .add 3 (.tmp 20) (.const (.int .i64 1)) n_8 (.int .i64 1)) fun v24 =>
 next2 out_7 v24 w)) (
 PURE Try.prog (BINS .add 3 (.tmp 11) (.const (.int .i64 1)) i_4 (.int .i64 1)) fun v25 =>
 next1 out_7 v25 w)) out_3 (.int .i64 1) w) (
 R out_3 w)) v2 (.int .i64 0) w
theorem by_seineref06_Paths {l_1 : Value} {R : Value → World → Prop} {w : World} (h : sh_seineref06_Paths l_1 NOPE R w) : RET Try.prog 18 [l_1] w R :=
  ⟨by kernel_rfl, calls_by [(3, [3, 4]), (6, [3, 5])] Try.func18 (by kernel_rfl) (by kernel_rfl) (by kernel_rfl) h⟩

def sh_seineref09_Len (l_1 : Value) (E : List PanicEntry → World → Prop) (R : Value → World → Prop) (w : World) : Prop :=
 CALL Try.prog 48 [l_1] w E fun v2 w =>
 CALL Try.prog 47 [v2] w E fun v3 w =>
 PURE Try.prog (Builtin.len_ #[9] 3 #[v3]) fun v4 =>
 PURE Try.prog (BINS .add 3 (.const (.int .i64 1)) (.tmp 6) (.int .i64 1) v4) fun v5 =>
 R v5 w
theorem by_seineref09_Len {l_1 : Value} {R : Value → World → Prop} {w : World} (h : sh_seineref09_Len l_1 NOPE R w) : RET Try.prog 19 [l_1] w R :=
  ⟨by kernel_rfl, calls_by [] Try.func19 (by kernel_rfl) (by kernel_rfl) (by kernel_rfl) h⟩

def sh_seineref10_Next (paths_1 state_2 c_3 : Value) (E : List PanicEntry → World → Prop) (R : Value → World → Prop) (w : World) : Prop :=
 JOIN0 (fun J1 =>
 PURE Try.prog (BINS .lss 3 (.tmp 7) (.const (.int .i64 0)) state_2 (.int .i64 0)) fun v4 =>
 COND v4 (
 PURE Try.prog (PICKS (.bool true) (.bool Bool.true) undef) fun v5 =>
 COND v5 (
 R (.int .i64 (-1)) w) (
 J1 w)) (
 PURE Try.prog (Builtin.len_ #[24] 3 #[paths_1]) fun v6 =>
 PURE Try.prog (BINS .geq 3 (.tmp 10) (.tmp 12) state_2 v6) fun v7 =>
 PURE Try.prog (PICKS (.bool false) (.bool Bool.true) v7) fun v8 =>
 COND v8 (
 R (.int .i64 (-1)) w) (
 J1 w))) (fun w =>
 DRAW w fun S w =>
 PURE Try.prog (Instr.indexAt 24 paths_1 state_2) fun v9 =>
 READ Try.prog S (Instr.loadAt 9 v9) w fun v10 =>
 RUN Try.prog (Instr.buildSlice 42 1 #[(0, c_3)]) w fun v11 w =>
 KEEPS S w fun S =>
 READ Try.prog S (convert 42 9 v11) w fun v12 =>
 PURE Try.prog (BINS .add 9 (.tmp 20) (.tmp 23) v10 v12) fun v13 =>
 CALL Try.prog 49 [paths_1, v13] w E fun v14 w =>
 CALL Try.prog 46 [paths_1, v14] w E fun v15 w =>
 R v15 w)
theorem by_seineref10_Next {paths_1 state_2 c_3 : Value} {R : Value → World → Prop} {w : World} (h : sh_seineref10_Next paths_1 state_2 c_3 NOPE R w) : RET Try.prog 20 [paths_1, state_2, c_3] w R :=
  ⟨by kernel_rfl, calls_by [(11003, [])] Try.func20 (by kernel_rfl) (by kernel_rfl) (by kernel_rfl) h⟩

def sh_dfa_DFA_Path (d_1 state_2 : Value) (E : List PanicEntry → World → Prop) (R : Value → World → Prop) (w : World) : Prop :=
 PURE Try.prog (BINS .eql 27 (.tmp 5) (.const (.pointer Option.none)) d_1 (.pointer Option.none)) fun v3 =>
 COND v3 (
 R (.slice Option.none 0 0) w) (
 PURE Try.prog (NILS d_1) fun v4 =>
 PURE Try.prog (Instr.fieldAt 74 v4 0) fun v5 =>
 RUN Try.prog (Instr.loadAt 45 v5) w fun v6 w =>
 CALL Try.prog 50 [v6, state_2] w E fun v7 w =>
 R v7 w)
theorem by_dfa_DFA_Path {d_1 state_2 : Value} {R : Value → World → Prop} {w : World} (h : sh_dfa_DFA_Path d_1 state_2 NOPE R w) : RET Try.prog 21 [d_1, state_2] w R :=
  ⟨by kernel_rfl, calls_by [] Try.func21 (by kernel_rfl) (by kernel_rfl) (by kernel_rfl) h⟩

def sh_trie_Build (l_1 : Value) (E : List PanicEntry → World → Prop) (R : Value → World → Prop) (w : World) : Prop :=
 PURE Try.prog (Instr.build 87 #[(0, (.int .i64 (-1))), (2, (.int .i64 (-1)))]) fun v2 =>
 RUN Try.prog (Instr.buildSlice 88 1 #[(0, v2)]) w fun v3 w =>
 RUN Try.prog (Instr.makeMap 89 none) w fun v4 w =>
 PURE Try.prog (Instr.build 91 #[(0, v3), (1, v4)]) fun v5 =>
 RUN Try.prog (Instr.box 91 v5) w fun v6 w =>
 PURE Try.prog (Builtin.len_ #[22] 3 #[l_1]) fun v7 =>
 LOOP1 (fun v8 w next1 =>
 PURE Try.prog (BINS .lss 3 (.tmp 16) (.tmp 15) v8 v7) fun v9 =>
 COND v9 (
 PURE Try.prog (Instr.indexAt 22 l_1 v8) fun v10 =>
 RUN Try.prog (Instr.loadAt 42 v10) w fun v11 w =>
 PURE Try.prog (Builtin.len_ #[42] 3 #[v11]) fun v12 =>
 LOOP2 (fun at_13 v14 w next2 =>
 PURE Try.prog (BINS .lss 3 (.tmp 23) (.tmp 22) v14 v12) fun v15 =>
 COND v15 (
 PURE Try.prog (Instr.indexAt 42 v11 v14) fun v16 =>
 RUN Try.prog (Instr.loadAt 5 v16) w fun v17 w =>
 CALL Try.prog 51 [v6, at_13, v17] w E fun v18 w =>
 PURE Try.prog (BINS .add 3 (.tmp 23) (.const (.int .i64 1)) v14 (.int .i64 1)) fun v19 =>
 next2 v18 v19 w) (
 PURE Try.prog (NILS v6) fun v20 =>
 PURE Try.prog (Instr.fieldAt 91 v20 0) fun v21 =>
 RUN Try.prog (Instr.loadAt 88 v21) w fun v22 w =>
 PURE Try.prog (Instr.indexAt 88 v22 at_13) fun v23 =>
 PURE Try.prog (Instr.fieldAt 87 v23 2) fun v24 =>
 RUN Try.prog (Instr.loadAt 3 v24) w fun v25 w =>
 PURE Try.prog (BINS .lss 3 (.tmp 39) (.const (.int .i64 0)) v25 (.int .i64 0)) fun v26 =>
 COND v26 (
 PURE Try.prog (NILS v6) fun v27 =>
 PURE Try.prog (Instr.fieldAt 91 v27 0) fun v28 =>
 RUN Try.prog (Instr.loadAt 88 v28) w fun v29 w =>
 PURE Try.prog (Instr.indexAt 88 v29 at_13) fun v30 =>
 PURE Try.prog (Instr.fieldAt 87 v30 2) fun v31 =>
 RUNU Try.prog (Instr.storeAt 3 v31 v8) w fun w =>
 PURE Try.prog (BINS .add 3 (.tmp 16) (.const (.int .i64 1)) v8 (.int .i64 1)) fun v32 =>
 next1 v32 w) (
 PURE Try.prog (BINS .add 3 (.tmp 16) (.const (.int .i64 1)) v8 (.int .i64 1)) fun v33 =>
 next1 v33 w))) (.int .i64 0) (.int .i64 0) w) (
 R v6 w)) (.int .i64 0) w
theorem by_trie_Build {l_1 : Value} {R : Value → World → Prop} {w : World} (h : sh_trie_Build l_1 NOPE R w) : RET Try.prog 22 [l_1] w R :=
  ⟨by kernel_rfl, calls_by [(3, [16]), (7, [6, 23])] Try.func22 (by kernel_rfl) (by kernel_rfl) (by kernel_rfl) h⟩

def sh_trie_Trie_Nodes (t_1 : Value) (E : List PanicEntry → World → Prop) (R : Value → World → Prop) (w : World) : Prop :=
 PURE Try.prog (BINS .eql 45 (.tmp 3) (.const (.pointer Option.none)) t_1 (.pointer Option.none)) fun v2 =>
 COND v2 (
 R (.int .i64 0) w) (
 PURE Try.prog (NILS t_1) fun v3 =>
 PURE Try.prog (Instr.fieldAt 91 v3 0) fun v4 =>
 RUN Try.prog (Instr.loadAt 88 v4) w fun v5 w =>
 PURE Try.prog (Builtin.len_ #[88] 3 #[v5]) fun v6 =>
 R v6 w)
theorem by_trie_Trie_Nodes {t_1 : Value} {R : Value → World → Prop} {w : World} (h : sh_trie_Trie_Nodes t_1 NOPE R w) : RET Try.prog 23 [t_1] w R :=
  ⟨by kernel_rfl, calls_by [] Try.func23 (by kernel_rfl) (by kernel_rfl) (by kernel_rfl) h⟩

def sh_meter_New (E : List PanicEntry → World → Prop) (R : Value → World → Prop) (w : World) : Prop :=
 PURE Try.prog (Instr.build 93 #[]) fun v1 =>
 RUN Try.prog (Instr.box 93 v1) w fun v2 w =>
 R v2 w
theorem by_meter_New {R : Value → World → Prop} {w : World} (h : sh_meter_New NOPE R w) : RET Try.prog 24 [] w R :=
  ⟨by kernel_rfl, calls_by [] Try.func24 (by kernel_rfl) (by kernel_rfl) (by kernel_rfl) h⟩

def sh_dfa_DFA_Scan (d_1 m_2 line_3 : Value) (E : List PanicEntry → World → Prop) (R : Value → World → Prop) (w : World) : Prop :=
 PURE Try.prog (BINS .eql 27 (.tmp 14) (.const (.pointer Option.none)) d_1 (.pointer Option.none)) fun v4 =>
 COND v4 (
 R (.slice Option.none 0 0) w) (
 DRAW w fun S w =>
 PURE Try.prog (NILS d_1) fun v5 =>
 PURE Try.prog (Instr.fieldAt 74 v5 2) fun v6 =>
 READ Try.prog S (Instr.loadAt 33 v6) w fun v7 =>
 PURE Try.prog (NILS d_1) fun v8 =>
 PURE Try.prog (Instr.fieldAt 74 v8 2) fun v9 =>
 READ Try.prog S (Instr.loadAt 33 v9) w fun v10 =>
 PURE Try.prog (NILS d_1) fun v11 =>
 PURE Try.prog (Instr.fieldAt 74 v11 3) fun v12 =>
 READ Try.prog S (Instr.loadAt 72 v12) w fun v13 =>
 CALL Try.prog 52 [m_2, line_3] w E fun v14 w =>
 KEEPS S w fun S =>
 CALL Try.prog 54 [v7] w E fun v15 w =>
 KEEPS S w fun S =>
 CALL Try.prog 17 [v10] w E fun v16 w =>
 KEEPS S w fun S =>
 CALL Try.prog 53 [m_2, v15, v16, v13] w E fun v17 w =>
 CALL Try.prog 55 [v14] w E fun v18 w =>
 LOOP3 (fun out_19 at_20 v21 w next1 =>
 PURE Try.prog (BINS .lss 3 (.tmp 37) (.tmp 36) v21 v18) fun v22 =>
 COND v22 (
 CALL Try.prog 57 [v14, v21] w E fun v23 w =>
 PURE Try.prog (convert 3 5 v23) fun v24 =>
 CALL Try.prog 56 [v17, at_20, v24] w E fun v25 w =>
 PURE Try.prog (NILS d_1) fun v26 =>
 PURE Try.prog (Instr.fieldAt 74 v26 1) fun v27 =>
 RUN Try.prog (Instr.loadAt 70 v27) w fun v28 w =>
 CALL Try.prog 58 [v28, v25] w E fun v29 w =>
 PURE Try.prog (Builtin.len_ #[72] 3 #[v29]) fun v30 =>
 LOOP2 (fun out_31 v32 w next2 =>
 PURE Try.prog (BINS .lss 3 (.tmp 54) (.tmp 53) v32 v30) fun v33 =>
 COND v33 (
 PURE Try.prog (Instr.indexAt 72 v29 v32) fun v34 =>
 RUN Try.prog (Instr.loadAt 3 v34) w fun v35 w =>
 PURE Try.prog (BINS .add 3 (.tmp 59) (.const (.int .i64 1)) v21 (.int .i64 1)) fun v36 =>
 PURE Try.prog (BINS .sub 3 (.tmp 60) (.tmp 61) v36 v35) fun v37 =>
 PURE Try.prog (BINS .add 3 (.tmp 63) (.const (.int .i64 1)) v21 (.int .i64 1)) fun v38 =>
 PURE Try.prog (Instr.build 69 #[(0, v37), (1, v38)]) fun v39 =>
 RUN Try.prog (Instr.buildSlice 49 1 #[(0, v39)]) w fun v40 w =>
 RUN Try.prog (Builtin.append_ #[49, 49] 49 #[out_31, v40]) w fun v41 w =>
 PURE Try.prog (BINS .add 3 (.tmp 54) (.const (.int .i64 1)) v32 (.int .i64 1)) fun v42 =>
 next2 v41 v42 w) (
 PURE Try.prog (BINS .add 3 (.tmp 37) (.const (.int .i64 1)) v21 (.int .i64 1)) fun v43 =>
 next1 out_31 v25 v43 w)) out_19 (.int .i64 0) w) (
 CALL Try.prog 59 [out_19] w E fun v44 w =>
 R v44 w)) (.slice Option.none 0 0) (.int .i64 0) (.int .i64 0) w)
theorem by_dfa_DFA_Scan {d_1 m_2 line_3 : Value} {R : Value → World → Prop} {w : World} (h : sh_dfa_DFA_Scan d_1 m_2 line_3 NOPE R w) : RET Try.prog 25 [d_1, m_2, line_3] w R :=
  ⟨by kernel_rfl, calls_by [(7, [9, 10, 37]), (11, [9, 54])] Try.func25 (by kernel_rfl) (by kernel_rfl) (by kernel_rfl) h⟩

def sh_meter_Meter_Counts (m_1 : Value) (E : List PanicEntry → World → Prop) (R : Value → World → Prop) (w : World) : Prop :=
 RUN Try.prog (Instr.alloc 52 true (.tuple #[])) w fun v2 w =>
 PURE Try.prog (BINS .eql 47 (.tmp 3) (.const (.pointer Option.none)) m_1 (.pointer Option.none)) fun v3 =>
 COND v3 (
 PURE Try.prog (Instr.build 52 #[]) fun v4 =>
 RUNU Try.prog (Instr.storeAt 52 v2 v4) w fun w =>
 LOADRES Try.prog 52 v2 w fun r => R r w) (
 PURE Try.prog (NILS m_1) fun v5 =>
 PURE Try.prog (Instr.fieldAt 93 v5 0) fun v6 =>
 RUN Try.prog (Instr.loadAt 52 v6) w fun v7 w =>
 RUNU Try.prog (Instr.storeAt 52 v2 v7) w fun w =>
 LOADRES Try.prog 52 v2 w fun r => R r w)
theorem by_meter_Meter_Counts {m_1 : Value} {R : Value → World → Prop} {w : World} (h : sh_meter_Meter_Counts m_1 NOPE R w) : RET Try.prog 26 [m_1] w R :=
  ⟨by kernel_rfl, calls_by [] Try.func26 (by kernel_rfl) (by kernel_rfl) (by kernel_rfl) h⟩

def sh_seinelaw13_awake (E : List PanicEntry → World → Prop) (R : Value → World → Prop) (w : World) : Prop :=
 RUN Try.prog (Instr.buildSlice 42 2 #[(0, (.int .u8 97)), (1, (.int .u8 97))]) w fun v1 w =>
 RUN Try.prog (convert 42 42 v1) w fun v2 w =>
 CALL Try.prog 29 [v2] w E fun v3 w =>
 PURE Try.prog (Instr.extract v3 0) fun v4 =>
 PURE Try.prog (Instr.extract v3 1) fun v5 =>
 CALL Try.prog 29 [(.slice Option.none 0 0)] w E fun v6 w =>
 PURE Try.prog (Instr.extract v6 0) fun v7 =>
 PURE Try.prog (Instr.extract v6 1) fun v8 =>
 RUN Try.prog (Instr.buildSlice 42 3 #[(0, (.int .u8 97)), (1, (.int .u8 97)), (2, (.int .u8 97))]) w fun v9 w =>
 RUN Try.prog (convert 42 42 v9) w fun v10 w =>
 CALL Try.prog 31 [v4, v10] w E fun v11 w =>
 PURE Try.prog (BINS .eql 28 (.tmp 20) (.const (.int .i64 0)) v5 (.int .i64 0)) fun v12 =>
 COND v12 (
 PURE Try.prog (BINS .eql 28 (.tmp 23) (.const (.int .i64 1)) v8 (.int .i64 1)) fun v13 =>
 PURE Try.prog (PICKS (.bool true) v13 (.bool Bool.false)) fun v14 =>
 COND v14 (
 PURE Try.prog (Builtin.len_ #[49] 3 #[v11]) fun v15 =>
 PURE Try.prog (BINS .eql 3 (.tmp 28) (.const (.int .i64 2)) v15 (.int .i64 2)) fun v16 =>
 PURE Try.prog (PICKS (.bool true) v16 (.bool Bool.false)) fun v17 =>
 COND v17 (
 PURE Try.prog (Instr.indexAt 49 v11 (.int .i64 1)) fun v18 =>
 PURE Try.prog (Instr.fieldAt 69 v18 0) fun v19 =>
 RUN Try.prog (Instr.loadAt 3 v19) w fun v20 w =>
 PURE Try.prog (BINS .eql 3 (.tmp 35) (.const (.int .i64 1)) v20 (.int .i64 1)) fun v21 =>
 PURE Try.prog (PICKS (.bool true) v21 (.bool Bool.false)) fun v22 =>
 COND v22 (
 PURE Try.prog (Instr.indexAt 49 v11 (.int .i64 1)) fun v23 =>
 PURE Try.prog (Instr.fieldAt 69 v23 1) fun v24 =>
 RUN Try.prog (Instr.loadAt 3 v24) w fun v25 w =>
 PURE Try.prog (BINS .eql 3 (.tmp 42) (.const (.int .i64 3)) v25 (.int .i64 3)) fun v26 =>
 PURE Try.prog (PICKS (.bool true) v26 (.bool Bool.false)) fun v27 =>
 COND v27 (
 RUN Try.prog (Instr.buildSlice 42 3 #[(0, (.int .u8 97)), (1, (.int .u8 97)), (2, (.int .u8 97))]) w fun v28 w =>
 RUN Try.prog (convert 42 42 v28) w fun v29 w =>
 CALL Try.prog 60 [v4, v29, (.int .i64 1)] w E fun v30 w =>
 PURE Try.prog (BINS .eql 3 (.tmp 49) (.const (.int .i64 1)) v30 (.int .i64 1)) fun v31 =>
 PURE Try.prog (PICKS (.bool true) v31 (.bool Bool.false)) fun v32 =>
 COND v32 (
 RUN Try.prog (Instr.buildSlice 42 3 #[(0, (.int .u8 97)), (1, (.int .u8 97)), (2, (.int .u8 97))]) w fun v33 w =>
 RUN Try.prog (convert 42 42 v33) w fun v34 w =>
 CALL Try.prog 60 [v4, v34, (.int .i64 2)] w E fun v35 w =>
 PURE Try.prog (BINS .eql 3 (.tmp 56) (.const (.int .i64 (-1))) v35 (.int .i64 (-1))) fun v36 =>
 PURE Try.prog (PICKS (.bool true) v36 (.bool Bool.false)) fun v37 =>
 R v37 w) (
 PURE Try.prog (PICKS (.bool false) undef (.bool Bool.false)) fun v38 =>
 R v38 w)) (
 PURE Try.prog (PICKS (.bool false) undef (.bool Bool.false)) fun v39 =>
 COND v39 (
 RUN Try.prog (Instr.buildSlice 42 3 #[(0, (.int .u8 97)), (1, (.int .u8 97)), (2, (.int .u8 97))]) w fun v40 w =>
 RUN Try.prog (convert 42 42 v40) w fun v41 w =>
 CALL Try.prog 60 [v4, v41, (.int .i64 2)] w E fun v42 w =>
 PURE Try.prog (BINS .eql 3 (.tmp 56) (.const (.int .i64 (-1))) v42 (.int .i64 (-1))) fun v43 =>
 PURE Try.prog (PICKS (.bool true) v43 (.bool Bool.false)) fun v44 =>
 R v44 w) (
 PURE Try.prog (PICKS (.bool false) undef (.bool Bool.false)) fun v45 =>
 R v45 w))) (
 PURE Try.prog (PICKS (.bool false) undef (.bool Bool.false)) fun v46 =>
 COND v46 (
 RUN Try.prog (Instr.buildSlice 42 3 #[(0, (.int .u8 97)), (1, (.int .u8 97)), (2, (.int .u8 97))]) w fun v47 w =>
 RUN Try.prog (convert 42 42 v47) w fun v48 w =>
 CALL Try.prog 60 [v4, v48, (.int .i64 1)] w E fun v49 w =>
 PURE Try.prog (BINS .eql 3 (.tmp 49) (.const (.int .i64 1)) v49 (.int .i64 1)) fun v50 =>
 PURE Try.prog (PICKS (.bool true) v50 (.bool Bool.false)) fun v51 =>
 COND v51 (
 RUN Try.prog (Instr.buildSlice 42 3 #[(0, (.int .u8 97)), (1, (.int .u8 97)), (2, (.int .u8 97))]) w fun v52 w =>
 RUN Try.prog (convert 42 42 v52) w fun v53 w =>
 CALL Try.prog 60 [v4, v53, (.int .i64 2)] w E fun v54 w =>
 PURE Try.prog (BINS .eql 3 (.tmp 56) (.const (.int .i64 (-1))) v54 (.int .i64 (-1))) fun v55 =>
 PURE Try.prog (PICKS (.bool true) v55 (.bool Bool.false)) fun v56 =>
 R v56 w) (
 PURE Try.prog (PICKS (.bool false) undef (.bool Bool.false)) fun v57 =>
 R v57 w)) (
 PURE Try.prog (PICKS (.bool false) undef (.bool Bool.false)) fun v58 =>
 COND v58 (
 RUN Try.prog (Instr.buildSlice 42 3 #[(0, (.int .u8 97)), (1, (.int .u8 97)), (2, (.int .u8 97))]) w fun v59 w =>
 RUN Try.prog (convert 42 42 v59) w fun v60 w =>
 CALL Try.prog 60 [v4, v60, (.int .i64 2)] w E fun v61 w =>
 PURE Try.prog (BINS .eql 3 (.tmp 56) (.const (.int .i64 (-1))) v61 (.int .i64 (-1))) fun v62 =>
 PURE Try.prog (PICKS (.bool true) v62 (.bool Bool.false)) fun v63 =>
 R v63 w) (
 PURE Try.prog (PICKS (.bool false) undef (.bool Bool.false)) fun v64 =>
 R v64 w)))) (
 PURE Try.prog (PICKS (.bool false) undef (.bool Bool.false)) fun v65 =>
 COND v65 (
 PURE Try.prog (Instr.indexAt 49 v11 (.int .i64 1)) fun v66 =>
 PURE Try.prog (Instr.fieldAt 69 v66 1) fun v67 =>
 RUN Try.prog (Instr.loadAt 3 v67) w fun v68 w =>
 PURE Try.prog (BINS .eql 3 (.tmp 42) (.const (.int .i64 3)) v68 (.int .i64 3)) fun v69 =>
 PURE Try.prog (PICKS (.bool true) v69 (.bool Bool.false)) fun v70 =>
 COND v70 (
 RUN Try.prog (Instr.buildSlice 42 3 #[(0, (.int .u8 97)), (1, (.int .u8 97)), (2, (.int .u8 97))]) w fun v71 w =>
 RUN Try.prog (convert 42 42 v71) w fun v72 w =>
 CALL Try.prog 60 [v4, v72, (.int .i64 1)] w E fun v73 w =>
 PURE Try.prog (BINS .eql 3 (.tmp 49) (.const (.int .i64 1)) v73 (.int .i64 1)) fun v74 =>
 PURE Try.prog (PICKS (.bool true) v74 (.bool Bool.false)) fun v75 =>
 COND v75 (
 RUN Try.prog (Instr.buildSlice 42 3 #[(0, (.int .u8 97)), (1, (.int .u8 97)), (2, (.int .u8 97))]) w fun v76 w =>
 RUN Try.prog (convert 42 42 v76) w fun v77 w =>
 CALL Try.prog 60 [v4, v77, (.int .i64 2)] w E fun v78 w =>
 PURE Try.prog (BINS .eql 3 (.tmp 56) (.const (.int .i64 (-1))) v78 (.int .i64 (-1))) fun v79 =>
 PURE Try.prog (PICKS (.bool true) v79 (.bool Bool.false)) fun v80 =>
 R v80 w) (
 PURE Try.prog (PICKS (.bool false) undef (.bool Bool.false)) fun v81 =>
 R v81 w)) (
 PURE Try.prog (PICKS (.bool false) undef (.bool Bool.false)) fun v82 =>
 COND v82 (
 RUN Try.prog (Instr.buildSlice 42 3 #[(0, (.int .u8 97)), (1, (.int .u8 97)), (2, (.int .u8 97))]) w fun v83 w =>
 RUN Try.prog (convert 42 42 v83) w fun v84 w =>
 CALL Try.prog 60 [v4, v84, (.int .i64 2)] w E fun v85 w =>
 PURE Try.prog (BINS .eql 3 (.tmp 56) (.const (.int .i64 (-1))) v85 (.int .i64 (-1))) fun v86 =>
 PURE Try.prog (PICKS (.bool true) v86 (.bool Bool.false)) fun v87 =>
 R v87 w) (
 PURE Try.prog (PICKS (.bool false) undef (.bool Bool.false)) fun v88 =>
 R v88 w))) (
 PURE Try.prog (PICKS (.bool false) undef (.bool Bool.false)) fun v89 =>
 COND v89 (
 RUN Try.prog (Instr.buildSlice 42 3 #[(0, (.int .u8 97)), (1, (.int .u8 97)), (2, (.int .u8 97))]) w fun v90 w =>
 RUN Try.prog (convert 42 42 v90) w fun v91 w =>
 CALL Try.prog 60 [v4, v91, (.int .i64 1)] w E fun v92 w =>
 PURE Try.prog (BINS .eql 3 (.tmp 49) (.const (.int .i64 1)) v92 (.int .i64 1)) fun v93 =>
 PURE Try.prog (PICKS (.bool true) v93 (.bool Bool.false)) fun v94 =>
 COND v94 (
 RUN Try.prog (Instr.buildSlice 42 3 #[(0, (.int .u8 97)), (1, (.int .u8 97)), (2, (.int .u8 97))]) w fun v95 w =>
 RUN Try.prog (convert 42 42 v95) w fun v96 w =>
 CALL Try.prog 60 [v4, v96, (.int .i64 2)] w E fun v97 w =>
 PURE Try.prog (BINS .eql 3 (.tmp 56) (.const (.int .i64 (-1))) v97 (.int .i64 (-1))) fun v98 =>
 PURE Try.prog (PICKS (.bool true) v98 (.bool Bool.false)) fun v99 =>
 R v99 w) (
 PURE Try.prog (PICKS (.bool false) undef (.bool Bool.false)) fun v100 =>
 R v100 w)) (
 PURE Try.prog (PICKS (.bool false) undef (.bool Bool.false)) fun v101 =>
 COND v101 (
 RUN Try.prog (Instr.buildSlice 42 3 #[(0, (.int .u8 97)), (1, (.int .u8 97)), (2, (.int .u8 97))]) w fun v102 w =>
 RUN Try.prog (convert 42 42 v102) w fun v103 w =>
 CALL Try.prog 60 [v4, v103, (.int .i64 2)] w E fun v104 w =>
 PURE Try.prog (BINS .eql 3 (.tmp 56) (.const (.int .i64 (-1))) v104 (.int .i64 (-1))) fun v105 =>
 PURE Try.prog (PICKS (.bool true) v105 (.bool Bool.false)) fun v106 =>
 R v106 w) (
 PURE Try.prog (PICKS (.bool false) undef (.bool Bool.false)) fun v107 =>
 R v107 w))))) (
 PURE Try.prog (PICKS (.bool false) undef (.bool Bool.false)) fun v108 =>
 COND v108 (
 PURE Try.prog (Instr.indexAt 49 v11 (.int .i64 1)) fun v109 =>
 PURE Try.prog (Instr.fieldAt 69 v109 0) fun v110 =>
 RUN Try.prog (Instr.loadAt 3 v110) w fun v111 w =>
 PURE Try.prog (BINS .eql 3 (.tmp 35) (.const (.int .i64 1)) v111 (.int .i64 1)) fun v112 =>
 PURE Try.prog (PICKS (.bool true) v112 (.bool Bool.false)) fun v113 =>
 COND v113 (
 PURE Try.prog (Instr.indexAt 49 v11 (.int .i64 1)) fun v114 =>
 PURE Try.prog (Instr.fieldAt 69 v114 1) fun v115 =>
 RUN Try.prog (Instr.loadAt 3 v115) w fun v116 w =>
 PURE Try.prog (BINS .eql 3 (.tmp 42) (.const (.int .i64 3)) v116 (.int .i64 3)) fun v117 =>
 PURE Try.prog (PICKS (.bool true) v117 (.bool Bool.false)) fun v118 =>
 COND v118 (
 RUN Try.prog (Instr.buildSlice 42 3 #[(0, (.int .u8 97)), (1, (.int .u8 97)), (2, (.int .u8 97))]) w fun v119 w =>
 RUN Try.prog (convert 42 42 v119) w fun v120 w =>
 CALL Try.prog 60 [v4, v120, (.int .i64 1)] w E fun v121 w =>
 PURE Try.prog (BINS .eql 3 (.tmp 49) (.const (.int .i64 1)) v121 (.int .i64 1)) fun v122 =>
 PURE Try.prog (PICKS (.bool true) v122 (.bool Bool.false)) fun v123 =>
 COND v123 (
 RUN Try.prog (Instr.buildSlice 42 3 #[(0, (.int .u8 97)), (1, (.int .u8 97)), (2, (.int .u8 97))]) w fun v124 w =>
 RUN Try.prog (convert 42 42 v124) w fun v125 w =>
 CALL Try.prog 60 [v4, v125, (.int .i64 2)] w E fun v126 w =>
 PURE Try.prog (BINS .eql 3 (.tmp 56) (.const (.int .i64 (-1))) v126 (.int .i64 (-1))) fun v127 =>
 PURE Try.prog (PICKS (.bool true) v127 (.bool Bool.false)) fun v128 =>
 R v128 w) (
 PURE Try.prog (PICKS (.bool false) undef (.bool Bool.false)) fun v129 =>
 R v129 w)) (
 PURE Try.prog (PICKS (.bool false) undef (.bool Bool.false)) fun v130 =>
 COND v130 (
 RUN Try.prog (Instr.buildSlice 42 3 #[(0, (.int .u8 97)), (1, (.int .u8 97)), (2, (.int .u8 97))]) w fun v131 w =>
 RUN Try.prog (convert 42 42 v131) w fun v132 w =>
 CALL Try.prog 60 [v4, v132, (.int .i64 2)] w E fun v133 w =>
 PURE Try.prog (BINS .eql 3 (.tmp 56) (.const (.int .i64 (-1))) v133 (.int .i64 (-1))) fun v134 =>
 PURE Try.prog (PICKS (.bool true) v134 (.bool Bool.false)) fun v135 =>
 R v135 w) (
 PURE Try.prog (PICKS (.bool false) undef (.bool Bool.false)) fun v136 =>
 R v136 w))) (
 PURE Try.prog (PICKS (.bool false) undef (.bool Bool.false)) fun v137 =>
 COND v137 (
 RUN Try.prog (Instr.buildSlice 42 3 #[(0, (.int .u8 97)), (1, (.int .u8 97)), (2, (.int .u8 97))]) w fun v138 w =>
 RUN Try.prog (convert 42 42 v138) w fun v139 w =>
 CALL Try.prog 60 [v4, v139, (.int .i64 1)] w E fun v140 w =>
 PURE Try.prog (BINS .eql 3 (.tmp 49) (.const (.int .i64 1)) v140 (.int .i64 1)) fun v141 =>
 PURE Try.prog (PICKS (.bool true) v141 (.bool Bool.false)) fun v142 =>
 COND v142 (
 RUN Try.prog (Instr.buildSlice 42 3 #[(0, (.int .u8 97)), (1, (.int .u8 97)), (2, (.int .u8 97))]) w fun v143 w =>
 RUN Try.prog (convert 42 42 v143) w fun v144 w =>
 CALL Try.prog 60 [v4, v144, (.int .i64 2)] w E fun v145 w =>
 PURE Try.prog (BINS .eql 3 (.tmp 56) (.const (.int .i64 (-1))) v145 (.int .i64 (-1))) fun v146 =>
 PURE Try.prog (PICKS (.bool true) v146 (.bool Bool.false)) fun v147 =>
 R v147 w) (
 PURE Try.prog (PICKS (.bool false) undef (.bool Bool.false)) fun v148 =>
 R v148 w)) (
 PURE Try.prog (PICKS (.bool false) undef (.bool Bool.false)) fun v149 =>
 COND v149 (
 RUN Try.prog (Instr.buildSlice 42 3 #[(0, (.int .u8 97)), (1, (.int .u8 97)), (2, (.int .u8 97))]) w fun v150 w =>
 RUN Try.prog (convert 42 42 v150) w fun v151 w =>
 CALL Try.prog 60 [v4, v151, (.int .i64 2)] w E fun v152 w =>
 PURE Try.prog (BINS .eql 3 (.tmp 56) (.const (.int .i64 (-1))) v152 (.int .i64 (-1))) fun v153 =>
 PURE Try.prog (PICKS (.bool true) v153 (.bool Bool.false)) fun v154 =>
 R v154 w) (
 PURE Try.prog (PICKS (.bool false) undef (.bool Bool.false)) fun v155 =>
 R v155 w)))) (
 PURE Try.prog (PICKS (.bool false) undef (.bool Bool.false)) fun v156 =>
 COND v156 (
 PURE Try.prog (Instr.indexAt 49 v11 (.int .i64 1)) fun v157 =>
 PURE Try.prog (Instr.fieldAt 69 v157 1) fun v158 =>
 RUN Try.prog (Instr.loadAt 3 v158) w fun v159 w =>
 PURE Try.prog (BINS .eql 3 (.tmp 42) (.const (.int .i64 3)) v159 (.int .i64 3)) fun v160 =>
 PURE Try.prog (PICKS (.bool true) v160 (.bool Bool.false)) fun v161 =>
 COND v161 (
 RUN Try.prog (Instr.buildSlice 42 3 #[(0, (.int .u8 97)), (1, (.int .u8 97)), (2, (.int .u8 97))]) w fun v162 w =>
 RUN Try.prog (convert 42 42 v162) w fun v163 w =>
 CALL Try.prog 60 [v4, v163, (.int .i64 1)] w E fun v164 w =>
 PURE Try.prog (BINS .eql 3 (.tmp 49) (.const (.int .i64 1)) v164 (.int .i64 1)) fun v165 =>
 PURE Try.prog (PICKS (.bool true) v165 (.bool Bool.false)) fun v166 =>
 COND v166 (
 RUN Try.prog (Instr.buildSlice 42 3 #[(0, (.int .u8 97)), (1, (.int .u8 97)), (2, (.int .u8 97))]) w fun v167 w =>
 RUN Try.prog (convert 42 42 v167) w fun v168 w =>
 CALL Try.prog 60 [v4, v168, (.int .i64 2)] w E fun v169 w =>
 PURE Try.prog (BINS .eql 3 (.tmp 56) (.const (.int .i64 (-1))) v169 (.int .i64 (-1))) fun v170 =>
 PURE Try.prog (PICKS (.bool true) v170 (.bool Bool.false)) fun v171 =>
 R v171 w) (
 PURE Try.prog (PICKS (.bool false) undef (.bool Bool.false)) fun v172 =>
 R v172 w)) (
 PURE Try.prog (PICKS (.bool false) undef (.bool Bool.false)) fun v173 =>
 COND v173 (
 RUN Try.prog (Instr.buildSlice 42 3 #[(0, (.int .u8 97)), (1, (.int .u8 97)), (2, (.int .u8 97))]) w fun v174 w =>
 RUN Try.prog (convert 42 42 v174) w fun v175 w =>
 CALL Try.prog 60 [v4, v175, (.int .i64 2)] w E fun v176 w =>
 PURE Try.prog (BINS .eql 3 (.tmp 56) (.const (.int .i64 (-1))) v176 (.int .i64 (-1))) fun v177 =>
 PURE Try.prog (PICKS (.bool true) v177 (.bool Bool.false)) fun v178 =>
 R v178 w) (
 PURE Try.prog (PICKS (.bool false) undef (.bool Bool.false)) fun v179 =>
 R v179 w))) (
 PURE Try.prog (PICKS (.bool false) undef (.bool Bool.false)) fun v180 =>
 COND v180 (
 RUN Try.prog (Instr.buildSlice 42 3 #[(0, (.int .u8 97)), (1, (.int .u8 97)), (2, (.int .u8 97))]) w fun v181 w =>
 RUN Try.prog (convert 42 42 v181) w fun v182 w =>
 CALL Try.prog 60 [v4, v182, (.int .i64 1)] w E fun v183 w =>
 PURE Try.prog (BINS .eql 3 (.tmp 49) (.const (.int .i64 1)) v183 (.int .i64 1)) fun v184 =>
 PURE Try.prog (PICKS (.bool true) v184 (.bool Bool.false)) fun v185 =>
 COND v185 (
 RUN Try.prog (Instr.buildSlice 42 3 #[(0, (.int .u8 97)), (1, (.int .u8 97)), (2, (.int .u8 97))]) w fun v186 w =>
 RUN Try.prog (convert 42 42 v186) w fun v187 w =>
 CALL Try.prog 60 [v4, v187, (.int .i64 2)] w E fun v188 w =>
 PURE Try.prog (BINS .eql 3 (.tmp 56) (.const (.int .i64 (-1))) v188 (.int .i64 (-1))) fun v189 =>
 PURE Try.prog (PICKS (.bool true) v189 (.bool Bool.false)) fun v190 =>
 R v190 w) (
 PURE Try.prog (PICKS (.bool false) undef (.bool Bool.false)) fun v191 =>
 R v191 w)) (
 PURE Try.prog (PICKS (.bool false) undef (.bool Bool.false)) fun v192 =>
 COND v192 (
 RUN Try.prog (Instr.buildSlice 42 3 #[(0, (.int .u8 97)), (1, (.int .u8 97)), (2, (.int .u8 97))]) w fun v193 w =>
 RUN Try.prog (convert 42 42 v193) w fun v194 w =>
 CALL Try.prog 60 [v4, v194, (.int .i64 2)] w E fun v195 w =>
 PURE Try.prog (BINS .eql 3 (.tmp 56) (.const (.int .i64 (-1))) v195 (.int .i64 (-1))) fun v196 =>
 PURE Try.prog (PICKS (.bool true) v196 (.bool Bool.false)) fun v197 =>
 R v197 w) (
 PURE Try.prog (PICKS (.bool false) undef (.bool Bool.false)) fun v198 =>
 R v198 w)))))) (
 PURE Try.prog (PICKS (.bool false) undef (.bool Bool.false)) fun v199 =>
 COND v199 (
 PURE Try.prog (Builtin.len_ #[49] 3 #[v11]) fun v200 =>
 PURE Try.prog (BINS .eql 3 (.tmp 28) (.const (.int .i64 2)) v200 (.int .i64 2)) fun v201 =>
 PURE Try.prog (PICKS (.bool true) v201 (.bool Bool.false)) fun v202 =>
 COND v202 (
 PURE Try.prog (Instr.indexAt 49 v11 (.int .i64 1)) fun v203 =>
 PURE Try.prog (Instr.fieldAt 69 v203 0) fun v204 =>
 RUN Try.prog (Instr.loadAt 3 v204) w fun v205 w =>
 PURE Try.prog (BINS .eql 3 (.tmp 35) (.const (.int .i64 1)) v205 (.int .i64 1)) fun v206 =>
 PURE Try.prog (PICKS (.bool true) v206 (.bool Bool.false)) fun v207 =>
 COND v207 (
 PURE Try.prog (Instr.indexAt 49 v11 (.int .i64 1)) fun v208 =>
 PURE Try.prog (Instr.fieldAt 69 v208 1) fun v209 =>
 RUN Try.prog (Instr.loadAt 3 v209) w fun v210 w =>
 PURE Try.prog (BINS .eql 3 (.tmp 42) (.const (.int .i64 3)) v210 (.int .i64 3)) fun v211 =>
 PURE Try.prog (PICKS (.bool true) v211 (.bool Bool.false)) fun v212 =>
 COND v212 (
 RUN Try.prog (Instr.buildSlice 42 3 #[(0, (.int .u8 97)), (1, (.int .u8 97)), (2, (.int .u8 97))]) w fun v213 w =>
 RUN Try.prog (convert 42 42 v213) w fun v214 w =>
 CALL Try.prog 60 [v4, v214, (.int .i64 1)] w E fun v215 w =>
 PURE Try.prog (BINS .eql 3 (.tmp 49) (.const (.int .i64 1)) v215 (.int .i64 1)) fun v216 =>
 PURE Try.prog (PICKS (.bool true) v216 (.bool Bool.false)) fun v217 =>
 COND v217 (
 RUN Try.prog (Instr.buildSlice 42 3 #[(0, (.int .u8 97)), (1, (.int .u8 97)), (2, (.int .u8 97))]) w fun v218 w =>
 RUN Try.prog (convert 42 42 v218) w fun v219 w =>
 CALL Try.prog 60 [v4, v219, (.int .i64 2)] w E fun v220 w =>
 PURE Try.prog (BINS .eql 3 (.tmp 56) (.const (.int .i64 (-1))) v220 (.int .i64 (-1))) fun v221 =>
 PURE Try.prog (PICKS (.bool true) v221 (.bool Bool.false)) fun v222 =>
 R v222 w) (
 PURE Try.prog (PICKS (.bool false) undef (.bool Bool.false)) fun v223 =>
 R v223 w)) (
 PURE Try.prog (PICKS (.bool false) undef (.bool Bool.false)) fun v224 =>
 COND v224 (
 RUN Try.prog (Instr.buildSlice 42 3 #[(0, (.int .u8 97)), (1, (.int .u8 97)), (2, (.int .u8 97))]) w fun v225 w =>
 RUN Try.prog (convert 42 42 v225) w fun v226 w =>
 CALL Try.prog 60 [v4, v226, (.int .i64 2)] w E fun v227 w =>
 PURE Try.prog (BINS .eql 3 (.tmp 56) (.const (.int .i64 (-1))) v227 (.int .i64 (-1))) fun v228 =>
 PURE Try.prog (PICKS (.bool true) v228 (.bool Bool.false)) fun v229 =>
 R v229 w) (
 PURE Try.prog (PICKS (.bool false) undef (.bool Bool.false)) fun v230 =>
 R v230 w))) (
 PURE Try.prog (PICKS (.bool false) undef (.bool Bool.false)) fun v231 =>
 COND v231 (
 RUN Try.prog (Instr.buildSlice 42 3 #[(0, (.int .u8 97)), (1, (.int .u8 97)), (2, (.int .u8 97))]) w fun v232 w =>
 RUN Try.prog (convert 42 42 v232) w fun v233 w =>
 CALL Try.prog 60 [v4, v233, (.int .i64 1)] w E fun v234 w =>
 PURE Try.prog (BINS .eql 3 (.tmp 49) (.const (.int .i64 1)) v234 (.int .i64 1)) fun v235 =>
 PURE Try.prog (PICKS (.bool true) v235 (.bool Bool.false)) fun v236 =>
 COND v236 (
 RUN Try.prog (Instr.buildSlice 42 3 #[(0, (.int .u8 97)), (1, (.int .u8 97)), (2, (.int .u8 97))]) w fun v237 w =>
 RUN Try.prog (convert 42 42 v237) w fun v238 w =>
 CALL Try.prog 60 [v4, v238, (.int .i64 2)] w E fun v239 w =>
 PURE Try.prog (BINS .eql 3 (.tmp 56) (.const (.int .i64 (-1))) v239 (.int .i64 (-1))) fun v240 =>
 PURE Try.prog (PICKS (.bool true) v240 (.bool Bool.false)) fun v241 =>
 R v241 w) (
 PURE Try.prog (PICKS (.bool false) undef (.bool Bool.false)) fun v242 =>
 R v242 w)) (
 PURE Try.prog (PICKS (.bool false) undef (.bool Bool.false)) fun v243 =>
 COND v243 (
 RUN Try.prog (Instr.buildSlice 42 3 #[(0, (.int .u8 97)), (1, (.int .u8 97)), (2, (.int .u8 97))]) w fun v244 w =>
 RUN Try.prog (convert 42 42 v244) w fun v245 w =>
 CALL Try.prog 60 [v4, v245, (.int .i64 2)] w E fun v246 w =>
 PURE Try.prog (BINS .eql 3 (.tmp 56) (.const (.int .i64 (-1))) v246 (.int .i64 (-1))) fun v247 =>
 PURE Try.prog (PICKS (.bool true) v247 (.bool Bool.false)) fun v248 =>
 R v248 w) (
 PURE Try.prog (PICKS (.bool false) undef (.bool Bool.false)) fun v249 =>
 R v249 w)))) (
 PURE Try.prog (PICKS (.bool false) undef (.bool Bool.false)) fun v250 =>
 COND v250 (
 PURE Try.prog (Instr.indexAt 49 v11 (.int .i64 1)) fun v251 =>
 PURE Try.prog (Instr.fieldAt 69 v251 1) fun v252 =>
 RUN Try.prog (Instr.loadAt 3 v252) w fun v253 w =>
 PURE Try.prog (BINS .eql 3 (.tmp 42) (.const (.int .i64 3)) v253 (.int .i64 3)) fun v254 =>
 PURE Try.prog (PICKS (.bool true) v254 (.bool Bool.false)) fun v255 =>
 COND v255 (
 RUN Try.prog (Instr.buildSlice 42 3 #[(0, (.int .u8 97)), (1, (.int .u8 97)), (2, (.int .u8 97))]) w fun v256 w =>
 RUN Try.prog (convert 42 42 v256) w fun v257 w =>
 CALL Try.prog 60 [v4, v257, (.int .i64 1)] w E fun v258 w =>
 PURE Try.prog (BINS .eql 3 (.tmp 49) (.const (.int .i64 1)) v258 (.int .i64 1)) fun v259 =>
 PURE Try.prog (PICKS (.bool true) v259 (.bool Bool.false)) fun v260 =>
 COND v260 (
 RUN Try.prog (Instr.buildSlice 42 3 #[(0, (.int .u8 97)), (1, (.int .u8 97)), (2, (.int .u8 97))]) w fun v261 w =>
 RUN Try.prog (convert 42 42 v261) w fun v262 w =>
 CALL Try.prog 60 [v4, v262, (.int .i64 2)] w E fun v263 w =>
 PURE Try.prog (BINS .eql 3 (.tmp 56) (.const (.int .i64 (-1))) v263 (.int .i64 (-1))) fun v264 =>
 PURE Try.prog (PICKS (.bool true) v264 (.bool Bool.false)) fun v265 =>
 R v265 w) (
 PURE Try.prog (PICKS (.bool false) undef (.bool Bool.false)) fun v266 =>
 R v266 w)) (
 PURE Try.prog (PICKS (.bool false) undef (.bool Bool.false)) fun v267 =>
 COND v267 (
 RUN Try.prog (Instr.buildSlice 42 3 #[(0, (.int .u8 97)), (1, (.int .u8 97)), (2, (.int .u8 97))]) w fun v268 w =>
 RUN Try.prog (convert 42 42 v268) w fun v269 w =>
 CALL Try.prog 60 [v4, v269, (.int .i64 2)] w E fun v270 w =>
 PURE Try.prog (BINS .eql 3 (.tmp 56) (.const (.int .i64 (-1))) v270 (.int .i64 (-1))) fun v271 =>
 PURE Try.prog (PICKS (.bool true) v271 (.bool Bool.false)) fun v272 =>
 R v272 w) (
 PURE Try.prog (PICKS (.bool false) undef (.bool Bool.false)) fun v273 =>
 R v273 w))) (
 PURE Try.prog (PICKS (.bool false) undef (.bool Bool.false)) fun v274 =>
 COND v274 (
 RUN Try.prog (Instr.buildSlice 42 3 #[(0, (.int .u8 97)), (1, (.int .u8 97)), (2, (.int .u8 97))]) w fun v275 w =>
 RUN Try.prog (convert 42 42 v275) w fun v276 w =>
 CALL Try.prog 60 [v4, v276, (.int .i64 1)] w E fun v277 w =>
 PURE Try.prog (BINS .eql 3 (.tmp 49) (.const (.int .i64 1)) v277 (.int .i64 1)) fun v278 =>
 PURE Try.prog (PICKS (.bool true) v278 (.bool Bool.false)) fun v279 =>
 COND v279 (
 RUN Try.prog (Instr.buildSlice 42 3 #[(0, (.int .u8 97)), (1, (.int .u8 97)), (2, (.int .u8 97))]) w fun v280 w =>
 RUN Try.prog (convert 42 42 v280) w fun v281 w =>
 CALL Try.prog 60 [v4, v281, (.int .i64 2)] w E fun v282 w =>
 PURE Try.prog (BINS .eql 3 (.tmp 56) (.const (.int .i64 (-1))) v282 (.int .i64 (-1))) fun v283 =>
 PURE Try.prog (PICKS (.bool true) v283 (.bool Bool.false)) fun v284 =>
 R v284 w) (
 PURE Try.prog (PICKS (.bool false) undef (.bool Bool.false)) fun v285 =>
 R v285 w)) (
 PURE Try.prog (PICKS (.bool false) undef (.bool Bool.false)) fun v286 =>
 COND v286 (
 RUN Try.prog (Instr.buildSlice 42 3 #[(0, (.int .u8 97)), (1, (.int .u8 97)), (2, (.int .u8 97))]) w fun v287 w =>
 RUN Try.prog (convert 42 42 v287) w fun v288 w =>
 CALL Try.prog 60 [v4, v288, (.int .i64 2)] w E fun v289 w =>
 PURE Try.prog (BINS .eql 3 (.tmp 56) (.const (.int .i64 (-1))) v289 (.int .i64 (-1))) fun v290 =>
 PURE Try.prog (PICKS (.bool true) v290 (.bool Bool.false)) fun v291 =>
 R v291 w) (
 PURE Try.prog (PICKS (.bool false) undef (.bool Bool.false)) fun v292 =>
 R v292 w))))) (
 PURE Try.prog (PICKS (.bool false) undef (.bool Bool.false)) fun v293 =>
 COND v293 (
 PURE Try.prog (Instr.indexAt 49 v11 (.int .i64 1)) fun v294 =>
 PURE Try.prog (Instr.fieldAt 69 v294 0) fun v295 =>
 RUN Try.prog (Instr.loadAt 3 v295) w fun v296 w =>
 PURE Try.prog (BINS .eql 3 (.tmp 35) (.const (.int .i64 1)) v296 (.int .i64 1)) fun v297 =>
 PURE Try.prog (PICKS (.bool true) v297 (.bool Bool.false)) fun v298 =>
 COND v298 (
 PURE Try.prog (Instr.indexAt 49 v11 (.int .i64 1)) fun v299 =>
 PURE Try.prog (Instr.fieldAt 69 v299 1) fun v300 =>
 RUN Try.prog (Instr.loadAt 3 v300) w fun v301 w =>
 PURE Try.prog (BINS .eql 3 (.tmp 42) (.const (.int .i64 3)) v301 (.int .i64 3)) fun v302 =>
 PURE Try.prog (PICKS (.bool true) v302 (.bool Bool.false)) fun v303 =>
 COND v303 (
 RUN Try.prog (Instr.buildSlice 42 3 #[(0, (.int .u8 97)), (1, (.int .u8 97)), (2, (.int .u8 97))]) w fun v304 w =>
 RUN Try.prog (convert 42 42 v304) w fun v305 w =>
 CALL Try.prog 60 [v4, v305, (.int .i64 1)] w E fun v306 w =>
 PURE Try.prog (BINS .eql 3 (.tmp 49) (.const (.int .i64 1)) v306 (.int .i64 1)) fun v307 =>
 PURE Try.prog (PICKS (.bool true) v307 (.bool Bool.false)) fun v308 =>
 COND v308 (
 RUN Try.prog (Instr.buildSlice 42 3 #[(0, (.int .u8 97)), (1, (.int .u8 97)), (2, (.int .u8 97))]) w fun v309 w =>
 RUN Try.prog (convert 42 42 v309) w fun v310 w =>
 CALL Try.prog 60 [v4, v310, (.int .i64 2)] w E fun v311 w =>
 PURE Try.prog (BINS .eql 3 (.tmp 56) (.const (.int .i64 (-1))) v311 (.int .i64 (-1))) fun v312 =>
 PURE Try.prog (PICKS (.bool true) v312 (.bool Bool.false)) fun v313 =>
 R v313 w) (
 PURE Try.prog (PICKS (.bool false) undef (.bool Bool.false)) fun v314 =>
 R v314 w)) (
 PURE Try.prog (PICKS (.bool false) undef (.bool Bool.false)) fun v315 =>
 COND v315 (
 RUN Try.prog (Instr.buildSlice 42 3 #[(0, (.int .u8 97)), (1, (.int .u8 97)), (2, (.int .u8 97))]) w fun v316 w =>
 RUN Try.prog (convert 42 42 v316) w fun v317 w =>
 CALL Try.prog 60 [v4, v317, (.int .i64 2)] w E fun v318 w =>
 PURE Try.prog (BINS .eql 3 (.tmp 56) (.const (.int .i64 (-1))) v318 (.int .i64 (-1))) fun v319 =>
 PURE Try.prog (PICKS (.bool true) v319 (.bool Bool.false)) fun v320 =>
 R v320 w) (
 PURE Try.prog (PICKS (.bool false) undef (.bool Bool.false)) fun v321 =>
 R v321 w))) (
 PURE Try.prog (PICKS (.bool false) undef (.bool Bool.false)) fun v322 =>
 COND v322 (
 RUN Try.prog (Instr.buildSlice 42 3 #[(0, (.int .u8 97)), (1, (.int .u8 97)), (2, (.int .u8 97))]) w fun v323 w =>
 RUN Try.prog (convert 42 42 v323) w fun v324 w =>
 CALL Try.prog 60 [v4, v324, (.int .i64 1)] w E fun v325 w =>
 PURE Try.prog (BINS .eql 3 (.tmp 49) (.const (.int .i64 1)) v325 (.int .i64 1)) fun v326 =>
 PURE Try.prog (PICKS (.bool true) v326 (.bool Bool.false)) fun v327 =>
 COND v327 (
 RUN Try.prog (Instr.buildSlice 42 3 #[(0, (.int .u8 97)), (1, (.int .u8 97)), (2, (.int .u8 97))]) w fun v328 w =>
 RUN Try.prog (convert 42 42 v328) w fun v329 w =>
 CALL Try.prog 60 [v4, v329, (.int .i64 2)] w E fun v330 w =>
 PURE Try.prog (BINS .eql 3 (.tmp 56) (.const (.int .i64 (-1))) v330 (.int .i64 (-1))) fun v331 =>
 PURE Try.prog (PICKS (.bool true) v331 (.bool Bool.false)) fun v332 =>
 R v332 w) (
 PURE Try.prog (PICKS (.bool false) undef (.bool Bool.false)) fun v333 =>
 R v333 w)) (
 PURE Try.prog (PICKS (.bool false) undef (.bool Bool.false)) fun v334 =>
 COND v334 (
 RUN Try.prog (Instr.buildSlice 42 3 #[(0, (.int .u8 97)), (1, (.int .u8 97)), (2, (.int .u8 97))]) w fun v335 w =>
 RUN Try.prog (convert 42 42 v335) w fun v336 w =>
 CALL Try.prog 60 [v4, v336, (.int .i64 2)] w E fun v337 w =>
 PURE Try.prog (BINS .eql 3 (.tmp 56) (.const (.int .i64 (-1))) v337 (.int .i64 (-1))) fun v338 =>
 PURE Try.prog (PICKS (.bool true) v338 (.bool Bool.false)) fun v339 =>
 R v339 w) (
 PURE Try.prog (PICKS (.bool false) undef (.bool Bool.false)) fun v340 =>
 R v340 w)))) (
 PURE Try.prog (PICKS (.bool false) undef (.bool Bool.false)) fun v341 =>
 COND v341 (
 PURE Try.prog (Instr.indexAt 49 v11 (.int .i64 1)) fun v342 =>
 PURE Try.prog (Instr.fieldAt 69 v342 1) fun v343 =>
 RUN Try.prog (Instr.loadAt 3 v343) w fun v344 w =>
 PURE Try.prog (BINS .eql 3 (.tmp 42) (.const (.int .i64 3)) v344 (.int .i64 3)) fun v345 =>
 PURE Try.prog (PICKS (.bool true) v345 (.bool Bool.false)) fun v346 =>
 COND v346 (
 RUN Try.prog (Instr.buildSlice 42 3 #[(0, (.int .u8 97)), (1, (.int .u8 97)), (2, (.int .u8 97))]) w fun v347 w =>
 RUN Try.prog (convert 42 42 v347) w fun v348 w =>
 CALL Try.prog 60 [v4, v348, (.int .i64 1)] w E fun v349 w =>
 PURE Try.prog (BINS .eql 3 (.tmp 49) (.const (.int .i64 1)) v349 (.int .i64 1)) fun v350 =>
 PURE Try.prog (PICKS (.bool true) v350 (.bool Bool.false)) fun v351 =>
 COND v351 (
 RUN Try.prog (Instr.buildSlice 42 3 #[(0, (.int .u8 97)), (1, (.int .u8 97)), (2, (.int .u8 97))]) w fun v352 w =>
 RUN Try.prog (convert 42 42 v352) w fun v353 w =>
 CALL Try.prog 60 [v4, v353, (.int .i64 2)] w E fun v354 w =>
 PURE Try.prog (BINS .eql 3 (.tmp 56) (.const (.int .i64 (-1))) v354 (.int .i64 (-1))) fun v355 =>
 PURE Try.prog (PICKS (.bool true) v355 (.bool Bool.false)) fun v356 =>
 R v356 w) (
 PURE Try.prog (PICKS (.bool false) undef (.bool Bool.false)) fun v357 =>
 R v357 w)) (
 PURE Try.prog (PICKS (.bool false) undef (.bool Bool.false)) fun v358 =>
 COND v358 (
 RUN Try.prog (Instr.buildSlice 42 3 #[(0, (.int .u8 97)), (1, (.int .u8 97)), (2, (.int .u8 97))]) w fun v359 w =>
 RUN Try.prog (convert 42 42 v359) w fun v360 w =>
 CALL Try.prog 60 [v4, v360, (.int .i64 2)] w E fun v361 w =>
 PURE Try.prog (BINS .eql 3 (.tmp 56) (.const (.int .i64 (-1))) v361 (.int .i64 (-1))) fun v362 =>
 PURE Try.prog (PICKS (.bool true) v362 (.bool Bool.false)) fun v363 =>
 R v363 w) (
 PURE Try.prog (PICKS (.bool false) undef (.bool Bool.false)) fun v364 =>
 R v364 w))) (
 PURE Try.prog (PICKS (.bool false) undef (.bool Bool.false)) fun v365 =>
 COND v365 (
 RUN Try.prog (Instr.buildSlice 42 3 #[(0, (.int .u8 97)), (1, (.int .u8 97)), (2, (.int .u8 97))]) w fun v366 w =>
 RUN Try.prog (convert 42 42 v366) w fun v367 w =>
 CALL Try.prog 60 [v4, v367, (.int .i64 1)] w E fun v368 w =>
 PURE Try.prog (BINS .eql 3 (.tmp 49) (.const (.int .i64 1)) v368 (.int .i64 1)) fun v369 =>
 PURE Try.prog (PICKS (.bool true) v369 (.bool Bool.false)) fun v370 =>
 COND v370 (
 RUN Try.prog (Instr.buildSlice 42 3 #[(0, (.int .u8 97)), (1, (.int .u8 97)), (2, (.int .u8 97))]) w fun v371 w =>
 RUN Try.prog (convert 42 42 v371) w fun v372 w =>
 CALL Try.prog 60 [v4, v372, (.int .i64 2)] w E fun v373 w =>
 PURE Try.prog (BINS .eql 3 (.tmp 56) (.const (.int .i64 (-1))) v373 (.int .i64 (-1))) fun v374 =>
 PURE Try.prog (PICKS (.bool true) v374 (.bool Bool.false)) fun v375 =>
 R v375 w) (
 PURE Try.prog (PICKS (.bool false) undef (.bool Bool.false)) fun v376 =>
 R v376 w)) (
 PURE Try.prog (PICKS (.bool false) undef (.bool Bool.false)) fun v377 =>
 COND v377 (
 RUN Try.prog (Instr.buildSlice 42 3 #[(0, (.int .u8 97)), (1, (.int .u8 97)), (2, (.int .u8 97))]) w fun v378 w =>
 RUN Try.prog (convert 42 42 v378) w fun v379 w =>
 CALL Try.prog 60 [v4, v379, (.int .i64 2)] w E fun v380 w =>
 PURE Try.prog (BINS .eql 3 (.tmp 56) (.const (.int .i64 (-1))) v380 (.int .i64 (-1))) fun v381 =>
 PURE Try.prog (PICKS (.bool true) v381 (.bool Bool.false)) fun v382 =>
 R v382 w) (
 PURE Try.prog (PICKS (.bool false) undef (.bool Bool.false)) fun v383 =>
 R v383 w))))))
theorem by_seinelaw13_awake {R : Value → World → Prop} {w : World} (h : sh_seinelaw13_awake NOPE R w) : RET Try.prog 27 [] w R :=
  ⟨by kernel_rfl, calls_by [] Try.func27 (by kernel_rfl) (by kernel_rfl) (by kernel_rfl) h⟩

def sh_seinelaw13_few (b_1 line_2 : Value) (E : List PanicEntry → World → Prop) (R : Value → World → Prop) (w : World) : Prop :=
 PURE Try.prog (Builtin.len_ #[42] 3 #[b_1]) fun v3 =>
 PURE Try.prog (BINS .leq 3 (.tmp 6) (.const (.int .i64 100)) v3 (.int .i64 100)) fun v4 =>
 COND v4 (
 PURE Try.prog (Builtin.len_ #[42] 3 #[line_2]) fun v5 =>
 PURE Try.prog (BINS .leq 3 (.tmp 10) (.const (.int .i64 300)) v5 (.int .i64 300)) fun v6 =>
 PURE Try.prog (PICKS (.bool true) v6 (.bool Bool.false)) fun v7 =>
 R v7 w) (
 PURE Try.prog (PICKS (.bool false) undef (.bool Bool.false)) fun v8 =>
 R v8 w)
theorem by_seinelaw13_few {b_1 line_2 : Value} {R : Value → World → Prop} {w : World} (h : sh_seinelaw13_few b_1 line_2 NOPE R w) : RET Try.prog 28 [b_1, line_2] w R :=
  ⟨by kernel_rfl, calls_by [] Try.func28 (by kernel_rfl) (by kernel_rfl) (by kernel_rfl) h⟩

def sh_twoway_New (b_1 : Value) (E : List PanicEntry → World → Prop) (R : Value → World → Prop) (w : World) : Prop :=
 PURE Try.prog (Builtin.len_ #[42] 3 #[b_1]) fun v2 =>
 PURE Try.prog (BINS .eql 3 (.tmp 6) (.const (.int .i64 0)) v2 (.int .i64 0)) fun v3 =>
 COND v3 (
 R (.tuple #[(.pointer Option.none), (.int .i64 1)]) w) (
 CALL Try.prog 61 [b_1] w E fun v4 w =>
 CALL Try.prog 62 [b_1] w E fun v5 w =>
 PURE Try.prog (Instr.build 108 #[(0, v4), (1, v5), (2, (.func (.func 63) #[] #[]))]) fun v6 =>
 RUN Try.prog (Instr.box 108 v6) w fun v7 w =>
 PURE Try.prog (NILS v7) fun v8 =>
 PURE Try.prog (Instr.fieldAt 108 v8 1) fun v9 =>
 PURE Try.prog (Instr.fieldAt 104 v9 2) fun v10 =>
 RUN Try.prog (Instr.loadAt 4 v10) w fun v11 w =>
 COND v11 (
 PURE Try.prog (NILS v7) fun v12 =>
 PURE Try.prog (Instr.fieldAt 108 v12 2) fun v13 =>
 RUNU Try.prog (Instr.storeAt 106 v13 (.func (.func 64) #[] #[])) w fun w =>
 R (.tuple #[v7, (.int .i64 0)]) w) (
 R (.tuple #[v7, (.int .i64 0)]) w))
theorem by_twoway_New {b_1 : Value} {R : Value → World → Prop} {w : World} (h : sh_twoway_New b_1 NOPE R w) : RET Try.prog 29 [b_1] w R :=
  ⟨by kernel_rfl, calls_by [] Try.func29 (by kernel_rfl) (by kernel_rfl) (by kernel_rfl) h⟩

def sh_seineref03_Same (a_1 b_2 : Value) (E : List PanicEntry → World → Prop) (R : Value → World → Prop) (w : World) : Prop :=
 PURE Try.prog (Builtin.len_ #[49] 3 #[a_1]) fun v3 =>
 PURE Try.prog (Builtin.len_ #[49] 3 #[b_2]) fun v4 =>
 PURE Try.prog (BINS .neq 3 (.tmp 7) (.tmp 9) v3 v4) fun v5 =>
 COND v5 (
 R (.bool Bool.false) w) (
 LOOP1 (fun i_6 w next1 =>
 PURE Try.prog (Builtin.len_ #[49] 3 #[a_1]) fun v7 =>
 PURE Try.prog (BINS .lss 3 (.tmp 11) (.tmp 13) i_6 v7) fun v8 =>
 COND v8 (
 DRAWQ w fun S w =>
 PURE Try.prog (Instr.indexAt 49 a_1 i_6) fun v9 =>
 READ Try.prog S (Instr.loadAt 69 v9) w fun v10 =>
 PURE Try.prog (Instr.indexAt 49 b_2 i_6) fun v11 =>
 READ Try.prog S (Instr.loadAt 69 v11) w fun v12 =>
 PURE Try.prog (BINS .neq 69 (.tmp 20) (.tmp 24) v10 v12) fun v13 =>
 COND v13 (
 R (.bool Bool.false) w) (
 PURE Try.prog (BINS .add 3 (.tmp 15) (.const (.int .i64 1)) i_6 (.int .i64 1)) fun v14 =>
 next1 v14 w)) (
 R (.bool Bool.true) w)) (.int .i64 0) w)
theorem by_seineref03_Same {a_1 b_2 : Value} {R : Value → World → Prop} {w : World} (h : sh_seineref03_Same a_1 b_2 NOPE R w) : RET Try.prog 30 [a_1, b_2] w R :=
  ⟨by kernel_rfl, calls_by [(4, [5])] Try.func30 (by kernel_rfl) (by kernel_rfl) (by kernel_rfl) h⟩

def sh_twoway_Two_Scan (t_1 line_2 : Value) (E : List PanicEntry → World → Prop) (R : Value → World → Prop) (w : World) : Prop :=
 CALL Try.prog 60 [t_1, line_2, (.int .i64 0)] w E fun v3 w =>
 LOOP2 (fun out_4 at_5 w next1 =>
 PURE Try.prog (BINS .geq 3 (.tmp 10) (.const (.int .i64 0)) at_5 (.int .i64 0)) fun v6 =>
 COND v6 (
 PURE Try.prog (NILS t_1) fun v7 =>
 PURE Try.prog (Instr.fieldAt 108 v7 0) fun v8 =>
 RUN Try.prog (Instr.loadAt 42 v8) w fun v9 w =>
 PURE Try.prog (Builtin.len_ #[42] 3 #[v9]) fun v10 =>
 PURE Try.prog (BINS .add 3 (.tmp 19) (.tmp 24) at_5 v10) fun v11 =>
 PURE Try.prog (Instr.build 69 #[(0, at_5), (1, v11)]) fun v12 =>
 RUN Try.prog (Instr.buildSlice 49 1 #[(0, v12)]) w fun v13 w =>
 RUN Try.prog (Builtin.append_ #[49, 49] 49 #[out_4, v13]) w fun v14 w =>
 PURE Try.prog (BINS .add 3 (.tmp 14) (.const (.int .i64 1)) at_5 (.int .i64 1)) fun v15 =>
 CALL Try.prog 60 [t_1, line_2, v15] w E fun v16 w =>
 next1 v14 v16 w) (
 R out_4 w)) (.slice Option.none 0 0) v3 w
theorem by_twoway_Two_Scan {t_1 line_2 : Value} {R : Value → World → Prop} {w : World} (h : sh_twoway_Two_Scan t_1 line_2 NOPE R w) : RET Try.prog 31 [t_1, line_2] w R :=
  ⟨by kernel_rfl, calls_by [(3, [5, 6])] Try.func31 (by kernel_rfl) (by kernel_rfl) (by kernel_rfl) h⟩

def sh_sparse_New (l_1 : Value) (E : List PanicEntry → World → Prop) (R : Value → World → Prop) (w : World) : Prop :=
 CALL Try.prog 22 [l_1] w E fun v2 w =>
 CALL Try.prog 40 [v2] w E fun v3 w =>
 PURE Try.prog (Instr.build 111 #[(0, v2), (1, v3)]) fun v4 =>
 RUN Try.prog (Instr.box 111 v4) w fun v5 w =>
 LOOP1 (fun n_6 w next1 =>
 CALL Try.prog 23 [v2] w E fun v7 w =>
 PURE Try.prog (BINS .lss 3 (.tmp 14) (.tmp 16) n_6 v7) fun v8 =>
 COND v8 (
 CALL Try.prog 50 [v2, n_6] w E fun v9 w =>
 DRAW w fun S w =>
 PURE Try.prog (NILS v5) fun v10 =>
 PURE Try.prog (Instr.fieldAt 111 v10 2) fun v11 =>
 READ Try.prog S (Instr.loadAt 109 v11) w fun v12 =>
 PURE Try.prog (Builtin.len_ #[42] 3 #[v9]) fun v13 =>
 PURE Try.prog (BINS .sub 3 (.tmp 33) (.const (.int .i64 1)) v13 (.int .i64 1)) fun v14 =>
 PURE Try.prog (Instr.indexAt 42 v9 v14) fun v15 =>
 READ Try.prog S (Instr.loadAt 5 v15) w fun v16 =>
 CALL Try.prog 65 [v2, n_6] w E fun v17 w =>
 KEEPS S w fun S =>
 PURE Try.prog (Instr.build 113 #[(0, v17), (1, v16), (2, n_6)]) fun v18 =>
 RUN Try.prog (Instr.buildSlice 109 1 #[(0, v18)]) w fun v19 w =>
 KEEPS S w fun S =>
 RUN Try.prog (Builtin.append_ #[109, 109] 109 #[v12, v19]) w fun v20 w =>
 PURE Try.prog (NILS v5) fun v21 =>
 PURE Try.prog (Instr.fieldAt 111 v21 2) fun v22 =>
 RUNU Try.prog (Instr.storeAt 109 v22 v20) w fun w =>
 PURE Try.prog (BINS .add 3 (.tmp 18) (.const (.int .i64 1)) n_6 (.int .i64 1)) fun v23 =>
 next1 v23 w) (
 R v5 w)) (.int .i64 1) w
theorem by_sparse_New {l_1 : Value} {R : Value → World → Prop} {w : World} (h : sh_sparse_New l_1 NOPE R w) : RET Try.prog 32 [l_1] w R :=
  ⟨by kernel_rfl, calls_by [(4, [5])] Try.func32 (by kernel_rfl) (by kernel_rfl) (by kernel_rfl) h⟩

def sh_sparse_Automaton_Scan (a_1 m_2 line_3 : Value) (E : List PanicEntry → World → Prop) (R : Value → World → Prop) (w : World) : Prop :=
 PURE Try.prog (BINS .eql 61 (.tmp 14) (.const (.pointer Option.none)) a_1 (.pointer Option.none)) fun v4 =>
 COND v4 (
 R (.slice Option.none 0 0) w) (
 DRAW w fun S w =>
 PURE Try.prog (NILS a_1) fun v5 =>
 PURE Try.prog (Instr.fieldAt 111 v5 2) fun v6 =>
 READ Try.prog S (Instr.loadAt 109 v6) w fun v7 =>
 CALL Try.prog 52 [m_2, line_3] w E fun v8 w =>
 KEEPS S w fun S =>
 CALL Try.prog 66 [m_2, v7] w E fun v9 w =>
 CALL Try.prog 55 [v8] w E fun v10 w =>
 LOOP3 (fun out_11 at_12 v13 w next1 =>
 PURE Try.prog (BINS .lss 3 (.tmp 27) (.tmp 26) v13 v10) fun v14 =>
 COND v14 (
 CALL Try.prog 57 [v8, v13] w E fun v15 w =>
 PURE Try.prog (convert 3 5 v15) fun v16 =>
 CALL Try.prog 67 [a_1, v9, at_12, v16] w E fun v17 w =>
 PURE Try.prog (NILS a_1) fun v18 =>
 PURE Try.prog (Instr.fieldAt 111 v18 1) fun v19 =>
 RUN Try.prog (Instr.loadAt 70 v19) w fun v20 w =>
 CALL Try.prog 58 [v20, v17] w E fun v21 w =>
 PURE Try.prog (Builtin.len_ #[72] 3 #[v21]) fun v22 =>
 LOOP2 (fun out_23 v24 w next2 =>
 PURE Try.prog (BINS .lss 3 (.tmp 45) (.tmp 44) v24 v22) fun v25 =>
 COND v25 (
 PURE Try.prog (Instr.indexAt 72 v21 v24) fun v26 =>
 RUN Try.prog (Instr.loadAt 3 v26) w fun v27 w =>
 PURE Try.prog (BINS .add 3 (.tmp 50) (.const (.int .i64 1)) v13 (.int .i64 1)) fun v28 =>
 PURE Try.prog (BINS .sub 3 (.tmp 51) (.tmp 52) v28 v27) fun v29 =>
 PURE Try.prog (BINS .add 3 (.tmp 54) (.const (.int .i64 1)) v13 (.int .i64 1)) fun v30 =>
 PURE Try.prog (Instr.build 69 #[(0, v29), (1, v30)]) fun v31 =>
 RUN Try.prog (Instr.buildSlice 49 1 #[(0, v31)]) w fun v32 w =>
 RUN Try.prog (Builtin.append_ #[49, 49] 49 #[out_23, v32]) w fun v33 w =>
 PURE Try.prog (BINS .add 3 (.tmp 45) (.const (.int .i64 1)) v24 (.int .i64 1)) fun v34 =>
 next2 v33 v34 w) (
 PURE Try.prog (BINS .add 3 (.tmp 27) (.const (.int .i64 1)) v13 (.int .i64 1)) fun v35 =>
 next1 out_23 v17 v35 w)) out_11 (.int .i64 0) w) (
 CALL Try.prog 59 [out_11] w E fun v36 w =>
 R v36 w)) (.slice Option.none 0 0) (.int .i64 0) (.int .i64 0) w)
theorem by_sparse_Automaton_Scan {a_1 m_2 line_3 : Value} {R : Value → World → Prop} {w : World} (h : sh_sparse_Automaton_Scan a_1 m_2 line_3 NOPE R w) : RET Try.prog 33 [a_1, m_2, line_3] w R :=
  ⟨by kernel_rfl, calls_by [(7, [9, 10, 27]), (11, [9, 45])] Try.func33 (by kernel_rfl) (by kernel_rfl) (by kernel_rfl) h⟩

def sh_sparse_Automaton_States (a_1 : Value) (E : List PanicEntry → World → Prop) (R : Value → World → Prop) (w : World) : Prop :=
 PURE Try.prog (BINS .eql 61 (.tmp 3) (.const (.pointer Option.none)) a_1 (.pointer Option.none)) fun v2 =>
 COND v2 (
 R (.int .i64 0) w) (
 PURE Try.prog (NILS a_1) fun v3 =>
 PURE Try.prog (Instr.fieldAt 111 v3 0) fun v4 =>
 RUN Try.prog (Instr.loadAt 45 v4) w fun v5 w =>
 CALL Try.prog 23 [v5] w E fun v6 w =>
 R v6 w)
theorem by_sparse_Automaton_States {a_1 : Value} {R : Value → World → Prop} {w : World} (h : sh_sparse_Automaton_States a_1 NOPE R w) : RET Try.prog 34 [a_1] w R :=
  ⟨by kernel_rfl, calls_by [] Try.func34 (by kernel_rfl) (by kernel_rfl) (by kernel_rfl) h⟩

def sh_sparse_Automaton_Step (a_1 m_2 state_3 c_4 : Value) (E : List PanicEntry → World → Prop) (R : Value → World → Prop) (w : World) : Prop :=
 JOIN0 (fun J1 =>
 PURE Try.prog (BINS .lss 3 (.tmp 9) (.const (.int .i64 0)) state_3 (.int .i64 0)) fun v5 =>
 COND v5 (
 PURE Try.prog (PICKS (.bool true) (.bool Bool.true) undef) fun v6 =>
 COND v6 (
 R (.int .i64 (-1)) w) (
 J1 w)) (
 CALL Try.prog 34 [a_1] w E fun v7 w =>
 PURE Try.prog (BINS .geq 3 (.tmp 12) (.tmp 14) state_3 v7) fun v8 =>
 PURE Try.prog (PICKS (.bool false) (.bool Bool.true) v8) fun v9 =>
 COND v9 (
 R (.int .i64 (-1)) w) (
 J1 w))) (fun w =>
 PURE Try.prog (NILS a_1) fun v10 =>
 PURE Try.prog (Instr.fieldAt 111 v10 2) fun v11 =>
 RUN Try.prog (Instr.loadAt 109 v11) w fun v12 w =>
 CALL Try.prog 66 [m_2, v12] w E fun v13 w =>
 CALL Try.prog 67 [a_1, v13, state_3, c_4] w E fun v14 w =>
 R v14 w)
theorem by_sparse_Automaton_Step {a_1 m_2 state_3 c_4 : Value} {R : Value → World → Prop} {w : World} (h : sh_sparse_Automaton_Step a_1 m_2 state_3 c_4 NOPE R w) : RET Try.prog 35 [a_1, m_2, state_3, c_4] w R :=
  ⟨by kernel_rfl, calls_by [(11003, [])] Try.func35 (by kernel_rfl) (by kernel_rfl) (by kernel_rfl) h⟩

def sh_seinelaw16_awake (E : List PanicEntry → World → Prop) (R : Value → World → Prop) (w : World) : Prop :=
 RUN Try.prog (Instr.buildSlice 42 3 #[(0, (.int .u8 97)), (1, (.int .u8 98)), (2, (.int .u8 99))]) w fun v1 w =>
 RUN Try.prog (convert 42 42 v1) w fun v2 w =>
 RUN Try.prog (Instr.buildSlice 42 2 #[(0, (.int .u8 98)), (1, (.int .u8 99))]) w fun v3 w =>
 RUN Try.prog (convert 42 42 v3) w fun v4 w =>
 RUN Try.prog (Instr.buildSlice 22 2 #[(0, v2), (1, v4)]) w fun v5 w =>
 CALL Try.prog 38 [v5] w E fun v6 w =>
 RUN Try.prog (Instr.buildSlice 42 5 #[(0, (.int .u8 120)), (1, (.int .u8 97)), (2, (.int .u8 98)), (3, (.int .u8 99)), (4, (.int .u8 120))]) w fun v7 w =>
 RUN Try.prog (convert 42 42 v7) w fun v8 w =>
 CALL Try.prog 39 [v6, v8] w E fun v9 w =>
 RUN Try.prog (Instr.buildSlice 42 5 #[(0, (.int .u8 120)), (1, (.int .u8 97)), (2, (.int .u8 98)), (3, (.int .u8 99)), (4, (.int .u8 120))]) w fun v10 w =>
 RUN Try.prog (convert 42 42 v10) w fun v11 w =>
 CALL Try.prog 68 [v6, v11] w E fun v12 w =>
 PURE Try.prog (Instr.build 69 #[(0, (.int .i64 1)), (1, (.int .i64 4))]) fun v13 =>
 PURE Try.prog (Instr.build 69 #[(0, (.int .i64 2)), (1, (.int .i64 4))]) fun v14 =>
 RUN Try.prog (Instr.buildSlice 49 2 #[(0, v13), (1, v14)]) w fun v15 w =>
 CALL Try.prog 30 [v9, v15] w E fun v16 w =>
 COND v16 (
 PURE Try.prog (Builtin.len_ #[72] 3 #[v12]) fun v17 =>
 PURE Try.prog (BINS .gtr 3 (.tmp 25) (.const (.int .i64 0)) v17 (.int .i64 0)) fun v18 =>
 PURE Try.prog (PICKS (.bool true) v18 (.bool Bool.false)) fun v19 =>
 COND v19 (
 PURE Try.prog (Instr.indexAt 72 v12 (.int .i64 0)) fun v20 =>
 RUN Try.prog (Instr.loadAt 3 v20) w fun v21 w =>
 PURE Try.prog (BINS .eql 3 (.tmp 31) (.const (.int .i64 2)) v21 (.int .i64 2)) fun v22 =>
 PURE Try.prog (PICKS (.bool true) v22 (.bool Bool.false)) fun v23 =>
 R v23 w) (
 PURE Try.prog (PICKS (.bool false) undef (.bool Bool.false)) fun v24 =>
 R v24 w)) (
 PURE Try.prog (PICKS (.bool false) undef (.bool Bool.false)) fun v25 =>
 COND v25 (
 PURE Try.prog (Instr.indexAt 72 v12 (.int .i64 0)) fun v26 =>
 RUN Try.prog (Instr.loadAt 3 v26) w fun v27 w =>
 PURE Try.prog (BINS .eql 3 (.tmp 31) (.const (.int .i64 2)) v27 (.int .i64 2)) fun v28 =>
 PURE Try.prog (PICKS (.bool true) v28 (.bool Bool.false)) fun v29 =>
 R v29 w) (
 PURE Try.prog (PICKS (.bool false) undef (.bool Bool.false)) fun v30 =>
 R v30 w))
theorem by_seinelaw16_awake {R : Value → World → Prop} {w : World} (h : sh_seinelaw16_awake NOPE R w) : RET Try.prog 36 [] w R :=
  ⟨by kernel_rfl, calls_by [] Try.func36 (by kernel_rfl) (by kernel_rfl) (by kernel_rfl) h⟩

def sh_seinelaw16_texts (l_1 : Value) (E : List PanicEntry → World → Prop) (R : Value → World → Prop) (w : World) : Prop :=
 LOOP2 (fun out_2 i_3 w next1 =>
 PURE Try.prog (Builtin.len_ #[22] 3 #[l_1]) fun v4 =>
 PURE Try.prog (BINS .lss 3 (.tmp 6) (.tmp 8) i_3 v4) fun v5 =>
 COND v5 (
 PURE Try.prog (Instr.indexAt 22 l_1 i_3) fun v6 =>
 RUN Try.prog (Instr.loadAt 42 v6) w fun v7 w =>
 PURE Try.prog (Builtin.len_ #[42] 3 #[v7]) fun v8 =>
 PURE Try.prog (BINS .gtr 3 (.tmp 16) (.const (.int .i64 40)) v8 (.int .i64 40)) fun v9 =>
 COND v9 (
 R (.tuple #[(.slice Option.none 0 0), (.bool Bool.false)]) w) (
 PURE Try.prog (Instr.indexAt 22 l_1 i_3) fun v10 =>
 RUN Try.prog (Instr.loadAt 42 v10) w fun v11 w =>
 RUN Try.prog (convert 42 9 v11) w fun v12 w =>
 RUN Try.prog (Instr.buildSlice 24 1 #[(0, v12)]) w fun v13 w =>
 RUN Try.prog (Builtin.append_ #[24, 24] 24 #[out_2, v13]) w fun v14 w =>
 PURE Try.prog (BINS .add 3 (.tmp 10) (.const (.int .i64 1)) i_3 (.int .i64 1)) fun v15 =>
 next1 v14 v15 w)) (
 PURE Try.prog (Builtin.len_ #[22] 3 #[l_1]) fun v16 =>
 PURE Try.prog (BINS .leq 3 (.tmp 28) (.const (.int .i64 12)) v16 (.int .i64 12)) fun v17 =>
 R (.tuple #[out_2, v17]) w)) (.slice Option.none 0 0) (.int .i64 0) w
theorem by_seinelaw16_texts {l_1 : Value} {R : Value → World → Prop} {w : World} (h : sh_seinelaw16_texts l_1 NOPE R w) : RET Try.prog 37 [l_1] w R :=
  ⟨by kernel_rfl, calls_by [(3, [4, 5])] Try.func37 (by kernel_rfl) (by kernel_rfl) (by kernel_rfl) h⟩

def sh_cwalter_New (l_1 : Value) (E : List PanicEntry → World → Prop) (R : Value → World → Prop) (w : World) : Prop :=
 CALL Try.prog 69 [l_1] w E fun v2 w =>
 CALL Try.prog 70 [v2] w E fun v3 w =>
 PURE Try.prog (Instr.build 122 #[(0, v2), (1, v3)]) fun v4 =>
 RUN Try.prog (Instr.box 122 v4) w fun v5 w =>
 R v5 w
theorem by_cwalter_New {l_1 : Value} {R : Value → World → Prop} {w : World} (h : sh_cwalter_New l_1 NOPE R w) : RET Try.prog 38 [l_1] w R :=
  ⟨by kernel_rfl, calls_by [] Try.func38 (by kernel_rfl) (by kernel_rfl) (by kernel_rfl) h⟩

def sh_cwalter_Walter_Scan (w_1 line_2 : Value) (E : List PanicEntry → World → Prop) (R : Value → World → Prop) (w : World) : Prop :=
 CALL Try.prog 71 [w_1, line_2] w E fun v3 w =>
 PURE Try.prog (Instr.extract v3 0) fun v4 =>
 PURE Try.prog (Instr.extract v3 1) fun v5 =>
 CALL Try.prog 59 [v4] w E fun v6 w =>
 R v6 w
theorem by_cwalter_Walter_Scan {w_1 line_2 : Value} {R : Value → World → Prop} {w : World} (h : sh_cwalter_Walter_Scan w_1 line_2 NOPE R w) : RET Try.prog 39 [w_1, line_2] w R :=
  ⟨by kernel_rfl, calls_by [] Try.func39 (by kernel_rfl) (by kernel_rfl) (by kernel_rfl) h⟩

def sh_links_Build (t_1 : Value) (E : List PanicEntry → World → Prop) (R : Value → World → Prop) (w : World) : Prop :=
 CALL Try.prog 23 [t_1] w E fun v2 w =>
 JOIN1 (fun J1 =>
 DRAW w fun S w =>
 (RUN Try.prog (Instr.buildSlice 72 1 #[(0, (.int .i64 (-1)))]) w fun v3 w =>
 (CALL Try.prog 72 [v3, v2] w E fun v4 w =>
 (RUN Try.prog (Instr.buildSlice 72 1 #[(0, (.int .i64 (-1)))]) w fun v5 w =>
 (CALL Try.prog 72 [v5, v2] w E fun v6 w =>
 RUN Try.prog (Instr.makeSlice 72 v2 v2) w fun v7 w =>
 PURE Try.prog (Instr.build 127 #[(0, v4), (1, v6), (2, v7)]) fun v8 =>
 RUN Try.prog (Instr.box 127 v8) w fun v9 w =>
 J1 v9 w) ∧
 (RUN Try.prog (Instr.makeSlice 72 v2 v2) w fun v10 w =>
 CALL Try.prog 72 [v5, v2] w E fun v11 w =>
 PURE Try.prog (Instr.build 127 #[(0, v4), (1, v11), (2, v10)]) fun v12 =>
 RUN Try.prog (Instr.box 127 v12) w fun v13 w =>
 J1 v13 w)) ∧
 (RUN Try.prog (Instr.makeSlice 72 v2 v2) w fun v14 w =>
 RUN Try.prog (Instr.buildSlice 72 1 #[(0, (.int .i64 (-1)))]) w fun v15 w =>
 CALL Try.prog 72 [v15, v2] w E fun v16 w =>
 PURE Try.prog (Instr.build 127 #[(0, v4), (1, v16), (2, v14)]) fun v17 =>
 RUN Try.prog (Instr.box 127 v17) w fun v18 w =>
 J1 v18 w)) ∧
 (RUN Try.prog (Instr.buildSlice 72 1 #[(0, (.int .i64 (-1)))]) w fun v19 w =>
 (CALL Try.prog 72 [v3, v2] w E fun v20 w =>
 (CALL Try.prog 72 [v19, v2] w E fun v21 w =>
 RUN Try.prog (Instr.makeSlice 72 v2 v2) w fun v22 w =>
 PURE Try.prog (Instr.build 127 #[(0, v20), (1, v21), (2, v22)]) fun v23 =>
 RUN Try.prog (Instr.box 127 v23) w fun v24 w =>
 J1 v24 w) ∧
 (RUN Try.prog (Instr.makeSlice 72 v2 v2) w fun v25 w =>
 CALL Try.prog 72 [v19, v2] w E fun v26 w =>
 PURE Try.prog (Instr.build 127 #[(0, v20), (1, v26), (2, v25)]) fun v27 =>
 RUN Try.prog (Instr.box 127 v27) w fun v28 w =>
 J1 v28 w)) ∧
 (RUN Try.prog (Instr.makeSlice 72 v2 v2) w fun v29 w =>
 CALL Try.prog 72 [v3, v2] w E fun v30 w =>
 CALL Try.prog 72 [v19, v2] w E fun v31 w =>
 PURE Try.prog (Instr.build 127 #[(0, v30), (1, v31), (2, v29)]) fun v32 =>
 RUN Try.prog (Instr.box 127 v32) w fun v33 w =>
 J1 v33 w)) ∧
 (RUN Try.prog (Instr.makeSlice 72 v2 v2) w fun v34 w =>
 (CALL Try.prog 72 [v3, v2] w E fun v35 w =>
 RUN Try.prog (Instr.buildSlice 72 1 #[(0, (.int .i64 (-1)))]) w fun v36 w =>
 CALL Try.prog 72 [v36, v2] w E fun v37 w =>
 PURE Try.prog (Instr.build 127 #[(0, v35), (1, v37), (2, v34)]) fun v38 =>
 RUN Try.prog (Instr.box 127 v38) w fun v39 w =>
 J1 v39 w) ∧
 (RUN Try.prog (Instr.buildSlice 72 1 #[(0, (.int .i64 (-1)))]) w fun v40 w =>
 CALL Try.prog 72 [v3, v2] w E fun v41 w =>
 CALL Try.prog 72 [v40, v2] w E fun v42 w =>
 PURE Try.prog (Instr.build 127 #[(0, v41), (1, v42), (2, v34)]) fun v43 =>
 RUN Try.prog (Instr.box 127 v43) w fun v44 w =>
 J1 v44 w))) ∧
 (RUN Try.prog (Instr.buildSlice 72 1 #[(0, (.int .i64 (-1)))]) w fun v45 w =>
 KEEPS S w fun S =>
 (RUN Try.prog (Instr.buildSlice 72 1 #[(0, (.int .i64 (-1)))]) w fun v46 w =>
 (CALL Try.prog 72 [v46, v2] w E fun v47 w =>
 (CALL Try.prog 72 [v45, v2] w E fun v48 w =>
 RUN Try.prog (Instr.makeSlice 72 v2 v2) w fun v49 w =>
 PURE Try.prog (Instr.build 127 #[(0, v47), (1, v48), (2, v49)]) fun v50 =>
 RUN Try.prog (Instr.box 127 v50) w fun v51 w =>
 J1 v51 w) ∧
 (RUN Try.prog (Instr.makeSlice 72 v2 v2) w fun v52 w =>
 CALL Try.prog 72 [v45, v2] w E fun v53 w =>
 PURE Try.prog (Instr.build 127 #[(0, v47), (1, v53), (2, v52)]) fun v54 =>
 RUN Try.prog (Instr.box 127 v54) w fun v55 w =>
 J1 v55 w)) ∧
 (RUN Try.prog (Instr.makeSlice 72 v2 v2) w fun v56 w =>
 CALL Try.prog 72 [v46, v2] w E fun v57 w =>
 CALL Try.prog 72 [v45, v2] w E fun v58 w =>
 PURE Try.prog (Instr.build 127 #[(0, v57), (1, v58), (2, v56)]) fun v59 =>
 RUN Try.prog (Instr.box 127 v59) w fun v60 w =>
 J1 v60 w)) ∧
 (RUN Try.prog (Instr.makeSlice 72 v2 v2) w fun v61 w =>
 KEEPS S w fun S =>
 RUN Try.prog (Instr.buildSlice 72 1 #[(0, (.int .i64 (-1)))]) w fun v62 w =>
 CALL Try.prog 72 [v62, v2] w E fun v63 w =>
 CALL Try.prog 72 [v45, v2] w E fun v64 w =>
 PURE Try.prog (Instr.build 127 #[(0, v63), (1, v64), (2, v61)]) fun v65 =>
 RUN Try.prog (Instr.box 127 v65) w fun v66 w =>
 J1 v66 w)) ∧
 (RUN Try.prog (Instr.makeSlice 72 v2 v2) w fun v67 w =>
 KEEPS S w fun S =>
 (RUN Try.prog (Instr.buildSlice 72 1 #[(0, (.int .i64 (-1)))]) w fun v68 w =>
 (CALL Try.prog 72 [v68, v2] w E fun v69 w =>
 RUN Try.prog (Instr.buildSlice 72 1 #[(0, (.int .i64 (-1)))]) w fun v70 w =>
 CALL Try.prog 72 [v70, v2] w E fun v71 w =>
 PURE Try.prog (Instr.build 127 #[(0, v69), (1, v71), (2, v67)]) fun v72 =>
 RUN Try.prog (Instr.box 127 v72) w fun v73 w =>
 J1 v73 w) ∧
 (RUN Try.prog (Instr.buildSlice 72 1 #[(0, (.int .i64 (-1)))]) w fun v74 w =>
 CALL Try.prog 72 [v68, v2] w E fun v75 w =>
 CALL Try.prog 72 [v74, v2] w E fun v76 w =>
 PURE Try.prog (Instr.build 127 #[(0, v75), (1, v76), (2, v67)]) fun v77 =>
 RUN Try.prog (Instr.box 127 v77) w fun v78 w =>
 J1 v78 w)) ∧
 (RUN Try.prog (Instr.buildSlice 72 1 #[(0, (.int .i64 (-1)))]) w fun v79 w =>
 KEEPS S w fun S =>
 RUN Try.prog (Instr.buildSlice 72 1 #[(0, (.int .i64 (-1)))]) w fun v80 w =>
 CALL Try.prog 72 [v80, v2] w E fun v81 w =>
 CALL Try.prog 72 [v79, v2] w E fun v82 w =>
 PURE Try.prog (Instr.build 127 #[(0, v81), (1, v82), (2, v67)]) fun v83 =>
 RUN Try.prog (Instr.box 127 v83) w fun v84 w =>
 J1 v84 w))) (fun l_85 w =>
 PURE Try.prog (BINS .eql 3 (.tmp 21) (.const (.int .i64 0)) v2 (.int .i64 0)) fun v86 =>
 COND v86 (
 R l_85 w) (
 RUN Try.prog (Instr.buildSlice 72 1 #[(0, (.int .i64 0))]) w fun v87 w =>
 PURE Try.prog (NILS l_85) fun v88 =>
 PURE Try.prog (Instr.fieldAt 127 v88 3) fun v89 =>
 RUNU Try.prog (Instr.storeAt 72 v89 v87) w fun w =>
 LOOP1 (fun i_90 w next2 =>
 PURE Try.prog (NILS l_85) fun v91 =>
 PURE Try.prog (Instr.fieldAt 127 v91 3) fun v92 =>
 RUN Try.prog (Instr.loadAt 72 v92) w fun v93 w =>
 PURE Try.prog (Builtin.len_ #[72] 3 #[v93]) fun v94 =>
 PURE Try.prog (BINS .lss 3 (.tmp 28) (.tmp 33) i_90 v94) fun v95 =>
 COND v95 (
 PURE Try.prog (NILS l_85) fun v96 =>
 PURE Try.prog (Instr.fieldAt 127 v96 3) fun v97 =>
 RUN Try.prog (Instr.loadAt 72 v97) w fun v98 w =>
 PURE Try.prog (Instr.indexAt 72 v98 i_90) fun v99 =>
 RUN Try.prog (Instr.loadAt 3 v99) w fun v100 w =>
 CALL Try.prog 73 [t_1, v100] w E fun v101 w =>
 PURE Try.prog (Builtin.len_ #[42] 3 #[v101]) fun v102 =>
 LOOP1 (fun v103 w next3 =>
 PURE Try.prog (BINS .lss 3 (.tmp 48) (.tmp 47) v103 v102) fun v104 =>
 COND v104 (
 PURE Try.prog (Instr.indexAt 42 v101 v103) fun v105 =>
 RUN Try.prog (Instr.loadAt 5 v105) w fun v106 w =>
 DRAW w fun S w =>
 PURE Try.prog (NILS l_85) fun v107 =>
 PURE Try.prog (Instr.fieldAt 127 v107 3) fun v108 =>
 READ Try.prog S (Instr.loadAt 72 v108) w fun v109 =>
 CALL Try.prog 74 [t_1, v100, v106] w E fun v110 w =>
 KEEPS S w fun S =>
 RUN Try.prog (Instr.buildSlice 72 1 #[(0, v110)]) w fun v111 w =>
 KEEPS S w fun S =>
 RUN Try.prog (Builtin.append_ #[72, 72] 72 #[v109, v111]) w fun v112 w =>
 PURE Try.prog (NILS l_85) fun v113 =>
 PURE Try.prog (Instr.fieldAt 127 v113 3) fun v114 =>
 RUNU Try.prog (Instr.storeAt 72 v114 v112) w fun w =>
 PURE Try.prog (BINS .add 3 (.tmp 48) (.const (.int .i64 1)) v103 (.int .i64 1)) fun v115 =>
 next3 v115 w) (
 PURE Try.prog (BINS .eql 3 (.tmp 66) (.const (.int .i64 0)) v100 (.int .i64 0)) fun v116 =>
 COND v116 (
 PURE Try.prog (BINS .add 3 (.tmp 35) (.const (.int .i64 1)) i_90 (.int .i64 1)) fun v117 =>
 next2 v117 w) (
 CALL Try.prog 75 [l_85, t_1, v100] w E fun v118 w =>
 PURE Try.prog (BINS .add 3 (.tmp 35) (.const (.int .i64 1)) i_90 (.int .i64 1)) fun v119 =>
 next2 v119 w))) (.int .i64 0) w) (
 R l_85 w)) (.int .i64 0) w))
theorem by_links_Build {t_1 : Value} {R : Value → World → Prop} {w : World} (h : sh_links_Build t_1 NOPE R w) : RET Try.prog 40 [t_1] w R :=
  ⟨by kernel_rfl, calls_by [(7, [5]), (11, [48]), (12003, [4])] Try.func40 (by kernel_rfl) (by kernel_rfl) (by kernel_rfl) h⟩

def sh_dfa_DFA_fill (d_1 : Value) (E : List PanicEntry → World → Prop) (R : Value → World → Prop) (w : World) : Prop :=
 DRAW w fun S w =>
 PURE Try.prog (NILS d_1) fun v2 =>
 PURE Try.prog (Instr.fieldAt 74 v2 0) fun v3 =>
 READ Try.prog S (Instr.loadAt 45 v3) w fun v4 =>
 PURE Try.prog (NILS d_1) fun v5 =>
 PURE Try.prog (Instr.fieldAt 74 v5 2) fun v6 =>
 READ Try.prog S (Instr.loadAt 33 v6) w fun v7 =>
 CALL Try.prog 23 [v4] w E fun v8 w =>
 KEEPS S w fun S =>
 CALL Try.prog 17 [v7] w E fun v9 w =>
 PURE Try.prog (BINS .mul 3 (.tmp 14) (.tmp 19) v8 v9) fun v10 =>
 RUN Try.prog (Instr.makeSlice 72 v10 v10) w fun v11 w =>
 PURE Try.prog (NILS d_1) fun v12 =>
 PURE Try.prog (Instr.fieldAt 74 v12 3) fun v13 =>
 RUNU Try.prog (Instr.storeAt 72 v13 v11) w fun w =>
 PURE Try.prog (NILS d_1) fun v14 =>
 PURE Try.prog (Instr.fieldAt 74 v14 1) fun v15 =>
 RUN Try.prog (Instr.loadAt 70 v15) w fun v16 w =>
 CALL Try.prog 76 [v16] w E fun v17 w =>
 PURE Try.prog (Builtin.len_ #[72] 3 #[v17]) fun v18 =>
 LOOP1 (fun v19 w next1 =>
 PURE Try.prog (BINS .lss 3 (.tmp 30) (.tmp 29) v19 v18) fun v20 =>
 COND v20 (
 PURE Try.prog (Instr.indexAt 72 v17 v19) fun v21 =>
 RUN Try.prog (Instr.loadAt 3 v21) w fun v22 w =>
 CALL Try.prog 45 [d_1, v22] w E fun v23 w =>
 JOIN0 (fun J2 =>
 PURE Try.prog (NILS d_1) fun v24 =>
 PURE Try.prog (Instr.fieldAt 74 v24 1) fun v25 =>
 RUN Try.prog (Instr.loadAt 70 v25) w fun v26 w =>
 CALL Try.prog 77 [v26, v22] w E fun v27 w =>
 PURE Try.prog (BINS .geq 3 (.tmp 43) (.const (.int .i64 0)) v27 (.int .i64 0)) fun v28 =>
 COND v28 (
 CALL Try.prog 45 [d_1, v27] w E fun v29 w =>
 RUN Try.prog (Builtin.copy_ #[72, 72] 3 #[v23, v29]) w fun v30 w =>
 J2 w) (
 J2 w)) (fun w =>
 PURE Try.prog (NILS d_1) fun v31 =>
 PURE Try.prog (Instr.fieldAt 74 v31 0) fun v32 =>
 RUN Try.prog (Instr.loadAt 45 v32) w fun v33 w =>
 CALL Try.prog 73 [v33, v22] w E fun v34 w =>
 PURE Try.prog (Builtin.len_ #[42] 3 #[v34]) fun v35 =>
 PURE Try.prog (BINS .eql 3 (.tmp 57) (.const (.int .i64 0)) v35 (.int .i64 0)) fun v36 =>
 COND v36 (
 PURE Try.prog (BINS .add 3 (.tmp 30) (.const (.int .i64 1)) v19 (.int .i64 1)) fun v37 =>
 next1 v37 w) (
 PURE Try.prog (Builtin.len_ #[42] 3 #[v34]) fun v38 =>
 LOOP1 (fun v39 w next3 =>
 PURE Try.prog (BINS .lss 3 (.tmp 61) (.tmp 60) v39 v38) fun v40 =>
 COND v40 (
 PURE Try.prog (Instr.indexAt 42 v34 v39) fun v41 =>
 RUN Try.prog (Instr.loadAt 5 v41) w fun v42 w =>
 DRAW w fun S w =>
 PURE Try.prog (NILS d_1) fun v43 =>
 PURE Try.prog (Instr.fieldAt 74 v43 2) fun v44 =>
 READ Try.prog S (Instr.loadAt 33 v44) w fun v45 =>
 PURE Try.prog (NILS d_1) fun v46 =>
 PURE Try.prog (Instr.fieldAt 74 v46 0) fun v47 =>
 READ Try.prog S (Instr.loadAt 45 v47) w fun v48 =>
 CALL Try.prog 15 [v45, v42] w E fun v49 w =>
 KEEPS S w fun S =>
 CALL Try.prog 74 [v48, v22, v42] w E fun v50 w =>
 PURE Try.prog (Instr.indexAt 72 v23 v49) fun v51 =>
 RUNU Try.prog (Instr.storeAt 3 v51 v50) w fun w =>
 PURE Try.prog (BINS .add 3 (.tmp 61) (.const (.int .i64 1)) v39 (.int .i64 1)) fun v52 =>
 next3 v52 w) (
 PURE Try.prog (BINS .add 3 (.tmp 30) (.const (.int .i64 1)) v19 (.int .i64 1)) fun v53 =>
 next1 v53 w)) (.int .i64 0) w))) (
 R (.tuple #[]) w)) (.int .i64 0) w
theorem by_dfa_DFA_fill {d_1 : Value} {R : Value → World → Prop} {w : World} (h : sh_dfa_DFA_fill d_1 NOPE R w) : RET Try.prog 41 [d_1] w R :=
  ⟨by kernel_rfl, calls_by [(2, [30]), (11, [61]), (15008, [])] Try.func41 (by kernel_rfl) (by kernel_rfl) (by kernel_rfl) h⟩

def sh_fold_Set_Union (s_1 o_2 : Value) (E : List PanicEntry → World → Prop) (R : Value → World → Prop) (w : World) : Prop :=
 RUN Try.prog (Instr.box 77 s_1) w fun s_3 w =>
 RUN Try.prog (Instr.box 77 o_2) w fun o_4 w =>
 RUN Try.prog (Instr.alloc 77 true (.tuple #[])) w fun v5 w =>
 RUN Try.prog (Instr.loadAt 77 o_4) w fun v6 w =>
 LOOP1 (fun v7 w next1 =>
 PURE Try.prog (BINS .lss 3 (.tmp 8) (.const (.int .i64 4)) v7 (.int .i64 4)) fun v8 =>
 COND v8 (
 PURE Try.prog (Instr.index 77 v6 v7) fun v9 =>
 PURE Try.prog (Instr.indexAt 77 s_3 v7) fun v10 =>
 RUN Try.prog (Instr.loadAt 75 v10) w fun v11 w =>
 PURE Try.prog (BINS .or 75 (.tmp 14) (.tmp 15) v11 v9) fun v12 =>
 PURE Try.prog (Instr.indexAt 77 s_3 v7) fun v13 =>
 RUNU Try.prog (Instr.storeAt 75 v13 v12) w fun w =>
 PURE Try.prog (BINS .add 3 (.tmp 8) (.const (.int .i64 1)) v7 (.int .i64 1)) fun v14 =>
 next1 v14 w) (
 RUN Try.prog (Instr.loadAt 77 s_3) w fun v15 w =>
 RUNU Try.prog (Instr.storeAt 77 v5 v15) w fun w =>
 LOADRES Try.prog 77 v5 w fun r => R r w)) (.int .i64 0) w
theorem by_fold_Set_Union {s_1 o_2 : Value} {R : Value → World → Prop} {w : World} (h : sh_fold_Set_Union s_1 o_2 NOPE R w) : RET Try.prog 42 [s_1, o_2] w R :=
  ⟨by kernel_rfl, calls_by [(2, [8])] Try.func42 (by kernel_rfl) (by kernel_rfl) (by kernel_rfl) h⟩

def sh_fold_Of (b_1 : Value) (E : List PanicEntry → World → Prop) (R : Value → World → Prop) (w : World) : Prop :=
 RUN Try.prog (Instr.alloc 77 true (.tuple #[])) w fun v2 w =>
 RUN Try.prog (Instr.alloc 77 true (.tuple #[])) w fun s_3 w =>
 PURE Try.prog (Builtin.len_ #[42] 3 #[b_1]) fun v4 =>
 LOOP1 (fun v5 w next1 =>
 PURE Try.prog (BINS .lss 3 (.tmp 8) (.tmp 7) v5 v4) fun v6 =>
 COND v6 (
 PURE Try.prog (Instr.indexAt 42 b_1 v5) fun v7 =>
 RUN Try.prog (Instr.loadAt 5 v7) w fun v8 w =>
 RUN Try.prog (Instr.loadAt 77 s_3) w fun v9 w =>
 CALL Try.prog 78 [v9, v8] w E fun v10 w =>
 RUNU Try.prog (Instr.storeAt 77 s_3 v10) w fun w =>
 PURE Try.prog (BINS .add 3 (.tmp 8) (.const (.int .i64 1)) v5 (.int .i64 1)) fun v11 =>
 next1 v11 w) (
 RUN Try.prog (Instr.loadAt 77 s_3) w fun v12 w =>
 RUNU Try.prog (Instr.storeAt 77 v2 v12) w fun w =>
 LOADRES Try.prog 77 v2 w fun r => R r w)) (.int .i64 0) w
theorem by_fold_Of {b_1 : Value} {R : Value → World → Prop} {w : World} (h : sh_fold_Of b_1 NOPE R w) : RET Try.prog 43 [b_1] w R :=
  ⟨by kernel_rfl, calls_by [(3, [8])] Try.func43 (by kernel_rfl) (by kernel_rfl) (by kernel_rfl) h⟩

def sh_fold_Set_List (s_1 : Value) (E : List PanicEntry → World → Prop) (R : Value → World → Prop) (w : World) : Prop :=
 RUN Try.prog (Instr.box 77 s_1) w fun s_2 w =>
 RUN Try.prog (Instr.loadAt 77 s_2) w fun v3 w =>
 PURE Try.prog (Instr.build 77 #[]) fun v4 =>
 PURE Try.prog (BINS .eql 77 (.tmp 5) (.tmp 6) v3 v4) fun v5 =>
 COND v5 (
 R (.slice Option.none 0 0) w) (
 LOOP2 (fun out_6 v7 w next1 =>
 PURE Try.prog (BINS .lss 3 (.tmp 8) (.const (.int .i64 256)) v7 (.int .i64 256)) fun v8 =>
 COND v8 (
 RUN Try.prog (Instr.loadAt 77 s_2) w fun v9 w =>
 PURE Try.prog (convert 3 5 v7) fun v10 =>
 CALL Try.prog 79 [v9, v10] w E fun v11 w =>
 COND v11 (
 PURE Try.prog (convert 3 5 v7) fun v12 =>
 RUN Try.prog (Instr.buildSlice 42 1 #[(0, v12)]) w fun v13 w =>
 RUN Try.prog (Builtin.append_ #[42, 42] 42 #[out_6, v13]) w fun v14 w =>
 PURE Try.prog (BINS .add 3 (.tmp 8) (.const (.int .i64 1)) v7 (.int .i64 1)) fun v15 =>
 next1 v14 v15 w) (
 PURE Try.prog (BINS .add 3 (.tmp 8) (.const (.int .i64 1)) v7 (.int .i64 1)) fun v16 =>
 next1 out_6 v16 w)) (
 R out_6 w)) (.slice Option.none 0 0) (.int .i64 0) w)
theorem by_fold_Set_List {s_1 : Value} {R : Value → World → Prop} {w : World} (h : sh_fold_Set_List s_1 NOPE R w) : RET Try.prog 44 [s_1] w R :=
  ⟨by kernel_rfl, calls_by [(5, [3, 8])] Try.func44 (by kernel_rfl) (by kernel_rfl) (by kernel_rfl) h⟩

def sh_dfa_DFA_row (d_1 state_2 : Value) (E : List PanicEntry → World → Prop) (R : Value → World → Prop) (w : World) : Prop :=
 PURE Try.prog (NILS d_1) fun v3 =>
 PURE Try.prog (Instr.fieldAt 74 v3 2) fun v4 =>
 RUN Try.prog (Instr.loadAt 33 v4) w fun v5 w =>
 CALL Try.prog 17 [v5] w E fun v6 w =>
 PURE Try.prog (NILS d_1) fun v7 =>
 PURE Try.prog (Instr.fieldAt 74 v7 3) fun v8 =>
 RUN Try.prog (Instr.loadAt 72 v8) w fun v9 w =>
 PURE Try.prog (BINS .mul 3 (.tmp 15) (.tmp 16) state_2 v6) fun v10 =>
 PURE Try.prog (BINS .mul 3 (.tmp 18) (.tmp 19) state_2 v6) fun v11 =>
 PURE Try.prog (BINS .add 3 (.tmp 20) (.tmp 21) v11 v6) fun v12 =>
 PURE Try.prog (Instr.sliceAt 72 v9 (some v10) (some v12) none) fun v13 =>
 R v13 w
theorem by_dfa_DFA_row {d_1 state_2 : Value} {R : Value → World → Prop} {w : World} (h : sh_dfa_DFA_row d_1 state_2 NOPE R w) : RET Try.prog 45 [d_1, state_2] w R :=
  ⟨by kernel_rfl, calls_by [] Try.func45 (by kernel_rfl) (by kernel_rfl) (by kernel_rfl) h⟩

def sh_seineref06_Place (l_1 s_2 : Value) (E : List PanicEntry → World → Prop) (R : Value → World → Prop) (w : World) : Prop :=
 LOOP1 (fun i_3 w next1 =>
 PURE Try.prog (Builtin.len_ #[24] 3 #[l_1]) fun v4 =>
 PURE Try.prog (BINS .lss 3 (.tmp 6) (.tmp 8) i_3 v4) fun v5 =>
 COND v5 (
 PURE Try.prog (Instr.indexAt 24 l_1 i_3) fun v6 =>
 RUN Try.prog (Instr.loadAt 9 v6) w fun v7 w =>
 PURE Try.prog (BINS .eql 9 (.tmp 15) (.tmp 16) v7 s_2) fun v8 =>
 COND v8 (
 R i_3 w) (
 PURE Try.prog (BINS .add 3 (.tmp 10) (.const (.int .i64 1)) i_3 (.int .i64 1)) fun v9 =>
 next1 v9 w)) (
 R (.int .i64 (-1)) w)) (.int .i64 0) w
theorem by_seineref06_Place {l_1 s_2 : Value} {R : Value → World → Prop} {w : World} (h : sh_seineref06_Place l_1 s_2 NOPE R w) : RET Try.prog 46 [l_1, s_2] w R :=
  ⟨by kernel_rfl, calls_by [(2, [5])] Try.func46 (by kernel_rfl) (by kernel_rfl) (by kernel_rfl) h⟩

def sh_seineref01_List (s_1 : Value) (E : List PanicEntry → World → Prop) (R : Value → World → Prop) (w : World) : Prop :=
 LOOP2 (fun out_2 c_3 w next1 =>
 PURE Try.prog (BINS .lss 3 (.tmp 5) (.const (.int .i64 256)) c_3 (.int .i64 256)) fun v4 =>
 COND v4 (
 PURE Try.prog (convert 3 5 c_3) fun v5 =>
 CALL Try.prog 80 [s_1, v5] w E fun v6 w =>
 COND v6 (
 PURE Try.prog (convert 3 5 c_3) fun v7 =>
 RUN Try.prog (Instr.buildSlice 42 1 #[(0, v7)]) w fun v8 w =>
 RUN Try.prog (convert 42 9 v8) w fun v9 w =>
 PURE Try.prog (BINS .add 9 (.tmp 13) (.tmp 17) out_2 v9) fun v10 =>
 PURE Try.prog (BINS .add 3 (.tmp 7) (.const (.int .i64 1)) c_3 (.int .i64 1)) fun v11 =>
 next1 v10 v11 w) (
 PURE Try.prog (BINS .add 3 (.tmp 7) (.const (.int .i64 1)) c_3 (.int .i64 1)) fun v12 =>
 next1 out_2 v12 w)) (
 R out_2 w)) (.string { data := #[] }) (.int .i64 0) w
theorem by_seineref01_List {s_1 : Value} {R : Value → World → Prop} {w : World} (h : sh_seineref01_List s_1 NOPE R w) : RET Try.prog 47 [s_1] w R :=
  ⟨by kernel_rfl, calls_by [(3, [3, 4])] Try.func47 (by kernel_rfl) (by kernel_rfl) (by kernel_rfl) h⟩

def sh_seineref09_All (l_1 : Value) (E : List PanicEntry → World → Prop) (R : Value → World → Prop) (w : World) : Prop :=
 LOOP2 (fun s_2 i_3 w next1 =>
 PURE Try.prog (Builtin.len_ #[24] 3 #[l_1]) fun v4 =>
 PURE Try.prog (BINS .lss 3 (.tmp 5) (.tmp 7) i_3 v4) fun v5 =>
 COND v5 (
 PURE Try.prog (Instr.indexAt 24 l_1 i_3) fun v6 =>
 RUN Try.prog (Instr.loadAt 9 v6) w fun v7 w =>
 PURE Try.prog (BINS .add 9 (.tmp 11) (.tmp 15) s_2 v7) fun v8 =>
 PURE Try.prog (BINS .add 3 (.tmp 9) (.const (.int .i64 1)) i_3 (.int .i64 1)) fun v9 =>
 next1 v8 v9 w) (
 R s_2 w)) (.string { data := #[] }) (.int .i64 0) w
theorem by_seineref09_All {l_1 : Value} {R : Value → World → Prop} {w : World} (h : sh_seineref09_All l_1 NOPE R w) : RET Try.prog 48 [l_1] w R :=
  ⟨by kernel_rfl, calls_by [(3, [3, 4])] Try.func48 (by kernel_rfl) (by kernel_rfl) (by kernel_rfl) h⟩

def sh_seineref08_Longest (paths_1 t_2 : Value) (E : List PanicEntry → World → Prop) (R : Value → World → Prop) (w : World) : Prop :=
 LOOP1 (fun n_3 w next1 =>
 PURE Try.prog (Builtin.len_ #[9] 3 #[t_2]) fun v4 =>
 PURE Try.prog (BINS .lss 3 (.tmp 6) (.tmp 8) n_3 v4) fun v5 =>
 COND v5 (
 PURE Try.prog (Instr.sliceAt 9 t_2 (some n_3) none none) fun v6 =>
 CALL Try.prog 46 [paths_1, v6] w E fun v7 w =>
 PURE Try.prog (BINS .geq 3 (.tmp 16) (.const (.int .i64 0)) v7 (.int .i64 0)) fun v8 =>
 COND v8 (
 PURE Try.prog (Instr.sliceAt 9 t_2 (some n_3) none none) fun v9 =>
 R v9 w) (
 PURE Try.prog (BINS .add 3 (.tmp 10) (.const (.int .i64 1)) n_3 (.int .i64 1)) fun v10 =>
 next1 v10 w)) (
 R (.string { data := #[] }) w)) (.int .i64 0) w
theorem by_seineref08_Longest {paths_1 t_2 : Value} {R : Value → World → Prop} {w : World} (h : sh_seineref08_Longest paths_1 t_2 NOPE R w) : RET Try.prog 49 [paths_1, t_2] w R :=
  ⟨by kernel_rfl, calls_by [(2, [5])] Try.func49 (by kernel_rfl) (by kernel_rfl) (by kernel_rfl) h⟩

def sh_trie_Trie_Path (t_1 node_2 : Value) (E : List PanicEntry → World → Prop) (R : Value → World → Prop) (w : World) : Prop :=
 LOOP2 (fun node_3 out_4 w next1 =>
 JOIN0 (fun J2 =>
 CALL Try.prog 81 [t_1, node_3] w E fun v5 w =>
 COND v5 (
 PURE Try.prog (NILS t_1) fun v6 =>
 PURE Try.prog (Instr.fieldAt 91 v6 0) fun v7 =>
 RUN Try.prog (Instr.loadAt 88 v7) w fun v8 w =>
 PURE Try.prog (Instr.indexAt 88 v8 node_3) fun v9 =>
 PURE Try.prog (Instr.fieldAt 87 v9 0) fun v10 =>
 RUN Try.prog (Instr.loadAt 3 v10) w fun v11 w =>
 PURE Try.prog (BINS .geq 3 (.tmp 17) (.const (.int .i64 0)) v11 (.int .i64 0)) fun v12 =>
 PURE Try.prog (PICKS (.bool true) v12 (.bool Bool.false)) fun v13 =>
 COND v13 (
 J2 w) (
 CALL Try.prog 82 [out_4] w E fun v14 w =>
 R out_4 w)) (
 PURE Try.prog (PICKS (.bool false) undef (.bool Bool.false)) fun v15 =>
 COND v15 (
 J2 w) (
 CALL Try.prog 82 [out_4] w E fun v16 w =>
 R out_4 w))) (fun w =>
 PURE Try.prog (NILS t_1) fun v17 =>
 PURE Try.prog (Instr.fieldAt 91 v17 0) fun v18 =>
 RUN Try.prog (Instr.loadAt 88 v18) w fun v19 w =>
 PURE Try.prog (Instr.indexAt 88 v19 node_3) fun v20 =>
 PURE Try.prog (Instr.fieldAt 87 v20 3) fun v21 =>
 RUN Try.prog (Instr.loadAt 5 v21) w fun v22 w =>
 RUN Try.prog (Instr.buildSlice 42 1 #[(0, v22)]) w fun v23 w =>
 RUN Try.prog (Builtin.append_ #[42, 42] 42 #[out_4, v23]) w fun v24 w =>
 PURE Try.prog (NILS t_1) fun v25 =>
 PURE Try.prog (Instr.fieldAt 91 v25 0) fun v26 =>
 RUN Try.prog (Instr.loadAt 88 v26) w fun v27 w =>
 PURE Try.prog (Instr.indexAt 88 v27 node_3) fun v28 =>
 PURE Try.prog (Instr.fieldAt 87 v28 0) fun v29 =>
 RUN Try.prog (Instr.loadAt 3 v29) w fun v30 w =>
 next1 v30 v24 w)) node_2 (.slice Option.none 0 0) w
theorem by_trie_Trie_Path {t_1 node_2 : Value} {R : Value → World → Prop} {w : World} (h : sh_trie_Trie_Path t_1 node_2 NOPE R w) : RET Try.prog 50 [t_1, node_2] w R :=
  ⟨by kernel_rfl, calls_by [(2, [1, 5]), (12003, [])] Try.func50 (by kernel_rfl) (by kernel_rfl) (by kernel_rfl) h⟩

def sh_trie_Trie_grow (t_1 at_2 c_3 : Value) (E : List PanicEntry → World → Prop) (R : Value → World → Prop) (w : World) : Prop :=
 PURE Try.prog (Instr.build 136 #[(0, at_2), (1, c_3)]) fun v4 =>
 RUN Try.prog (Instr.alloc 136 true (.tuple #[])) w fun e_5 w =>
 RUNU Try.prog (Instr.storeAt 136 e_5 v4) w fun w =>
 DRAWQ w fun S w =>
 PURE Try.prog (NILS t_1) fun v6 =>
 PURE Try.prog (Instr.fieldAt 91 v6 1) fun v7 =>
 READ Try.prog S (Instr.loadAt 89 v7) w fun v8 =>
 READ Try.prog S (Instr.loadAt 136 e_5) w fun v9 =>
 READ Try.prog S (Instr.lookup 89 v8 v9 Bool.true) w fun v10 =>
 PURE Try.prog (Instr.extract v10 0) fun v11 =>
 PURE Try.prog (Instr.extract v10 1) fun v12 =>
 COND v12 (
 R v11 w) (
 PURE Try.prog (NILS t_1) fun v13 =>
 PURE Try.prog (Instr.fieldAt 91 v13 0) fun v14 =>
 RUN Try.prog (Instr.loadAt 88 v14) w fun v15 w =>
 PURE Try.prog (Builtin.len_ #[88] 3 #[v15]) fun v16 =>
 DRAWQ w fun S w =>
 PURE Try.prog (NILS t_1) fun v17 =>
 PURE Try.prog (Instr.fieldAt 91 v17 1) fun v18 =>
 READ Try.prog S (Instr.loadAt 89 v18) w fun v19 =>
 READ Try.prog S (Instr.loadAt 136 e_5) w fun v20 =>
 RUNU Try.prog (Instr.mapUpdate 89 v19 v20 v16) w fun w =>
 DRAW w fun S w =>
 PURE Try.prog (NILS t_1) fun v21 =>
 PURE Try.prog (Instr.fieldAt 91 v21 0) fun v22 =>
 READ Try.prog S (Instr.loadAt 88 v22) w fun v23 =>
 PURE Try.prog (NILS t_1) fun v24 =>
 PURE Try.prog (Instr.fieldAt 91 v24 0) fun v25 =>
 READ Try.prog S (Instr.loadAt 88 v25) w fun v26 =>
 PURE Try.prog (Instr.indexAt 88 v26 at_2) fun v27 =>
 PURE Try.prog (Instr.fieldAt 87 v27 1) fun v28 =>
 READ Try.prog S (Instr.loadAt 3 v28) w fun v29 =>
 PURE Try.prog (BINS .add 3 (.tmp 49) (.const (.int .i64 1)) v29 (.int .i64 1)) fun v30 =>
 PURE Try.prog (Instr.build 87 #[(0, at_2), (1, v30), (2, (.int .i64 (-1))), (3, c_3)]) fun v31 =>
 RUN Try.prog (Instr.buildSlice 88 1 #[(0, v31)]) w fun v32 w =>
 KEEPS S w fun S =>
 RUN Try.prog (Builtin.append_ #[88, 88] 88 #[v23, v32]) w fun v33 w =>
 PURE Try.prog (NILS t_1) fun v34 =>
 PURE Try.prog (Instr.fieldAt 91 v34 0) fun v35 =>
 RUNU Try.prog (Instr.storeAt 88 v35 v33) w fun w =>
 R v16 w)
theorem by_trie_Trie_grow {t_1 at_2 c_3 : Value} {R : Value → World → Prop} {w : World} (h : sh_trie_Trie_grow t_1 at_2 c_3 NOPE R w) : RET Try.prog 51 [t_1, at_2, c_3] w R :=
  ⟨by kernel_rfl, calls_by [] Try.func51 (by kernel_rfl) (by kernel_rfl) (by kernel_rfl) h⟩

def sh_meter_Meter_Text (m_1 b_2 : Value) (E : List PanicEntry → World → Prop) (R : Value → World → Prop) (w : World) : Prop :=
 CALL Try.prog 61 [b_2] w E fun v3 w =>
 PURE Try.prog (Instr.build 139 #[(0, m_1), (1, v3)]) fun v4 =>
 RUN Try.prog (Instr.box 139 v4) w fun v5 w =>
 R v5 w
theorem by_meter_Meter_Text {m_1 b_2 : Value} {R : Value → World → Prop} {w : World} (h : sh_meter_Meter_Text m_1 b_2 NOPE R w) : RET Try.prog 52 [m_1, b_2] w R :=
  ⟨by kernel_rfl, calls_by [] Try.func52 (by kernel_rfl) (by kernel_rfl) (by kernel_rfl) h⟩

def sh_meter_Meter_Dense (m_1 class_2 width_3 next_4 : Value) (E : List PanicEntry → World → Prop) (R : Value → World → Prop) (w : World) : Prop :=
 RUN Try.prog (Instr.box 31 class_2) w fun class_5 w =>
 RUN Try.prog (Instr.box 3 width_3) w fun width_6 w =>
 RUN Try.prog (Instr.box 72 next_4) w fun next_7 w =>
 RUN Try.prog (Instr.loadAt 72 next_7) w fun v8 w =>
 CALL Try.prog 83 [v8] w E fun v9 w =>
 RUNU Try.prog (Instr.storeAt 72 next_7 v9) w fun w =>
 PURE Try.prog (Instr.makeFunc (Go.Fn.func 84) #[] #[class_5, width_6, next_7]) fun v10 =>
 PURE Try.prog (Instr.build 145 #[(0, m_1), (1, v10)]) fun v11 =>
 RUN Try.prog (Instr.box 145 v11) w fun v12 w =>
 R v12 w
theorem by_meter_Meter_Dense {m_1 class_2 width_3 next_4 : Value} {R : Value → World → Prop} {w : World} (h : sh_meter_Meter_Dense m_1 class_2 width_3 next_4 NOPE R w) : RET Try.prog 53 [m_1, class_2, width_3, next_4] w R :=
  ⟨by kernel_rfl, calls_by [] Try.func53 (by kernel_rfl) (by kernel_rfl) (by kernel_rfl) h⟩

def sh_classes_Classes_Table (c_1 : Value) (E : List PanicEntry → World → Prop) (R : Value → World → Prop) (w : World) : Prop :=
 RUN Try.prog (Instr.box 33 c_1) w fun c_2 w =>
 RUN Try.prog (Instr.alloc 31 true (.tuple #[])) w fun v3 w =>
 PURE Try.prog (Instr.fieldAt 33 c_2 0) fun v4 =>
 RUN Try.prog (Instr.loadAt 31 v4) w fun v5 w =>
 RUNU Try.prog (Instr.storeAt 31 v3 v5) w fun w =>
 LOADRES Try.prog 31 v3 w fun r => R r w
theorem by_classes_Classes_Table {c_1 : Value} {R : Value → World → Prop} {w : World} (h : sh_classes_Classes_Table c_1 NOPE R w) : RET Try.prog 54 [c_1] w R :=
  ⟨by kernel_rfl, calls_by [] Try.func54 (by kernel_rfl) (by kernel_rfl) (by kernel_rfl) h⟩

def sh_meter_Text_Len (t_1 : Value) (E : List PanicEntry → World → Prop) (R : Value → World → Prop) (w : World) : Prop :=
 PURE Try.prog (BINS .eql 94 (.tmp 3) (.const (.pointer Option.none)) t_1 (.pointer Option.none)) fun v2 =>
 COND v2 (
 R (.int .i64 0) w) (
 PURE Try.prog (NILS t_1) fun v3 =>
 PURE Try.prog (Instr.fieldAt 139 v3 1) fun v4 =>
 RUN Try.prog (Instr.loadAt 42 v4) w fun v5 w =>
 PURE Try.prog (Builtin.len_ #[42] 3 #[v5]) fun v6 =>
 R v6 w)
theorem by_meter_Text_Len {t_1 : Value} {R : Value → World → Prop} {w : World} (h : sh_meter_Text_Len t_1 NOPE R w) : RET Try.prog 55 [t_1] w R :=
  ⟨by kernel_rfl, calls_by [] Try.func55 (by kernel_rfl) (by kernel_rfl) (by kernel_rfl) h⟩

def sh_meter_Table_Look (t_1 state_2 c_3 : Value) (E : List PanicEntry → World → Prop) (R : Value → World → Prop) (w : World) : Prop :=
 PURE Try.prog (BINS .eql 96 (.tmp 7) (.const (.pointer Option.none)) t_1 (.pointer Option.none)) fun v4 =>
 COND v4 (
 R (.int .i64 (-1)) w) (
 PURE Try.prog (NILS t_1) fun v5 =>
 PURE Try.prog (Instr.fieldAt 145 v5 0) fun v6 =>
 RUN Try.prog (Instr.loadAt 47 v6) w fun v7 w =>
 CALL Try.prog 85 [v7] w E fun v8 w =>
 PURE Try.prog (NILS v8) fun v9 =>
 PURE Try.prog (Instr.fieldAt 52 v9 1) fun v10 =>
 RUN Try.prog (Instr.loadAt 3 v10) w fun v11 w =>
 PURE Try.prog (BINS .add 3 (.tmp 16) (.const (.int .i64 1)) v11 (.int .i64 1)) fun v12 =>
 PURE Try.prog (NILS v8) fun v13 =>
 PURE Try.prog (Instr.fieldAt 52 v13 1) fun v14 =>
 RUNU Try.prog (Instr.storeAt 3 v14 v12) w fun w =>
 PURE Try.prog (NILS t_1) fun v15 =>
 PURE Try.prog (Instr.fieldAt 145 v15 1) fun v16 =>
 RUN Try.prog (Instr.loadAt 143 v16) w fun v17 w =>
 PURE Try.prog (Instr.build 142 #[(0, state_2), (1, c_3)]) fun v18 =>
 CALLV Try.prog v17 [v18] w E fun v19 w =>
 R v19 w)
theorem by_meter_Table_Look {t_1 state_2 c_3 : Value} {R : Value → World → Prop} {w : World} (h : sh_meter_Table_Look t_1 state_2 c_3 NOPE R w) : RET Try.prog 56 [t_1, state_2, c_3] w R :=
  ⟨by kernel_rfl, calls_by [] Try.func56 (by kernel_rfl) (by kernel_rfl) (by kernel_rfl) h⟩

def sh_meter_Text_At (t_1 i_2 : Value) (E : List PanicEntry → World → Prop) (R : Value → World → Prop) (w : World) : Prop :=
 JOIN0 (fun J1 =>
 PURE Try.prog (BINS .lss 3 (.tmp 5) (.const (.int .i64 0)) i_2 (.int .i64 0)) fun v3 =>
 COND v3 (
 PURE Try.prog (PICKS (.bool true) (.bool Bool.true) undef) fun v4 =>
 COND v4 (
 R (.int .i64 (-1)) w) (
 J1 w)) (
 CALL Try.prog 55 [t_1] w E fun v5 w =>
 PURE Try.prog (BINS .geq 3 (.tmp 8) (.tmp 10) i_2 v5) fun v6 =>
 PURE Try.prog (PICKS (.bool false) (.bool Bool.true) v6) fun v7 =>
 COND v7 (
 R (.int .i64 (-1)) w) (
 J1 w))) (fun w =>
 PURE Try.prog (NILS t_1) fun v8 =>
 PURE Try.prog (Instr.fieldAt 139 v8 0) fun v9 =>
 RUN Try.prog (Instr.loadAt 47 v9) w fun v10 w =>
 CALL Try.prog 85 [v10] w E fun v11 w =>
 PURE Try.prog (NILS v11) fun v12 =>
 PURE Try.prog (Instr.fieldAt 52 v12 0) fun v13 =>
 RUN Try.prog (Instr.loadAt 3 v13) w fun v14 w =>
 PURE Try.prog (BINS .add 3 (.tmp 20) (.const (.int .i64 1)) v14 (.int .i64 1)) fun v15 =>
 PURE Try.prog (NILS v11) fun v16 =>
 PURE Try.prog (Instr.fieldAt 52 v16 0) fun v17 =>
 RUNU Try.prog (Instr.storeAt 3 v17 v15) w fun w =>
 PURE Try.prog (NILS t_1) fun v18 =>
 PURE Try.prog (Instr.fieldAt 139 v18 1) fun v19 =>
 RUN Try.prog (Instr.loadAt 42 v19) w fun v20 w =>
 PURE Try.prog (Instr.indexAt 42 v20 i_2) fun v21 =>
 RUN Try.prog (Instr.loadAt 5 v21) w fun v22 w =>
 PURE Try.prog (convert 5 3 v22) fun v23 =>
 R v23 w)
theorem by_meter_Text_At {t_1 i_2 : Value} {R : Value → World → Prop} {w : World} (h : sh_meter_Text_At t_1 i_2 NOPE R w) : RET Try.prog 57 [t_1, i_2] w R :=
  ⟨by kernel_rfl, calls_by [(11003, [])] Try.func57 (by kernel_rfl) (by kernel_rfl) (by kernel_rfl) h⟩

def sh_links_Links_Ends (l_1 node_2 : Value) (E : List PanicEntry → World → Prop) (R : Value → World → Prop) (w : World) : Prop :=
 LOOP2 (fun node_3 out_4 w next1 =>
 CALL Try.prog 86 [l_1, node_3] w E fun v5 w =>
 COND v5 (
 JOIN1 (fun J2 =>
 PURE Try.prog (NILS l_1) fun v6 =>
 PURE Try.prog (Instr.fieldAt 127 v6 2) fun v7 =>
 RUN Try.prog (Instr.loadAt 72 v7) w fun v8 w =>
 PURE Try.prog (Instr.indexAt 72 v8 node_3) fun v9 =>
 RUN Try.prog (Instr.loadAt 3 v9) w fun v10 w =>
 PURE Try.prog (BINS .gtr 3 (.tmp 15) (.const (.int .i64 0)) v10 (.int .i64 0)) fun v11 =>
 COND v11 (
 PURE Try.prog (NILS l_1) fun v12 =>
 PURE Try.prog (Instr.fieldAt 127 v12 2) fun v13 =>
 RUN Try.prog (Instr.loadAt 72 v13) w fun v14 w =>
 PURE Try.prog (Instr.indexAt 72 v14 node_3) fun v15 =>
 RUN Try.prog (Instr.loadAt 3 v15) w fun v16 w =>
 RUN Try.prog (Instr.buildSlice 72 1 #[(0, v16)]) w fun v17 w =>
 RUN Try.prog (Builtin.append_ #[72, 72] 72 #[out_4, v17]) w fun v18 w =>
 J2 v18 w) (
 J2 out_4 w)) (fun out_19 w =>
 PURE Try.prog (NILS l_1) fun v20 =>
 PURE Try.prog (Instr.fieldAt 127 v20 1) fun v21 =>
 RUN Try.prog (Instr.loadAt 72 v21) w fun v22 w =>
 PURE Try.prog (Instr.indexAt 72 v22 node_3) fun v23 =>
 RUN Try.prog (Instr.loadAt 3 v23) w fun v24 w =>
 next1 v24 out_19 w)) (
 R out_4 w)) node_2 (.slice Option.none 0 0) w
theorem by_links_Links_Ends {l_1 node_2 : Value} {R : Value → World → Prop} {w : World} (h : sh_links_Links_Ends l_1 node_2 NOPE R w) : RET Try.prog 58 [l_1, node_2] w R :=
  ⟨by kernel_rfl, calls_by [(2, [1, 5]), (13005, [5])] Try.func58 (by kernel_rfl) (by kernel_rfl) (by kernel_rfl) h⟩

def sh_pairs_Sort (l_1 : Value) (E : List PanicEntry → World → Prop) (R : Value → World → Prop) (w : World) : Prop :=
 PURE Try.prog (Builtin.len_ #[49] 3 #[l_1]) fun v2 =>
 PURE Try.prog (BINS .lss 3 (.tmp 5) (.const (.int .i64 2)) v2 (.int .i64 2)) fun v3 =>
 COND v3 (
 CALL Try.prog 87 [l_1] w E fun v4 w =>
 R v4 w) (
 PURE Try.prog (Builtin.len_ #[49] 3 #[l_1]) fun v5 =>
 PURE Try.prog (BINS .quo 3 (.tmp 10) (.const (.int .i64 2)) v5 (.int .i64 2)) fun v6 =>
 DRAWQ w fun S w =>
 PURE Try.prog (Instr.sliceAt 49 l_1 none (some v6) none) fun v7 =>
 PURE Try.prog (Instr.sliceAt 49 l_1 (some v6) none none) fun v8 =>
 CALL Try.prog 59 [v7] w E fun v9 w =>
 CALL Try.prog 59 [v8] w E fun v10 w =>
 CALL Try.prog 88 [v9, v10, (.func (.func 89) #[] #[])] w E fun v11 w =>
 R v11 w)
theorem by_pairs_Sort {l_1 : Value} {R : Value → World → Prop} {w : World} (h : sh_pairs_Sort l_1 NOPE R w) : RET Try.prog 59 [l_1] w R :=
  ⟨by kernel_rfl, calls_by [] Try.func59 (by kernel_rfl) (by kernel_rfl) (by kernel_rfl) h⟩

def sh_twoway_Two_Next (t_1 line_2 from_3 : Value) (E : List PanicEntry → World → Prop) (R : Value → World → Prop) (w : World) : Prop :=
 JOIN0 (fun J1 =>
 PURE Try.prog (BINS .eql 56 (.tmp 7) (.const (.pointer Option.none)) t_1 (.pointer Option.none)) fun v4 =>
 COND v4 (
 PURE Try.prog (PICKS (.bool true) (.bool Bool.true) undef) fun v5 =>
 COND v5 (
 R (.int .i64 (-1)) w) (
 J1 w)) (
 PURE Try.prog (Builtin.len_ #[42] 3 #[line_2]) fun v6 =>
 PURE Try.prog (BINS .gtr 3 (.tmp 10) (.tmp 12) from_3 v6) fun v7 =>
 PURE Try.prog (PICKS (.bool false) (.bool Bool.true) v7) fun v8 =>
 COND v8 (
 R (.int .i64 (-1)) w) (
 J1 w))) (fun w =>
 PURE Try.prog (NILS t_1) fun v9 =>
 PURE Try.prog (Instr.fieldAt 108 v9 2) fun v10 =>
 RUN Try.prog (Instr.loadAt 106 v10) w fun v11 w =>
 PURE Try.prog (Builtin.max_ #[3, 3] 3 #[from_3, (.int .i64 0)]) fun v12 =>
 CALLV Try.prog v11 [t_1, line_2, v12] w E fun v13 w =>
 R v13 w)
theorem by_twoway_Two_Next {t_1 line_2 from_3 : Value} {R : Value → World → Prop} {w : World} (h : sh_twoway_Two_Next t_1 line_2 from_3 NOPE R w) : RET Try.prog 60 [t_1, line_2, from_3] w R :=
  ⟨by kernel_rfl, calls_by [(11003, [])] Try.func60 (by kernel_rfl) (by kernel_rfl) (by kernel_rfl) h⟩

def sh_slices_Clone_byte_byte (s_1 : Value) (E : List PanicEntry → World → Prop) (R : Value → World → Prop) (w : World) : Prop :=
 PURE Try.prog (BINS .eql 42 (.tmp 3) (.const (.slice Option.none 0 0)) s_1 (.slice Option.none 0 0)) fun v2 =>
 COND v2 (
 R (.slice Option.none 0 0) w) (
 RUN Try.prog (Instr.buildSlice 42 0 #[]) w fun v3 w =>
 RUN Try.prog (Builtin.append_ #[42, 42] 42 #[v3, s_1]) w fun v4 w =>
 R v4 w)
theorem by_slices_Clone_byte_byte {s_1 : Value} {R : Value → World → Prop} {w : World} (h : sh_slices_Clone_byte_byte s_1 NOPE R w) : RET Try.prog 61 [s_1] w R :=
  ⟨by kernel_rfl, calls_by [] Try.func61 (by kernel_rfl) (by kernel_rfl) (by kernel_rfl) h⟩

def sh_critical_Factor (b_1 : Value) (E : List PanicEntry → World → Prop) (R : Value → World → Prop) (w : World) : Prop :=
 RUN Try.prog (Instr.alloc 104 true (.tuple #[])) w fun v2 w =>
 CALL Try.prog 90 [b_1] w E fun v3 w =>
 RUN Try.prog (Instr.alloc 104 true (.tuple #[])) w fun s_4 w =>
 RUNU Try.prog (Instr.storeAt 104 s_4 v3) w fun w =>
 RUN Try.prog (Instr.loadAt 104 s_4) w fun v5 w =>
 PURE Try.prog (Instr.build 104 #[]) fun v6 =>
 PURE Try.prog (BINS .eql 104 (.tmp 7) (.tmp 8) v5 v6) fun v7 =>
 COND v7 (
 RUN Try.prog (Instr.loadAt 104 s_4) w fun v8 w =>
 RUNU Try.prog (Instr.storeAt 104 v2 v8) w fun w =>
 LOADRES Try.prog 104 v2 w fun r => R r w) (
 PURE Try.prog (Instr.makeFunc (Go.Fn.func 91) #[b_1] #[]) fun v9 =>
 PURE Try.prog (Instr.fieldAt 104 s_4 1) fun v10 =>
 RUN Try.prog (Instr.loadAt 3 v10) w fun v11 w =>
 PURE Try.prog (Instr.fieldAt 104 s_4 0) fun v12 =>
 RUN Try.prog (Instr.loadAt 3 v12) w fun v13 w =>
 CALLV Try.prog v9 [(.int .i64 0), v11, v13] w E fun v14 w =>
 PURE Try.prog (Instr.fieldAt 104 s_4 2) fun v15 =>
 RUNU Try.prog (Instr.storeAt 4 v15 v14) w fun w =>
 PURE Try.prog (Instr.fieldAt 104 s_4 2) fun v16 =>
 RUN Try.prog (Instr.loadAt 4 v16) w fun v17 w =>
 PURE Try.prog (Op.unary .not v17) fun v18 =>
 COND v18 (
 PURE Try.prog (Instr.fieldAt 104 s_4 0) fun v19 =>
 RUN Try.prog (Instr.loadAt 3 v19) w fun v20 w =>
 PURE Try.prog (Builtin.len_ #[42] 3 #[b_1]) fun v21 =>
 PURE Try.prog (Instr.fieldAt 104 s_4 0) fun v22 =>
 RUN Try.prog (Instr.loadAt 3 v22) w fun v23 w =>
 PURE Try.prog (BINS .sub 3 (.tmp 26) (.tmp 28) v21 v23) fun v24 =>
 PURE Try.prog (Builtin.max_ #[3, 3] 3 #[v20, v24]) fun v25 =>
 PURE Try.prog (BINS .add 3 (.tmp 30) (.const (.int .i64 1)) v25 (.int .i64 1)) fun v26 =>
 PURE Try.prog (Instr.fieldAt 104 s_4 1) fun v27 =>
 RUNU Try.prog (Instr.storeAt 3 v27 v26) w fun w =>
 RUN Try.prog (Instr.loadAt 104 s_4) w fun v28 w =>
 RUNU Try.prog (Instr.storeAt 104 v2 v28) w fun w =>
 LOADRES Try.prog 104 v2 w fun r => R r w) (
 RUN Try.prog (Instr.loadAt 104 s_4) w fun v29 w =>
 RUNU Try.prog (Instr.storeAt 104 v2 v29) w fun w =>
 LOADRES Try.prog 104 v2 w fun r => R r w))
theorem by_critical_Factor {b_1 : Value} {R : Value → World → Prop} {w : World} (h : sh_critical_Factor b_1 NOPE R w) : RET Try.prog 62 [b_1] w R :=
  ⟨by kernel_rfl, calls_by [] Try.func62 (by kernel_rfl) (by kernel_rfl) (by kernel_rfl) h⟩

def sh_twoway_Two_plain (t_1 line_2 at_3 : Value) (E : List PanicEntry → World → Prop) (R : Value → World → Prop) (w : World) : Prop :=
 LOOP1 (fun at_4 w next1 =>
 PURE Try.prog (NILS t_1) fun v5 =>
 PURE Try.prog (Instr.fieldAt 108 v5 0) fun v6 =>
 RUN Try.prog (Instr.loadAt 42 v6) w fun v7 w =>
 PURE Try.prog (Builtin.len_ #[42] 3 #[v7]) fun v8 =>
 PURE Try.prog (BINS .add 3 (.tmp 8) (.tmp 13) at_4 v8) fun v9 =>
 PURE Try.prog (Builtin.len_ #[42] 3 #[line_2]) fun v10 =>
 PURE Try.prog (BINS .leq 3 (.tmp 14) (.tmp 16) v9 v10) fun v11 =>
 COND v11 (
 PURE Try.prog (NILS t_1) fun v12 =>
 PURE Try.prog (Instr.fieldAt 108 v12 1) fun v13 =>
 PURE Try.prog (Instr.fieldAt 104 v13 0) fun v14 =>
 RUN Try.prog (Instr.loadAt 3 v14) w fun v15 w =>
 CALL Try.prog 92 [t_1, line_2, at_4, v15] w E fun v16 w =>
 PURE Try.prog (NILS t_1) fun v17 =>
 PURE Try.prog (Instr.fieldAt 108 v17 0) fun v18 =>
 RUN Try.prog (Instr.loadAt 42 v18) w fun v19 w =>
 PURE Try.prog (Builtin.len_ #[42] 3 #[v19]) fun v20 =>
 PURE Try.prog (BINS .lss 3 (.tmp 27) (.tmp 32) v16 v20) fun v21 =>
 COND v21 (
 PURE Try.prog (NILS t_1) fun v22 =>
 PURE Try.prog (Instr.fieldAt 108 v22 1) fun v23 =>
 PURE Try.prog (Instr.fieldAt 104 v23 0) fun v24 =>
 RUN Try.prog (Instr.loadAt 3 v24) w fun v25 w =>
 PURE Try.prog (BINS .sub 3 (.tmp 35) (.tmp 40) v16 v25) fun v26 =>
 PURE Try.prog (BINS .add 3 (.tmp 41) (.const (.int .i64 1)) v26 (.int .i64 1)) fun v27 =>
 PURE Try.prog (BINS .add 3 (.tmp 34) (.tmp 42) at_4 v27) fun v28 =>
 next1 v28 w) (
 CALL Try.prog 93 [t_1, line_2, at_4, (.int .i64 0)] w E fun v29 w =>
 COND v29 (
 R at_4 w) (
 PURE Try.prog (NILS t_1) fun v30 =>
 PURE Try.prog (Instr.fieldAt 108 v30 1) fun v31 =>
 PURE Try.prog (Instr.fieldAt 104 v31 1) fun v32 =>
 RUN Try.prog (Instr.loadAt 3 v32) w fun v33 w =>
 PURE Try.prog (BINS .add 3 (.tmp 49) (.tmp 54) at_4 v33) fun v34 =>
 next1 v34 w))) (
 R (.int .i64 (-1)) w)) at_3 w
theorem by_twoway_Two_plain {t_1 line_2 at_3 : Value} {R : Value → World → Prop} {w : World} (h : sh_twoway_Two_plain t_1 line_2 at_3 NOPE R w) : RET Try.prog 63 [t_1, line_2, at_3] w R :=
  ⟨by kernel_rfl, calls_by [(1, [2])] Try.func63 (by kernel_rfl) (by kernel_rfl) (by kernel_rfl) h⟩

def sh_twoway_Two_lapped (t_1 line_2 at_3 : Value) (E : List PanicEntry → World → Prop) (R : Value → World → Prop) (w : World) : Prop :=
 LOOP2 (fun at_4 known_5 w next1 =>
 PURE Try.prog (NILS t_1) fun v6 =>
 PURE Try.prog (Instr.fieldAt 108 v6 0) fun v7 =>
 RUN Try.prog (Instr.loadAt 42 v7) w fun v8 w =>
 PURE Try.prog (Builtin.len_ #[42] 3 #[v8]) fun v9 =>
 PURE Try.prog (BINS .add 3 (.tmp 9) (.tmp 14) at_4 v9) fun v10 =>
 PURE Try.prog (Builtin.len_ #[42] 3 #[line_2]) fun v11 =>
 PURE Try.prog (BINS .leq 3 (.tmp 15) (.tmp 17) v10 v11) fun v12 =>
 COND v12 (
 PURE Try.prog (NILS t_1) fun v13 =>
 PURE Try.prog (Instr.fieldAt 108 v13 1) fun v14 =>
 PURE Try.prog (Instr.fieldAt 104 v14 0) fun v15 =>
 RUN Try.prog (Instr.loadAt 3 v15) w fun v16 w =>
 PURE Try.prog (Builtin.max_ #[3, 3] 3 #[v16, known_5]) fun v17 =>
 CALL Try.prog 92 [t_1, line_2, at_4, v17] w E fun v18 w =>
 PURE Try.prog (NILS t_1) fun v19 =>
 PURE Try.prog (Instr.fieldAt 108 v19 0) fun v20 =>
 RUN Try.prog (Instr.loadAt 42 v20) w fun v21 w =>
 PURE Try.prog (Builtin.len_ #[42] 3 #[v21]) fun v22 =>
 PURE Try.prog (BINS .lss 3 (.tmp 30) (.tmp 35) v18 v22) fun v23 =>
 COND v23 (
 PURE Try.prog (NILS t_1) fun v24 =>
 PURE Try.prog (Instr.fieldAt 108 v24 1) fun v25 =>
 PURE Try.prog (Instr.fieldAt 104 v25 0) fun v26 =>
 RUN Try.prog (Instr.loadAt 3 v26) w fun v27 w =>
 PURE Try.prog (BINS .sub 3 (.tmp 38) (.tmp 43) v18 v27) fun v28 =>
 PURE Try.prog (BINS .add 3 (.tmp 44) (.const (.int .i64 1)) v28 (.int .i64 1)) fun v29 =>
 PURE Try.prog (BINS .add 3 (.tmp 37) (.tmp 45) at_4 v29) fun v30 =>
 next1 v30 (.int .i64 0) w) (
 CALL Try.prog 93 [t_1, line_2, at_4, known_5] w E fun v31 w =>
 COND v31 (
 R at_4 w) (
 PURE Try.prog (NILS t_1) fun v32 =>
 PURE Try.prog (Instr.fieldAt 108 v32 1) fun v33 =>
 PURE Try.prog (Instr.fieldAt 104 v33 1) fun v34 =>
 RUN Try.prog (Instr.loadAt 3 v34) w fun v35 w =>
 PURE Try.prog (BINS .add 3 (.tmp 53) (.tmp 58) at_4 v35) fun v36 =>
 DRAWQ w fun S w =>
 PURE Try.prog (NILS t_1) fun v37 =>
 PURE Try.prog (Instr.fieldAt 108 v37 0) fun v38 =>
 READ Try.prog S (Instr.loadAt 42 v38) w fun v39 =>
 PURE Try.prog (Builtin.len_ #[42] 3 #[v39]) fun v40 =>
 PURE Try.prog (NILS t_1) fun v41 =>
 PURE Try.prog (Instr.fieldAt 108 v41 1) fun v42 =>
 PURE Try.prog (Instr.fieldAt 104 v42 1) fun v43 =>
 READ Try.prog S (Instr.loadAt 3 v43) w fun v44 =>
 PURE Try.prog (BINS .sub 3 (.tmp 64) (.tmp 69) v40 v44) fun v45 =>
 next1 v36 v45 w))) (
 R (.int .i64 (-1)) w)) at_3 (.int .i64 0) w
theorem by_twoway_Two_lapped {t_1 line_2 at_3 : Value} {R : Value → World → Prop} {w : World} (h : sh_twoway_Two_lapped t_1 line_2 at_3 NOPE R w) : RET Try.prog 64 [t_1, line_2, at_3] w R :=
  ⟨by kernel_rfl, calls_by [(2, [2, 7])] Try.func64 (by kernel_rfl) (by kernel_rfl) (by kernel_rfl) h⟩

def sh_trie_Trie_Parent (t_1 node_2 : Value) (E : List PanicEntry → World → Prop) (R : Value → World → Prop) (w : World) : Prop :=
 CALL Try.prog 81 [t_1, node_2] w E fun v3 w =>
 PURE Try.prog (Op.unary .not v3) fun v4 =>
 COND v4 (
 R (.int .i64 (-1)) w) (
 PURE Try.prog (NILS t_1) fun v5 =>
 PURE Try.prog (Instr.fieldAt 91 v5 0) fun v6 =>
 RUN Try.prog (Instr.loadAt 88 v6) w fun v7 w =>
 PURE Try.prog (Instr.indexAt 88 v7 node_2) fun v8 =>
 PURE Try.prog (Instr.fieldAt 87 v8 0) fun v9 =>
 RUN Try.prog (Instr.loadAt 3 v9) w fun v10 w =>
 R v10 w)
theorem by_trie_Trie_Parent {t_1 node_2 : Value} {R : Value → World → Prop} {w : World} (h : sh_trie_Trie_Parent t_1 node_2 NOPE R w) : RET Try.prog 65 [t_1, node_2] w R :=
  ⟨by kernel_rfl, calls_by [] Try.func65 (by kernel_rfl) (by kernel_rfl) (by kernel_rfl) h⟩

def sh_meter_Meter_Sparse (m_1 l_2 : Value) (E : List PanicEntry → World → Prop) (R : Value → World → Prop) (w : World) : Prop :=
 RUN Try.prog (Instr.makeMap 154 none) w fun v3 w =>
 RUN Try.prog (Instr.alloc 154 true (.tuple #[])) w fun to_4 w =>
 RUNU Try.prog (Instr.storeAt 154 to_4 v3) w fun w =>
 PURE Try.prog (Builtin.len_ #[109] 3 #[l_2]) fun v5 =>
 LOOP1 (fun v6 w next1 =>
 PURE Try.prog (BINS .lss 3 (.tmp 11) (.tmp 10) v6 v5) fun v7 =>
 COND v7 (
 PURE Try.prog (Instr.indexAt 109 l_2 v6) fun v8 =>
 RUN Try.prog (Instr.loadAt 113 v8) w fun v9 w =>
 RUN Try.prog (Instr.alloc 113 true (.tuple #[])) w fun r_10 w =>
 RUNU Try.prog (Instr.storeAt 113 r_10 v9) w fun w =>
 RUN Try.prog (Instr.loadAt 154 to_4) w fun v11 w =>
 PURE Try.prog (Instr.fieldAt 113 r_10 0) fun v12 =>
 RUN Try.prog (Instr.loadAt 3 v12) w fun v13 w =>
 PURE Try.prog (Instr.fieldAt 113 r_10 1) fun v14 =>
 RUN Try.prog (Instr.loadAt 5 v14) w fun v15 w =>
 PURE Try.prog (Instr.build 142 #[(0, v13), (1, v15)]) fun v16 =>
 PURE Try.prog (Instr.fieldAt 113 r_10 2) fun v17 =>
 RUN Try.prog (Instr.loadAt 3 v17) w fun v18 w =>
 RUNU Try.prog (Instr.mapUpdate 154 v11 v16 v18) w fun w =>
 PURE Try.prog (BINS .add 3 (.tmp 11) (.const (.int .i64 1)) v6 (.int .i64 1)) fun v19 =>
 next1 v19 w) (
 PURE Try.prog (Instr.makeFunc (Go.Fn.func 94) #[] #[to_4]) fun v20 =>
 PURE Try.prog (Instr.build 145 #[(0, m_1), (1, v20)]) fun v21 =>
 RUN Try.prog (Instr.box 145 v21) w fun v22 w =>
 R v22 w)) (.int .i64 0) w
theorem by_meter_Meter_Sparse {m_1 l_2 : Value} {R : Value → World → Prop} {w : World} (h : sh_meter_Meter_Sparse m_1 l_2 NOPE R w) : RET Try.prog 66 [m_1, l_2] w R :=
  ⟨by kernel_rfl, calls_by [(3, [11])] Try.func66 (by kernel_rfl) (by kernel_rfl) (by kernel_rfl) h⟩

def sh_sparse_Automaton_step (a_1 edges_2 state_3 c_4 : Value) (E : List PanicEntry → World → Prop) (R : Value → World → Prop) (w : World) : Prop :=
 LOOP1 (fun state_5 w next1 =>
 CALL Try.prog 56 [edges_2, state_5, c_4] w E fun v6 w =>
 JOIN1 (fun J2 =>
 PURE Try.prog (BINS .lss 3 (.tmp 14) (.const (.int .i64 0)) v6 (.int .i64 0)) fun v7 =>
 COND v7 (
 PURE Try.prog (BINS .gtr 3 (.tmp 17) (.const (.int .i64 0)) state_5 (.int .i64 0)) fun v8 =>
 PURE Try.prog (PICKS (.bool true) v8 (.bool Bool.false)) fun v9 =>
 J2 v9 w) (
 PURE Try.prog (PICKS (.bool false) undef (.bool Bool.false)) fun v10 =>
 J2 v10 w)) (fun v11 w =>
 COND v11 (
 PURE Try.prog (NILS a_1) fun v12 =>
 PURE Try.prog (Instr.fieldAt 111 v12 1) fun v13 =>
 RUN Try.prog (Instr.loadAt 70 v13) w fun v14 w =>
 CALL Try.prog 77 [v14, state_5] w E fun v15 w =>
 next1 v15 w) (
 PURE Try.prog (Builtin.max_ #[3, 3] 3 #[v6, (.int .i64 0)]) fun v16 =>
 R v16 w))) state_3 w
theorem by_sparse_Automaton_step {a_1 edges_2 state_3 c_4 : Value} {R : Value → World → Prop} {w : World} (h : sh_sparse_Automaton_step a_1 edges_2 state_3 c_4 NOPE R w) : RET Try.prog 67 [a_1, edges_2, state_3, c_4] w R :=
  ⟨by kernel_rfl, calls_by [(1000, [2]), (12003, [19])] Try.func67 (by kernel_rfl) (by kernel_rfl) (by kernel_rfl) h⟩

def sh_cwalter_Walter_Ends (w_1 line_2 : Value) (E : List PanicEntry → World → Prop) (R : Value → World → Prop) (w : World) : Prop :=
 CALL Try.prog 71 [w_1, line_2] w E fun v3 w =>
 PURE Try.prog (Instr.extract v3 0) fun v4 =>
 PURE Try.prog (Instr.extract v3 1) fun v5 =>
 R v5 w
theorem by_cwalter_Walter_Ends {w_1 line_2 : Value} {R : Value → World → Prop} {w : World} (h : sh_cwalter_Walter_Ends w_1 line_2 NOPE R w) : RET Try.prog 68 [w_1, line_2] w R :=
  ⟨by kernel_rfl, calls_by [] Try.func68 (by kernel_rfl) (by kernel_rfl) (by kernel_rfl) h⟩

def sh_back_Build (l_1 : Value) (E : List PanicEntry → World → Prop) (R : Value → World → Prop) (w : World) : Prop :=
 PURE Try.prog (Instr.build 156 #[]) fun v2 =>
 RUN Try.prog (Instr.box 156 v2) w fun v3 w =>
 PURE Try.prog (Builtin.len_ #[22] 3 #[l_1]) fun v4 =>
 LOOP2 (fun texts_5 v6 w next1 =>
 PURE Try.prog (BINS .lss 3 (.tmp 14) (.tmp 13) v6 v4) fun v7 =>
 COND v7 (
 PURE Try.prog (Instr.indexAt 22 l_1 v6) fun v8 =>
 RUN Try.prog (Instr.loadAt 42 v8) w fun v9 w =>
 PURE Try.prog (Builtin.len_ #[42] 3 #[v9]) fun v10 =>
 PURE Try.prog (BINS .eql 3 (.tmp 19) (.const (.int .i64 0)) v10 (.int .i64 0)) fun v11 =>
 COND v11 (
 PURE Try.prog (BINS .add 3 (.tmp 14) (.const (.int .i64 1)) v6 (.int .i64 1)) fun v12 =>
 next1 texts_5 v12 w) (
 CALL Try.prog 96 [v9] w E fun v13 w =>
 RUN Try.prog (Instr.buildSlice 22 1 #[(0, v13)]) w fun v14 w =>
 RUN Try.prog (Builtin.append_ #[22, 22] 22 #[texts_5, v14]) w fun v15 w =>
 PURE Try.prog (NILS v3) fun v16 =>
 PURE Try.prog (Instr.fieldAt 156 v16 1) fun v17 =>
 RUN Try.prog (Instr.loadAt 3 v17) w fun v18 w =>
 PURE Try.prog (Builtin.len_ #[42] 3 #[v13]) fun v19 =>
 CALLV Try.prog (.func (.func 95) #[] #[]) [v18, v19] w E fun v20 w =>
 PURE Try.prog (NILS v3) fun v21 =>
 PURE Try.prog (Instr.fieldAt 156 v21 1) fun v22 =>
 RUNU Try.prog (Instr.storeAt 3 v22 v20) w fun w =>
 PURE Try.prog (Builtin.len_ #[42] 3 #[v13]) fun v23 =>
 LOOP1 (fun v24 w next2 =>
 PURE Try.prog (BINS .lss 3 (.tmp 40) (.tmp 39) v24 v23) fun v25 =>
 COND v25 (
 PURE Try.prog (Instr.indexAt 42 v13 v24) fun v26 =>
 RUN Try.prog (Instr.loadAt 5 v26) w fun v27 w =>
 DRAWQ w fun S w =>
 PURE Try.prog (NILS v3) fun v28 =>
 PURE Try.prog (Instr.fieldAt 156 v28 2) fun v29 =>
 PURE Try.prog (Instr.indexAt 31 v29 v27) fun v30 =>
 READ Try.prog S (Instr.loadAt 3 v30) w fun v31 =>
 PURE Try.prog (BINS .add 3 (.tmp 54) (.const (.int .i64 1)) v24 (.int .i64 1)) fun v32 =>
 PURE Try.prog (NILS v3) fun v33 =>
 PURE Try.prog (Instr.fieldAt 156 v33 2) fun v34 =>
 CALLV Try.prog (.func (.func 95) #[] #[]) [v31, v32] w E fun v35 w =>
 PURE Try.prog (Instr.indexAt 31 v34 v27) fun v36 =>
 RUNU Try.prog (Instr.storeAt 3 v36 v35) w fun w =>
 PURE Try.prog (BINS .add 3 (.tmp 40) (.const (.int .i64 1)) v24 (.int .i64 1)) fun v37 =>
 next2 v37 w) (
 PURE Try.prog (BINS .add 3 (.tmp 14) (.const (.int .i64 1)) v6 (.int .i64 1)) fun v38 =>
 next1 v15 v38 w)) (.int .i64 0) w)) (
 CALL Try.prog 22 [texts_5] w E fun v39 w =>
 PURE Try.prog (NILS v3) fun v40 =>
 PURE Try.prog (Instr.fieldAt 156 v40 0) fun v41 =>
 RUNU Try.prog (Instr.storeAt 45 v41 v39) w fun w =>
 R v3 w)) (.slice Option.none 0 0) (.int .i64 0) w
theorem by_back_Build {l_1 : Value} {R : Value → World → Prop} {w : World} (h : sh_back_Build l_1 NOPE R w) : RET Try.prog 69 [l_1] w R :=
  ⟨by kernel_rfl, calls_by [(5, [5, 14]), (12, [40])] Try.func69 (by kernel_rfl) (by kernel_rfl) (by kernel_rfl) h⟩

def sh_shifts_Build (b_1 : Value) (E : List PanicEntry → World → Prop) (R : Value → World → Prop) (w : World) : Prop :=
 PURE Try.prog (Instr.build 160 #[(0, b_1)]) fun v2 =>
 RUN Try.prog (Instr.box 160 v2) w fun v3 w =>
 CALL Try.prog 97 [b_1] w E fun v4 w =>
 PURE Try.prog (BINS .eql 3 (.tmp 10) (.const (.int .i64 0)) v4 (.int .i64 0)) fun v5 =>
 COND v5 (
 R v3 w) (
 PURE Try.prog (NILS b_1) fun v6 =>
 PURE Try.prog (Instr.fieldAt 156 v6 0) fun v7 =>
 RUN Try.prog (Instr.loadAt 45 v7) w fun v8 w =>
 CALL Try.prog 23 [v8] w E fun v9 w =>
 LOOP1 (fun v10 w next1 =>
 PURE Try.prog (BINS .lss 3 (.tmp 18) (.tmp 17) v10 v9) fun v11 =>
 COND v11 (
 DRAW w fun S w =>
 PURE Try.prog (NILS v3) fun v12 =>
 PURE Try.prog (Instr.fieldAt 160 v12 1) fun v13 =>
 READ Try.prog S (Instr.loadAt 158 v13) w fun v14 =>
 CALL Try.prog 97 [b_1] w E fun v15 w =>
 KEEPS S w fun S =>
 CALL Try.prog 97 [b_1] w E fun v16 w =>
 KEEPS S w fun S =>
 PURE Try.prog (Instr.build 161 #[(0, v15), (1, v16)]) fun v17 =>
 RUN Try.prog (Instr.buildSlice 158 1 #[(0, v17)]) w fun v18 w =>
 KEEPS S w fun S =>
 RUN Try.prog (Builtin.append_ #[158, 158] 158 #[v14, v18]) w fun v19 w =>
 PURE Try.prog (NILS v3) fun v20 =>
 PURE Try.prog (Instr.fieldAt 160 v20 1) fun v21 =>
 RUNU Try.prog (Instr.storeAt 158 v21 v19) w fun w =>
 PURE Try.prog (BINS .add 3 (.tmp 18) (.const (.int .i64 1)) v10 (.int .i64 1)) fun v22 =>
 next1 v22 w) (
 LOOP1 (fun w_23 w next2 =>
 PURE Try.prog (NILS b_1) fun v24 =>
 PURE Try.prog (Instr.fieldAt 156 v24 0) fun v25 =>
 RUN Try.prog (Instr.loadAt 45 v25) w fun v26 w =>
 CALL Try.prog 23 [v26] w E fun v27 w =>
 PURE Try.prog (BINS .lss 3 (.tmp 35) (.tmp 40) w_23 v27) fun v28 =>
 COND v28 (
 CALL Try.prog 98 [v3, w_23] w E fun v29 w =>
 PURE Try.prog (BINS .add 3 (.tmp 42) (.const (.int .i64 1)) w_23 (.int .i64 1)) fun v30 =>
 next2 v30 w) (
 LOOP1 (fun v_31 w next3 =>
 PURE Try.prog (NILS b_1) fun v32 =>
 PURE Try.prog (Instr.fieldAt 156 v32 0) fun v33 =>
 RUN Try.prog (Instr.loadAt 45 v33) w fun v34 w =>
 CALL Try.prog 23 [v34] w E fun v35 w =>
 PURE Try.prog (BINS .lss 3 (.tmp 47) (.tmp 52) v_31 v35) fun v36 =>
 COND v36 (
 DRAW w fun S w =>
 PURE Try.prog (NILS v3) fun v37 =>
 PURE Try.prog (Instr.fieldAt 160 v37 1) fun v38 =>
 READ Try.prog S (Instr.loadAt 158 v38) w fun v39 =>
 PURE Try.prog (NILS v3) fun v40 =>
 PURE Try.prog (Instr.fieldAt 160 v40 1) fun v41 =>
 READ Try.prog S (Instr.loadAt 158 v41) w fun v42 =>
 PURE Try.prog (Instr.indexAt 158 v42 v_31) fun v43 =>
 PURE Try.prog (Instr.indexAt 161 v43 (.int .i64 1)) fun v44 =>
 READ Try.prog S (Instr.loadAt 3 v44) w fun v45 =>
 PURE Try.prog (NILS v3) fun v46 =>
 PURE Try.prog (Instr.fieldAt 160 v46 1) fun v47 =>
 READ Try.prog S (Instr.loadAt 158 v47) w fun v48 =>
 PURE Try.prog (NILS b_1) fun v49 =>
 PURE Try.prog (Instr.fieldAt 156 v49 0) fun v50 =>
 READ Try.prog S (Instr.loadAt 45 v50) w fun v51 =>
 PURE Try.prog (Instr.indexAt 158 v39 v_31) fun v52 =>
 CALL Try.prog 65 [v51, v_31] w E fun v53 w =>
 KEEPS S w fun S =>
 PURE Try.prog (Instr.indexAt 158 v48 v53) fun v54 =>
 PURE Try.prog (Instr.indexAt 161 v54 (.int .i64 1)) fun v55 =>
 READ Try.prog S (Instr.loadAt 3 v55) w fun v56 =>
 PURE Try.prog (Builtin.min_ #[3, 3] 3 #[v45, v56]) fun v57 =>
 PURE Try.prog (Instr.indexAt 161 v52 (.int .i64 1)) fun v58 =>
 RUNU Try.prog (Instr.storeAt 3 v58 v57) w fun w =>
 PURE Try.prog (BINS .add 3 (.tmp 54) (.const (.int .i64 1)) v_31 (.int .i64 1)) fun v59 =>
 next3 v59 w) (
 R v3 w)) (.int .i64 1) w)) (.int .i64 1) w)) (.int .i64 0) w)
theorem by_shifts_Build {b_1 : Value} {R : Value → World → Prop} {w : World} (h : sh_shifts_Build b_1 NOPE R w) : RET Try.prog 70 [b_1] w R :=
  ⟨by kernel_rfl, calls_by [(5, [18]), (9, [4]), (13, [5])] Try.func70 (by kernel_rfl) (by kernel_rfl) (by kernel_rfl) h⟩

def sh_cwalter_Walter_walk (w_1 line_2 : Value) (E : List PanicEntry → World → Prop) (R : Value → World → Prop) (w : World) : Prop :=
 JOIN0 (fun J1 =>
 PURE Try.prog (BINS .eql 65 (.tmp 11) (.const (.pointer Option.none)) w_1 (.pointer Option.none)) fun v3 =>
 COND v3 (
 PURE Try.prog (PICKS (.bool true) (.bool Bool.true) undef) fun v4 =>
 COND v4 (
 R (.tuple #[(.slice Option.none 0 0), (.slice Option.none 0 0)]) w) (
 J1 w)) (
 PURE Try.prog (NILS w_1) fun v5 =>
 PURE Try.prog (Instr.fieldAt 122 v5 0) fun v6 =>
 RUN Try.prog (Instr.loadAt 117 v6) w fun v7 w =>
 CALL Try.prog 97 [v7] w E fun v8 w =>
 PURE Try.prog (BINS .eql 3 (.tmp 18) (.const (.int .i64 0)) v8 (.int .i64 0)) fun v9 =>
 PURE Try.prog (PICKS (.bool false) (.bool Bool.true) v9) fun v10 =>
 COND v10 (
 R (.tuple #[(.slice Option.none 0 0), (.slice Option.none 0 0)]) w) (
 J1 w))) (fun w =>
 PURE Try.prog (NILS w_1) fun v11 =>
 PURE Try.prog (Instr.fieldAt 122 v11 0) fun v12 =>
 RUN Try.prog (Instr.loadAt 117 v12) w fun v13 w =>
 CALL Try.prog 97 [v13] w E fun v14 w =>
 LOOP3 (fun out_15 ends_16 end_17 w next2 =>
 PURE Try.prog (Builtin.len_ #[42] 3 #[line_2]) fun v18 =>
 PURE Try.prog (BINS .leq 3 (.tmp 26) (.tmp 28) end_17 v18) fun v19 =>
 COND v19 (
 CALL Try.prog 99 [w_1, line_2, end_17] w E fun v20 w =>
 PURE Try.prog (Instr.extract v20 0) fun v21 =>
 PURE Try.prog (Instr.extract v20 1) fun v22 =>
 RUN Try.prog (Builtin.append_ #[49, 49] 49 #[out_15, v21]) w fun v23 w =>
 RUN Try.prog (Instr.buildSlice 72 1 #[(0, end_17)]) w fun v24 w =>
 RUN Try.prog (Builtin.append_ #[72, 72] 72 #[ends_16, v24]) w fun v25 w =>
 PURE Try.prog (BINS .add 3 (.tmp 44) (.tmp 45) end_17 v22) fun v26 =>
 next2 v23 v25 v26 w) (
 R (.tuple #[out_15, ends_16]) w)) (.slice Option.none 0 0) (.slice Option.none 0 0) v14 w)
theorem by_cwalter_Walter_walk {w_1 line_2 : Value} {R : Value → World → Prop} {w : World} (h : sh_cwalter_Walter_walk w_1 line_2 NOPE R w) : RET Try.prog 71 [w_1, line_2] w R :=
  ⟨by kernel_rfl, calls_by [(1000, [6, 7, 8]), (13005, [])] Try.func71 (by kernel_rfl) (by kernel_rfl) (by kernel_rfl) h⟩

def sh_slices_Repeat_int_int (x_1 count_2 : Value) (E : List PanicEntry → World → Prop) (R : Value → World → Prop) (w : World) : Prop :=
 JOIN0 (fun J1 =>
 PURE Try.prog (BINS .lss 3 (.tmp 9) (.const (.int .i64 0)) count_2 (.int .i64 0)) fun v3 =>
 COND v3 (
 PURE Try.prog (Instr.makeInterface 9 (.string { data := #[99, 97, 110, 110, 111, 116, 32, 98, 101, 32, 110, 101, 103, 97, 116, 105, 118, 101] })) fun v4 =>
 PANIC v4 w E) (
 J1 w)) (fun w =>
 PURE Try.prog (Builtin.len_ #[72] 3 #[x_1]) fun v5 =>
 PURE Try.prog (convert 3 165 v5) fun v6 =>
 PURE Try.prog (convert 3 165 count_2) fun v7 =>
 CALL Try.prog 100 [v6, v7] w E fun v8 w =>
 PURE Try.prog (Instr.extract v8 0) fun v9 =>
 PURE Try.prog (Instr.extract v8 1) fun v10 =>
 JOIN0 (fun J2 =>
 PURE Try.prog (BINS .gtr 165 (.tmp 21) (.const (.int .u64 0)) v9 (.int .u64 0)) fun v11 =>
 COND v11 (
 PURE Try.prog (PICKS (.bool true) (.bool Bool.true) undef) fun v12 =>
 COND v12 (
 PURE Try.prog (Instr.makeInterface 9 (.string { data := #[116, 104, 101, 32, 114, 101, 115, 117, 108, 116, 32, 111, 102, 32, 40, 108, 101, 110, 40, 120, 41, 32, 42, 32, 99, 111, 117, 110, 116, 41, 32, 111, 118, 101, 114, 102, 108, 111, 119, 115] })) fun v13 =>
 PANIC v13 w E) (
 J2 w)) (
 PURE Try.prog (BINS .gtr 165 (.tmp 24) (.const (.int .u64 9223372036854775807)) v10 (.int .u64 9223372036854775807)) fun v14 =>
 PURE Try.prog (PICKS (.bool false) (.bool Bool.true) v14) fun v15 =>
 COND v15 (
 PURE Try.prog (Instr.makeInterface 9 (.string { data := #[116, 104, 101, 32, 114, 101, 115, 117, 108, 116, 32, 111, 102, 32, 40, 108, 101, 110, 40, 120, 41, 32, 42, 32, 99, 111, 117, 110, 116, 41, 32, 111, 118, 101, 114, 102, 108, 111, 119, 115] })) fun v16 =>
 PANIC v16 w E) (
 J2 w))) (fun w =>
 PURE Try.prog (convert 165 3 v10) fun v17 =>
 RUN Try.prog (Instr.makeSlice 72 v17 v17) w fun v18 w =>
 RUN Try.prog (Builtin.copy_ #[72, 72] 3 #[v18, x_1]) w fun v19 w =>
 LOOP1 (fun n_20 w next3 =>
 PURE Try.prog (Builtin.len_ #[72] 3 #[v18]) fun v21 =>
 PURE Try.prog (BINS .lss 3 (.tmp 34) (.tmp 36) n_20 v21) fun v22 =>
 COND v22 (
 DRAWQ w fun S w =>
 PURE Try.prog (Instr.sliceAt 72 v18 (some n_20) none none) fun v23 =>
 PURE Try.prog (Instr.sliceAt 72 v18 none (some n_20) none) fun v24 =>
 RUN Try.prog (Builtin.copy_ #[72, 72] 3 #[v23, v24]) w fun v25 w =>
 PURE Try.prog (BINS .add 3 (.tmp 38) (.tmp 45) n_20 v25) fun v26 =>
 next3 v26 w) (
 R v18 w)) v19 w))
theorem by_slices_Repeat_int_int {x_1 count_2 : Value} {R : Value → World → Prop} {w : World} (h : sh_slices_Repeat_int_int x_1 count_2 NOPE R w) : RET Try.prog 72 [x_1, count_2] w R :=
  ⟨by kernel_rfl, calls_by [(8, [8]), (11003, []), (14006, [])] Try.func72 (by kernel_rfl) (by kernel_rfl) (by kernel_rfl) h⟩

def sh_trie_Trie_Kids (t_1 node_2 : Value) (E : List PanicEntry → World → Prop) (R : Value → World → Prop) (w : World) : Prop :=
 LOOP2 (fun out_3 v4 w next1 =>
 PURE Try.prog (BINS .lss 3 (.tmp 7) (.const (.int .i64 256)) v4 (.int .i64 256)) fun v5 =>
 COND v5 (
 PURE Try.prog (convert 3 5 v4) fun v6 =>
 CALL Try.prog 74 [t_1, node_2, v6] w E fun v7 w =>
 PURE Try.prog (BINS .geq 3 (.tmp 14) (.const (.int .i64 0)) v7 (.int .i64 0)) fun v8 =>
 COND v8 (
 PURE Try.prog (convert 3 5 v4) fun v9 =>
 RUN Try.prog (Instr.buildSlice 42 1 #[(0, v9)]) w fun v10 w =>
 RUN Try.prog (Builtin.append_ #[42, 42] 42 #[out_3, v10]) w fun v11 w =>
 PURE Try.prog (BINS .add 3 (.tmp 7) (.const (.int .i64 1)) v4 (.int .i64 1)) fun v12 =>
 next1 v11 v12 w) (
 PURE Try.prog (BINS .add 3 (.tmp 7) (.const (.int .i64 1)) v4 (.int .i64 1)) fun v13 =>
 next1 out_3 v13 w)) (
 R out_3 w)) (.slice Option.none 0 0) (.int .i64 0) w
theorem by_trie_Trie_Kids {t_1 node_2 : Value} {R : Value → World → Prop} {w : World} (h : sh_trie_Trie_Kids t_1 node_2 NOPE R w) : RET Try.prog 73 [t_1, node_2] w R :=
  ⟨by kernel_rfl, calls_by [(3, [5, 7])] Try.func73 (by kernel_rfl) (by kernel_rfl) (by kernel_rfl) h⟩

def sh_trie_Trie_Step (t_1 node_2 c_3 : Value) (E : List PanicEntry → World → Prop) (R : Value → World → Prop) (w : World) : Prop :=
 CALL Try.prog 81 [t_1, node_2] w E fun v4 w =>
 COND v4 (
 PURE Try.prog (NILS t_1) fun v5 =>
 PURE Try.prog (Instr.fieldAt 91 v5 1) fun v6 =>
 RUN Try.prog (Instr.loadAt 89 v6) w fun v7 w =>
 PURE Try.prog (Instr.build 136 #[(0, node_2), (1, c_3)]) fun v8 =>
 RUN Try.prog (Instr.lookup 89 v7 v8 Bool.true) w fun v9 w =>
 PURE Try.prog (Instr.extract v9 0) fun v10 =>
 PURE Try.prog (Instr.extract v9 1) fun v11 =>
 COND v11 (
 R v10 w) (
 R (.int .i64 (-1)) w)) (
 R (.int .i64 (-1)) w)
theorem by_trie_Trie_Step {t_1 node_2 c_3 : Value} {R : Value → World → Prop} {w : World} (h : sh_trie_Trie_Step t_1 node_2 c_3 NOPE R w) : RET Try.prog 74 [t_1, node_2, c_3] w R :=
  ⟨by kernel_rfl, calls_by [] Try.func74 (by kernel_rfl) (by kernel_rfl) (by kernel_rfl) h⟩

def sh_links_Links_link (l_1 t_2 at_3 : Value) (E : List PanicEntry → World → Prop) (R : Value → World → Prop) (w : World) : Prop :=
 RUN Try.prog (Instr.box 70 l_1) w fun l_4 w =>
 RUN Try.prog (Instr.box 45 t_2) w fun t_5 w =>
 RUN Try.prog (Instr.loadAt 45 t_5) w fun v6 w =>
 CALL Try.prog 50 [v6, at_3] w E fun v7 w =>
 PURE Try.prog (Builtin.len_ #[42] 3 #[v7]) fun v8 =>
 PURE Try.prog (BINS .sub 3 (.tmp 15) (.const (.int .i64 1)) v8 (.int .i64 1)) fun v9 =>
 PURE Try.prog (Instr.indexAt 42 v7 v9) fun v10 =>
 RUN Try.prog (Instr.loadAt 5 v10) w fun v11 w =>
 RUN Try.prog (Instr.alloc 5 true (.tuple #[])) w fun c_12 w =>
 RUNU Try.prog (Instr.storeAt 5 c_12 v11) w fun w =>
 PURE Try.prog (Instr.makeFunc (Go.Fn.func 101) #[] #[l_4, t_5, c_12]) fun v13 =>
 RUN Try.prog (Instr.loadAt 45 t_5) w fun v14 w =>
 CALL Try.prog 65 [v14, at_3] w E fun v15 w =>
 CALLV Try.prog v13 [v15] w E fun v16 w =>
 RUN Try.prog (Instr.loadAt 70 l_4) w fun v17 w =>
 PURE Try.prog (NILS v17) fun v18 =>
 PURE Try.prog (Instr.fieldAt 127 v18 0) fun v19 =>
 RUN Try.prog (Instr.loadAt 72 v19) w fun v20 w =>
 PURE Try.prog (Instr.indexAt 72 v20 at_3) fun v21 =>
 RUNU Try.prog (Instr.storeAt 3 v21 v16) w fun w =>
 RUN Try.prog (Instr.loadAt 70 l_4) w fun v22 w =>
 PURE Try.prog (NILS v22) fun v23 =>
 PURE Try.prog (Instr.fieldAt 127 v23 1) fun v24 =>
 RUN Try.prog (Instr.loadAt 72 v24) w fun v25 w =>
 PURE Try.prog (Instr.indexAt 72 v25 at_3) fun v26 =>
 RUNU Try.prog (Instr.storeAt 3 v26 v16) w fun w =>
 JOIN0 (fun J1 =>
 RUN Try.prog (Instr.loadAt 70 l_4) w fun v27 w =>
 PURE Try.prog (NILS v27) fun v28 =>
 PURE Try.prog (Instr.fieldAt 127 v28 2) fun v29 =>
 RUN Try.prog (Instr.loadAt 72 v29) w fun v30 w =>
 PURE Try.prog (Instr.indexAt 72 v30 v16) fun v31 =>
 RUN Try.prog (Instr.loadAt 3 v31) w fun v32 w =>
 PURE Try.prog (BINS .eql 3 (.tmp 45) (.const (.int .i64 0)) v32 (.int .i64 0)) fun v33 =>
 COND v33 (
 DRAWQ w fun S w =>
 READ Try.prog S (Instr.loadAt 70 l_4) w fun v34 =>
 PURE Try.prog (NILS v34) fun v35 =>
 PURE Try.prog (Instr.fieldAt 127 v35 1) fun v36 =>
 READ Try.prog S (Instr.loadAt 72 v36) w fun v37 =>
 READ Try.prog S (Instr.loadAt 70 l_4) w fun v38 =>
 PURE Try.prog (NILS v38) fun v39 =>
 PURE Try.prog (Instr.fieldAt 127 v39 1) fun v40 =>
 READ Try.prog S (Instr.loadAt 72 v40) w fun v41 =>
 PURE Try.prog (Instr.indexAt 72 v41 v16) fun v42 =>
 READ Try.prog S (Instr.loadAt 3 v42) w fun v43 =>
 PURE Try.prog (Instr.indexAt 72 v37 at_3) fun v44 =>
 RUNU Try.prog (Instr.storeAt 3 v44 v43) w fun w =>
 J1 w) (
 J1 w)) (fun w =>
 RUN Try.prog (Instr.loadAt 45 t_5) w fun v45 w =>
 CALL Try.prog 102 [v45, at_3] w E fun v46 w =>
 PURE Try.prog (BINS .geq 3 (.tmp 62) (.const (.int .i64 0)) v46 (.int .i64 0)) fun v47 =>
 COND v47 (
 RUN Try.prog (Instr.loadAt 70 l_4) w fun v48 w =>
 PURE Try.prog (NILS v48) fun v49 =>
 PURE Try.prog (Instr.fieldAt 127 v49 2) fun v50 =>
 RUN Try.prog (Instr.loadAt 72 v50) w fun v51 w =>
 PURE Try.prog (Builtin.len_ #[42] 3 #[v7]) fun v52 =>
 PURE Try.prog (Instr.indexAt 72 v51 at_3) fun v53 =>
 RUNU Try.prog (Instr.storeAt 3 v53 v52) w fun w =>
 R (.tuple #[]) w) (
 R (.tuple #[]) w))
theorem by_links_Links_link {l_1 t_2 at_3 : Value} {R : Value → World → Prop} {w : World} (h : sh_links_Links_link l_1 t_2 at_3 NOPE R w) : RET Try.prog 75 [l_1, t_2, at_3] w R :=
  ⟨by kernel_rfl, calls_by [(17009, [])] Try.func75 (by kernel_rfl) (by kernel_rfl) (by kernel_rfl) h⟩

def sh_links_Links_Order (l_1 : Value) (E : List PanicEntry → World → Prop) (R : Value → World → Prop) (w : World) : Prop :=
 PURE Try.prog (BINS .eql 70 (.tmp 3) (.const (.pointer Option.none)) l_1 (.pointer Option.none)) fun v2 =>
 COND v2 (
 R (.slice Option.none 0 0) w) (
 PURE Try.prog (NILS l_1) fun v3 =>
 PURE Try.prog (Instr.fieldAt 127 v3 3) fun v4 =>
 RUN Try.prog (Instr.loadAt 72 v4) w fun v5 w =>
 CALL Try.prog 83 [v5] w E fun v6 w =>
 R v6 w)
theorem by_links_Links_Order {l_1 : Value} {R : Value → World → Prop} {w : World} (h : sh_links_Links_Order l_1 NOPE R w) : RET Try.prog 76 [l_1] w R :=
  ⟨by kernel_rfl, calls_by [] Try.func76 (by kernel_rfl) (by kernel_rfl) (by kernel_rfl) h⟩

def sh_links_Links_Fail (l_1 node_2 : Value) (E : List PanicEntry → World → Prop) (R : Value → World → Prop) (w : World) : Prop :=
 CALL Try.prog 86 [l_1, node_2] w E fun v3 w =>
 PURE Try.prog (Op.unary .not v3) fun v4 =>
 COND v4 (
 R (.int .i64 (-1)) w) (
 PURE Try.prog (NILS l_1) fun v5 =>
 PURE Try.prog (Instr.fieldAt 127 v5 0) fun v6 =>
 RUN Try.prog (Instr.loadAt 72 v6) w fun v7 w =>
 PURE Try.prog (Instr.indexAt 72 v7 node_2) fun v8 =>
 RUN Try.prog (Instr.loadAt 3 v8) w fun v9 w =>
 R v9 w)
theorem by_links_Links_Fail {l_1 node_2 : Value} {R : Value → World → Prop} {w : World} (h : sh_links_Links_Fail l_1 node_2 NOPE R w) : RET Try.prog 77 [l_1, node_2] w R :=
  ⟨by kernel_rfl, calls_by [] Try.func77 (by kernel_rfl) (by kernel_rfl) (by kernel_rfl) h⟩

def sh_fold_Set_With (s_1 c_2 : Value) (E : List PanicEntry → World → Prop) (R : Value → World → Prop) (w : World) : Prop :=
 RUN Try.prog (Instr.box 77 s_1) w fun s_3 w =>
 RUN Try.prog (Instr.alloc 77 true (.tuple #[])) w fun v4 w =>
 PURE Try.prog (BINS .quo 5 (.tmp 5) (.const (.int .u8 64)) c_2 (.int .u8 64)) fun v5 =>
 PURE Try.prog (Instr.indexAt 77 s_3 v5) fun v6 =>
 RUN Try.prog (Instr.loadAt 75 v6) w fun v7 w =>
 PURE Try.prog (BINS .rem 5 (.tmp 9) (.const (.int .u8 64)) c_2 (.int .u8 64)) fun v8 =>
 PURE Try.prog (BINS .shl 75 (.const (.int .u64 1)) (.tmp 10) (.int .u64 1) v8) fun v9 =>
 PURE Try.prog (BINS .or 75 (.tmp 8) (.tmp 11) v7 v9) fun v10 =>
 PURE Try.prog (Instr.indexAt 77 s_3 v5) fun v11 =>
 RUNU Try.prog (Instr.storeAt 75 v11 v10) w fun w =>
 RUN Try.prog (Instr.loadAt 77 s_3) w fun v12 w =>
 RUNU Try.prog (Instr.storeAt 77 v4 v12) w fun w =>
 LOADRES Try.prog 77 v4 w fun r => R r w
theorem by_fold_Set_With {s_1 c_2 : Value} {R : Value → World → Prop} {w : World} (h : sh_fold_Set_With s_1 c_2 NOPE R w) : RET Try.prog 78 [s_1, c_2] w R :=
  ⟨by kernel_rfl, calls_by [] Try.func78 (by kernel_rfl) (by kernel_rfl) (by kernel_rfl) h⟩

def sh_fold_Set_Has (s_1 c_2 : Value) (E : List PanicEntry → World → Prop) (R : Value → World → Prop) (w : World) : Prop :=
 RUN Try.prog (Instr.box 77 s_1) w fun s_3 w =>
 PURE Try.prog (BINS .quo 5 (.tmp 5) (.const (.int .u8 64)) c_2 (.int .u8 64)) fun v4 =>
 PURE Try.prog (Instr.indexAt 77 s_3 v4) fun v5 =>
 RUN Try.prog (Instr.loadAt 75 v5) w fun v6 w =>
 PURE Try.prog (BINS .rem 5 (.tmp 9) (.const (.int .u8 64)) c_2 (.int .u8 64)) fun v7 =>
 PURE Try.prog (BINS .shr 75 (.tmp 8) (.tmp 10) v6 v7) fun v8 =>
 PURE Try.prog (BINS .and 75 (.tmp 11) (.const (.int .u64 1)) v8 (.int .u64 1)) fun v9 =>
 PURE Try.prog (BINS .eql 75 (.tmp 12) (.const (.int .u64 1)) v9 (.int .u64 1)) fun v10 =>
 R v10 w
theorem by_fold_Set_Has {s_1 c_2 : Value} {R : Value → World → Prop} {w : World} (h : sh_fold_Set_Has s_1 c_2 NOPE R w) : RET Try.prog 79 [s_1, c_2] w R :=
  ⟨by kernel_rfl, calls_by [] Try.func79 (by kernel_rfl) (by kernel_rfl) (by kernel_rfl) h⟩

def sh_seineref01_In (s_1 c_2 : Value) (E : List PanicEntry → World → Prop) (R : Value → World → Prop) (w : World) : Prop :=
 LOOP1 (fun i_3 w next1 =>
 PURE Try.prog (Builtin.len_ #[9] 3 #[s_1]) fun v4 =>
 PURE Try.prog (BINS .lss 3 (.tmp 6) (.tmp 8) i_3 v4) fun v5 =>
 COND v5 (
 PURE Try.prog (Instr.index 9 s_1 i_3) fun v6 =>
 PURE Try.prog (BINS .eql 5 (.tmp 14) (.tmp 15) v6 c_2) fun v7 =>
 COND v7 (
 R (.bool Bool.true) w) (
 PURE Try.prog (BINS .add 3 (.tmp 10) (.const (.int .i64 1)) i_3 (.int .i64 1)) fun v8 =>
 next1 v8 w)) (
 R (.bool Bool.false) w)) (.int .i64 0) w
theorem by_seineref01_In {s_1 c_2 : Value} {R : Value → World → Prop} {w : World} (h : sh_seineref01_In s_1 c_2 NOPE R w) : RET Try.prog 80 [s_1, c_2] w R :=
  ⟨by kernel_rfl, calls_by [(2, [5])] Try.func80 (by kernel_rfl) (by kernel_rfl) (by kernel_rfl) h⟩

def sh_trie_Trie_is (t_1 n_2 : Value) (E : List PanicEntry → World → Prop) (R : Value → World → Prop) (w : World) : Prop :=
 PURE Try.prog (BINS .geq 3 (.tmp 5) (.const (.int .i64 0)) n_2 (.int .i64 0)) fun v3 =>
 COND v3 (
 CALL Try.prog 23 [t_1] w E fun v4 w =>
 PURE Try.prog (BINS .lss 3 (.tmp 8) (.tmp 10) n_2 v4) fun v5 =>
 PURE Try.prog (PICKS (.bool true) v5 (.bool Bool.false)) fun v6 =>
 R v6 w) (
 PURE Try.prog (PICKS (.bool false) undef (.bool Bool.false)) fun v7 =>
 R v7 w)
theorem by_trie_Trie_is {t_1 n_2 : Value} {R : Value → World → Prop} {w : World} (h : sh_trie_Trie_is t_1 n_2 NOPE R w) : RET Try.prog 81 [t_1, n_2] w R :=
  ⟨by kernel_rfl, calls_by [] Try.func81 (by kernel_rfl) (by kernel_rfl) (by kernel_rfl) h⟩

def sh_slices_Reverse_byte_byte (s_1 : Value) (E : List PanicEntry → World → Prop) (R : Value → World → Prop) (w : World) : Prop :=
 PURE Try.prog (Builtin.len_ #[42] 3 #[s_1]) fun v2 =>
 PURE Try.prog (BINS .sub 3 (.tmp 5) (.const (.int .i64 1)) v2 (.int .i64 1)) fun v3 =>
 LOOP2 (fun i_4 j_5 w next1 =>
 PURE Try.prog (BINS .lss 3 (.tmp 7) (.tmp 8) i_4 j_5) fun v6 =>
 COND v6 (
 DRAWQ w fun S w =>
 PURE Try.prog (Instr.indexAt 42 s_1 j_5) fun v7 =>
 READ Try.prog S (Instr.loadAt 5 v7) w fun v8 =>
 PURE Try.prog (Instr.indexAt 42 s_1 i_4) fun v9 =>
 READ Try.prog S (Instr.loadAt 5 v9) w fun v10 =>
 PURE Try.prog (Instr.indexAt 42 s_1 i_4) fun v11 =>
 RUNU Try.prog (Instr.storeAt 5 v11 v8) w fun w =>
 PURE Try.prog (Instr.indexAt 42 s_1 j_5) fun v12 =>
 RUNU Try.prog (Instr.storeAt 5 v12 v10) w fun w =>
 PURE Try.prog (BINS .add 3 (.tmp 10) (.const (.int .i64 1)) i_4 (.int .i64 1)) fun v13 =>
 PURE Try.prog (BINS .sub 3 (.tmp 12) (.const (.int .i64 1)) j_5 (.int .i64 1)) fun v14 =>
 next1 v13 v14 w) (
 R (.tuple #[]) w)) (.int .i64 0) v3 w
theorem by_slices_Reverse_byte_byte {s_1 : Value} {R : Value → World → Prop} {w : World} (h : sh_slices_Reverse_byte_byte s_1 NOPE R w) : RET Try.prog 82 [s_1] w R :=
  ⟨by kernel_rfl, calls_by [(1, [2, 3])] Try.func82 (by kernel_rfl) (by kernel_rfl) (by kernel_rfl) h⟩

def sh_slices_Clone_int_int (s_1 : Value) (E : List PanicEntry → World → Prop) (R : Value → World → Prop) (w : World) : Prop :=
 PURE Try.prog (BINS .eql 72 (.tmp 3) (.const (.slice Option.none 0 0)) s_1 (.slice Option.none 0 0)) fun v2 =>
 COND v2 (
 R (.slice Option.none 0 0) w) (
 RUN Try.prog (Instr.buildSlice 72 0 #[]) w fun v3 w =>
 RUN Try.prog (Builtin.append_ #[72, 72] 72 #[v3, s_1]) w fun v4 w =>
 R v4 w)
theorem by_slices_Clone_int_int {s_1 : Value} {R : Value → World → Prop} {w : World} (h : sh_slices_Clone_int_int s_1 NOPE R w) : RET Try.prog 83 [s_1] w R :=
  ⟨by kernel_rfl, calls_by [] Try.func83 (by kernel_rfl) (by kernel_rfl) (by kernel_rfl) h⟩

def sh_meter_Meter_Dense_1 (e_1 v2 v3 v4 : Value) (E : List PanicEntry → World → Prop) (R : Value → World → Prop) (w : World) : Prop :=
 RUN Try.prog (Instr.box 142 e_1) w fun e_5 w =>
 PURE Try.prog (Instr.fieldAt 142 e_5 1) fun v6 =>
 RUN Try.prog (Instr.loadAt 5 v6) w fun v7 w =>
 PURE Try.prog (Instr.indexAt 31 v2 v7) fun v8 =>
 RUN Try.prog (Instr.loadAt 3 v8) w fun v9 w =>
 JOIN0 (fun J1 =>
 DRAWQ w fun S w =>
 PURE Try.prog (Instr.fieldAt 142 e_5 0) fun v10 =>
 READ Try.prog S (Instr.loadAt 3 v10) w fun v11 =>
 PURE Try.prog (BINS .lss 3 (.tmp 12) (.const (.int .i64 0)) v11 (.int .i64 0)) fun v12 =>
 COND v12 (
 PURE Try.prog (PICKS (.bool true) (.bool Bool.true) undef) fun v13 =>
 COND v13 (
 PURE Try.prog (PICKS (.bool true) (.bool Bool.true) undef) fun v14 =>
 COND v14 (
 PURE Try.prog (PICKS (.bool true) (.bool Bool.true) undef) fun v15 =>
 COND v15 (
 PURE Try.prog (PICKS (.bool true) (.bool Bool.true) undef) fun v16 =>
 COND v16 (
 R (.int .i64 (-1)) w) (
 J1 w)) (
 PURE Try.prog (Instr.fieldAt 142 e_5 0) fun v17 =>
 READ Try.prog S (Instr.loadAt 3 v17) w fun v18 =>
 READ Try.prog S (Instr.loadAt 72 v4) w fun v19 =>
 PURE Try.prog (Builtin.len_ #[72] 3 #[v19]) fun v20 =>
 PURE Try.prog (BINS .sub 3 (.tmp 33) (.const (.int .i64 1)) v20 (.int .i64 1)) fun v21 =>
 PURE Try.prog (BINS .sub 3 (.tmp 34) (.tmp 35) v21 v9) fun v22 =>
 READ Try.prog S (Instr.loadAt 3 v3) w fun v23 =>
 PURE Try.prog (BINS .quo 3 (.tmp 36) (.tmp 37) v22 v23) fun v24 =>
 PURE Try.prog (BINS .gtr 3 (.tmp 31) (.tmp 38) v18 v24) fun v25 =>
 PURE Try.prog (PICKS (.bool false) (.bool Bool.true) v25) fun v26 =>
 COND v26 (
 R (.int .i64 (-1)) w) (
 J1 w))) (
 READ Try.prog S (Instr.loadAt 72 v4) w fun v27 =>
 PURE Try.prog (Builtin.len_ #[72] 3 #[v27]) fun v28 =>
 PURE Try.prog (BINS .geq 3 (.tmp 24) (.tmp 26) v9 v28) fun v29 =>
 PURE Try.prog (PICKS (.bool false) (.bool Bool.true) v29) fun v30 =>
 COND v30 (
 PURE Try.prog (PICKS (.bool true) (.bool Bool.true) undef) fun v31 =>
 COND v31 (
 R (.int .i64 (-1)) w) (
 J1 w)) (
 PURE Try.prog (Instr.fieldAt 142 e_5 0) fun v32 =>
 READ Try.prog S (Instr.loadAt 3 v32) w fun v33 =>
 READ Try.prog S (Instr.loadAt 72 v4) w fun v34 =>
 PURE Try.prog (Builtin.len_ #[72] 3 #[v34]) fun v35 =>
 PURE Try.prog (BINS .sub 3 (.tmp 33) (.const (.int .i64 1)) v35 (.int .i64 1)) fun v36 =>
 PURE Try.prog (BINS .sub 3 (.tmp 34) (.tmp 35) v36 v9) fun v37 =>
 READ Try.prog S (Instr.loadAt 3 v3) w fun v38 =>
 PURE Try.prog (BINS .quo 3 (.tmp 36) (.tmp 37) v37 v38) fun v39 =>
 PURE Try.prog (BINS .gtr 3 (.tmp 31) (.tmp 38) v33 v39) fun v40 =>
 PURE Try.prog (PICKS (.bool false) (.bool Bool.true) v40) fun v41 =>
 COND v41 (
 R (.int .i64 (-1)) w) (
 J1 w)))) (
 READ Try.prog S (Instr.loadAt 3 v3) w fun v42 =>
 PURE Try.prog (BINS .geq 3 (.tmp 19) (.tmp 20) v9 v42) fun v43 =>
 PURE Try.prog (PICKS (.bool false) (.bool Bool.true) v43) fun v44 =>
 COND v44 (
 PURE Try.prog (PICKS (.bool true) (.bool Bool.true) undef) fun v45 =>
 COND v45 (
 PURE Try.prog (PICKS (.bool true) (.bool Bool.true) undef) fun v46 =>
 COND v46 (
 R (.int .i64 (-1)) w) (
 J1 w)) (
 PURE Try.prog (Instr.fieldAt 142 e_5 0) fun v47 =>
 READ Try.prog S (Instr.loadAt 3 v47) w fun v48 =>
 READ Try.prog S (Instr.loadAt 72 v4) w fun v49 =>
 PURE Try.prog (Builtin.len_ #[72] 3 #[v49]) fun v50 =>
 PURE Try.prog (BINS .sub 3 (.tmp 33) (.const (.int .i64 1)) v50 (.int .i64 1)) fun v51 =>
 PURE Try.prog (BINS .sub 3 (.tmp 34) (.tmp 35) v51 v9) fun v52 =>
 READ Try.prog S (Instr.loadAt 3 v3) w fun v53 =>
 PURE Try.prog (BINS .quo 3 (.tmp 36) (.tmp 37) v52 v53) fun v54 =>
 PURE Try.prog (BINS .gtr 3 (.tmp 31) (.tmp 38) v48 v54) fun v55 =>
 PURE Try.prog (PICKS (.bool false) (.bool Bool.true) v55) fun v56 =>
 COND v56 (
 R (.int .i64 (-1)) w) (
 J1 w))) (
 READ Try.prog S (Instr.loadAt 72 v4) w fun v57 =>
 PURE Try.prog (Builtin.len_ #[72] 3 #[v57]) fun v58 =>
 PURE Try.prog (BINS .geq 3 (.tmp 24) (.tmp 26) v9 v58) fun v59 =>
 PURE Try.prog (PICKS (.bool false) (.bool Bool.true) v59) fun v60 =>
 COND v60 (
 PURE Try.prog (PICKS (.bool true) (.bool Bool.true) undef) fun v61 =>
 COND v61 (
 R (.int .i64 (-1)) w) (
 J1 w)) (
 PURE Try.prog (Instr.fieldAt 142 e_5 0) fun v62 =>
 READ Try.prog S (Instr.loadAt 3 v62) w fun v63 =>
 READ Try.prog S (Instr.loadAt 72 v4) w fun v64 =>
 PURE Try.prog (Builtin.len_ #[72] 3 #[v64]) fun v65 =>
 PURE Try.prog (BINS .sub 3 (.tmp 33) (.const (.int .i64 1)) v65 (.int .i64 1)) fun v66 =>
 PURE Try.prog (BINS .sub 3 (.tmp 34) (.tmp 35) v66 v9) fun v67 =>
 READ Try.prog S (Instr.loadAt 3 v3) w fun v68 =>
 PURE Try.prog (BINS .quo 3 (.tmp 36) (.tmp 37) v67 v68) fun v69 =>
 PURE Try.prog (BINS .gtr 3 (.tmp 31) (.tmp 38) v63 v69) fun v70 =>
 PURE Try.prog (PICKS (.bool false) (.bool Bool.true) v70) fun v71 =>
 COND v71 (
 R (.int .i64 (-1)) w) (
 J1 w))))) (
 PURE Try.prog (BINS .lss 3 (.tmp 15) (.const (.int .i64 0)) v9 (.int .i64 0)) fun v72 =>
 PURE Try.prog (PICKS (.bool false) (.bool Bool.true) v72) fun v73 =>
 COND v73 (
 PURE Try.prog (PICKS (.bool true) (.bool Bool.true) undef) fun v74 =>
 COND v74 (
 PURE Try.prog (PICKS (.bool true) (.bool Bool.true) undef) fun v75 =>
 COND v75 (
 PURE Try.prog (PICKS (.bool true) (.bool Bool.true) undef) fun v76 =>
 COND v76 (
 R (.int .i64 (-1)) w) (
 J1 w)) (
 PURE Try.prog (Instr.fieldAt 142 e_5 0) fun v77 =>
 READ Try.prog S (Instr.loadAt 3 v77) w fun v78 =>
 READ Try.prog S (Instr.loadAt 72 v4) w fun v79 =>
 PURE Try.prog (Builtin.len_ #[72] 3 #[v79]) fun v80 =>
 PURE Try.prog (BINS .sub 3 (.tmp 33) (.const (.int .i64 1)) v80 (.int .i64 1)) fun v81 =>
 PURE Try.prog (BINS .sub 3 (.tmp 34) (.tmp 35) v81 v9) fun v82 =>
 READ Try.prog S (Instr.loadAt 3 v3) w fun v83 =>
 PURE Try.prog (BINS .quo 3 (.tmp 36) (.tmp 37) v82 v83) fun v84 =>
 PURE Try.prog (BINS .gtr 3 (.tmp 31) (.tmp 38) v78 v84) fun v85 =>
 PURE Try.prog (PICKS (.bool false) (.bool Bool.true) v85) fun v86 =>
 COND v86 (
 R (.int .i64 (-1)) w) (
 J1 w))) (
 READ Try.prog S (Instr.loadAt 72 v4) w fun v87 =>
 PURE Try.prog (Builtin.len_ #[72] 3 #[v87]) fun v88 =>
 PURE Try.prog (BINS .geq 3 (.tmp 24) (.tmp 26) v9 v88) fun v89 =>
 PURE Try.prog (PICKS (.bool false) (.bool Bool.true) v89) fun v90 =>
 COND v90 (
 PURE Try.prog (PICKS (.bool true) (.bool Bool.true) undef) fun v91 =>
 COND v91 (
 R (.int .i64 (-1)) w) (
 J1 w)) (
 PURE Try.prog (Instr.fieldAt 142 e_5 0) fun v92 =>
 READ Try.prog S (Instr.loadAt 3 v92) w fun v93 =>
 READ Try.prog S (Instr.loadAt 72 v4) w fun v94 =>
 PURE Try.prog (Builtin.len_ #[72] 3 #[v94]) fun v95 =>
 PURE Try.prog (BINS .sub 3 (.tmp 33) (.const (.int .i64 1)) v95 (.int .i64 1)) fun v96 =>
 PURE Try.prog (BINS .sub 3 (.tmp 34) (.tmp 35) v96 v9) fun v97 =>
 READ Try.prog S (Instr.loadAt 3 v3) w fun v98 =>
 PURE Try.prog (BINS .quo 3 (.tmp 36) (.tmp 37) v97 v98) fun v99 =>
 PURE Try.prog (BINS .gtr 3 (.tmp 31) (.tmp 38) v93 v99) fun v100 =>
 PURE Try.prog (PICKS (.bool false) (.bool Bool.true) v100) fun v101 =>
 COND v101 (
 R (.int .i64 (-1)) w) (
 J1 w)))) (
 READ Try.prog S (Instr.loadAt 3 v3) w fun v102 =>
 PURE Try.prog (BINS .geq 3 (.tmp 19) (.tmp 20) v9 v102) fun v103 =>
 PURE Try.prog (PICKS (.bool false) (.bool Bool.true) v103) fun v104 =>
 COND v104 (
 PURE Try.prog (PICKS (.bool true) (.bool Bool.true) undef) fun v105 =>
 COND v105 (
 PURE Try.prog (PICKS (.bool true) (.bool Bool.true) undef) fun v106 =>
 COND v106 (
 R (.int .i64 (-1)) w) (
 J1 w)) (
 PURE Try.prog (Instr.fieldAt 142 e_5 0) fun v107 =>
 READ Try.prog S (Instr.loadAt 3 v107) w fun v108 =>
 READ Try.prog S (Instr.loadAt 72 v4) w fun v109 =>
 PURE Try.prog (Builtin.len_ #[72] 3 #[v109]) fun v110 =>
 PURE Try.prog (BINS .sub 3 (.tmp 33) (.const (.int .i64 1)) v110 (.int .i64 1)) fun v111 =>
 PURE Try.prog (BINS .sub 3 (.tmp 34) (.tmp 35) v111 v9) fun v112 =>
 READ Try.prog S (Instr.loadAt 3 v3) w fun v113 =>
 PURE Try.prog (BINS .quo 3 (.tmp 36) (.tmp 37) v112 v113) fun v114 =>
 PURE Try.prog (BINS .gtr 3 (.tmp 31) (.tmp 38) v108 v114) fun v115 =>
 PURE Try.prog (PICKS (.bool false) (.bool Bool.true) v115) fun v116 =>
 COND v116 (
 R (.int .i64 (-1)) w) (
 J1 w))) (
 READ Try.prog S (Instr.loadAt 72 v4) w fun v117 =>
 PURE Try.prog (Builtin.len_ #[72] 3 #[v117]) fun v118 =>
 PURE Try.prog (BINS .geq 3 (.tmp 24) (.tmp 26) v9 v118) fun v119 =>
 PURE Try.prog (PICKS (.bool false) (.bool Bool.true) v119) fun v120 =>
 COND v120 (
 PURE Try.prog (PICKS (.bool true) (.bool Bool.true) undef) fun v121 =>
 COND v121 (
 R (.int .i64 (-1)) w) (
 J1 w)) (
 PURE Try.prog (Instr.fieldAt 142 e_5 0) fun v122 =>
 READ Try.prog S (Instr.loadAt 3 v122) w fun v123 =>
 READ Try.prog S (Instr.loadAt 72 v4) w fun v124 =>
 PURE Try.prog (Builtin.len_ #[72] 3 #[v124]) fun v125 =>
 PURE Try.prog (BINS .sub 3 (.tmp 33) (.const (.int .i64 1)) v125 (.int .i64 1)) fun v126 =>
 PURE Try.prog (BINS .sub 3 (.tmp 34) (.tmp 35) v126 v9) fun v127 =>
 READ Try.prog S (Instr.loadAt 3 v3) w fun v128 =>
 PURE Try.prog (BINS .quo 3 (.tmp 36) (.tmp 37) v127 v128) fun v129 =>
 PURE Try.prog (BINS .gtr 3 (.tmp 31) (.tmp 38) v123 v129) fun v130 =>
 PURE Try.prog (PICKS (.bool false) (.bool Bool.true) v130) fun v131 =>
 COND v131 (
 R (.int .i64 (-1)) w) (
 J1 w)))))) (fun w =>
 RUN Try.prog (Instr.loadAt 72 v4) w fun v132 w =>
 PURE Try.prog (Instr.fieldAt 142 e_5 0) fun v133 =>
 RUN Try.prog (Instr.loadAt 3 v133) w fun v134 w =>
 RUN Try.prog (Instr.loadAt 3 v3) w fun v135 w =>
 PURE Try.prog (BINS .mul 3 (.tmp 43) (.tmp 44) v134 v135) fun v136 =>
 PURE Try.prog (BINS .add 3 (.tmp 45) (.tmp 46) v136 v9) fun v137 =>
 PURE Try.prog (Instr.indexAt 72 v132 v137) fun v138 =>
 RUN Try.prog (Instr.loadAt 3 v138) w fun v139 w =>
 R v139 w)
theorem by_meter_Meter_Dense_1 {e_1 v2 v3 v4 : Value} {R : Value → World → Prop} {w : World} (h : sh_meter_Meter_Dense_1 e_1 v2 v3 v4 NOPE R w) : RET Try.prog 84 [e_1, v2, v3, v4] w R :=
  ⟨by kernel_rfl, calls_by [(12004, [])] Try.func84 (by kernel_rfl) (by kernel_rfl) (by kernel_rfl) h⟩

def sh_meter_Meter_count (m_1 : Value) (E : List PanicEntry → World → Prop) (R : Value → World → Prop) (w : World) : Prop :=
 PURE Try.prog (BINS .eql 47 (.tmp 3) (.const (.pointer Option.none)) m_1 (.pointer Option.none)) fun v2 =>
 COND v2 (
 PURE Try.prog (Instr.build 52 #[]) fun v3 =>
 RUN Try.prog (Instr.box 52 v3) w fun v4 w =>
 R v4 w) (
 PURE Try.prog (NILS m_1) fun v5 =>
 PURE Try.prog (Instr.fieldAt 93 v5 0) fun v6 =>
 R v6 w)
theorem by_meter_Meter_count {m_1 : Value} {R : Value → World → Prop} {w : World} (h : sh_meter_Meter_count m_1 NOPE R w) : RET Try.prog 85 [m_1] w R :=
  ⟨by kernel_rfl, calls_by [] Try.func85 (by kernel_rfl) (by kernel_rfl) (by kernel_rfl) h⟩

def sh_links_Links_is (l_1 n_2 : Value) (E : List PanicEntry → World → Prop) (R : Value → World → Prop) (w : World) : Prop :=
 PURE Try.prog (BINS .neq 70 (.tmp 5) (.const (.pointer Option.none)) l_1 (.pointer Option.none)) fun v3 =>
 COND v3 (
 PURE Try.prog (BINS .geq 3 (.tmp 8) (.const (.int .i64 0)) n_2 (.int .i64 0)) fun v4 =>
 PURE Try.prog (PICKS (.bool true) v4 (.bool Bool.false)) fun v5 =>
 COND v5 (
 PURE Try.prog (NILS l_1) fun v6 =>
 PURE Try.prog (Instr.fieldAt 127 v6 0) fun v7 =>
 RUN Try.prog (Instr.loadAt 72 v7) w fun v8 w =>
 PURE Try.prog (Builtin.len_ #[72] 3 #[v8]) fun v9 =>
 PURE Try.prog (BINS .lss 3 (.tmp 12) (.tmp 17) n_2 v9) fun v10 =>
 PURE Try.prog (PICKS (.bool true) v10 (.bool Bool.false)) fun v11 =>
 R v11 w) (
 PURE Try.prog (PICKS (.bool false) undef (.bool Bool.false)) fun v12 =>
 R v12 w)) (
 PURE Try.prog (PICKS (.bool false) undef (.bool Bool.false)) fun v13 =>
 COND v13 (
 PURE Try.prog (NILS l_1) fun v14 =>
 PURE Try.prog (Instr.fieldAt 127 v14 0) fun v15 =>
 RUN Try.prog (Instr.loadAt 72 v15) w fun v16 w =>
 PURE Try.prog (Builtin.len_ #[72] 3 #[v16]) fun v17 =>
 PURE Try.prog (BINS .lss 3 (.tmp 12) (.tmp 17) n_2 v17) fun v18 =>
 PURE Try.prog (PICKS (.bool true) v18 (.bool Bool.false)) fun v19 =>
 R v19 w) (
 PURE Try.prog (PICKS (.bool false) undef (.bool Bool.false)) fun v20 =>
 R v20 w))
theorem by_links_Links_is {l_1 n_2 : Value} {R : Value → World → Prop} {w : World} (h : sh_links_Links_is l_1 n_2 NOPE R w) : RET Try.prog 86 [l_1, n_2] w R :=
  ⟨by kernel_rfl, calls_by [] Try.func86 (by kernel_rfl) (by kernel_rfl) (by kernel_rfl) h⟩

def sh_slices_Clone_api_Pair_api_Pair (s_1 : Value) (E : List PanicEntry → World → Prop) (R : Value → World → Prop) (w : World) : Prop :=
 PURE Try.prog (BINS .eql 49 (.tmp 3) (.const (.slice Option.none 0 0)) s_1 (.slice Option.none 0 0)) fun v2 =>
 COND v2 (
 R (.slice Option.none 0 0) w) (
 RUN Try.prog (Instr.buildSlice 49 0 #[]) w fun v3 w =>
 RUN Try.prog (Builtin.append_ #[49, 49] 49 #[v3, s_1]) w fun v4 w =>
 R v4 w)
theorem by_slices_Clone_api_Pair_api_Pair {s_1 : Value} {R : Value → World → Prop} {w : World} (h : sh_slices_Clone_api_Pair_api_Pair s_1 NOPE R w) : RET Try.prog 87 [s_1] w R :=
  ⟨by kernel_rfl, calls_by [] Try.func87 (by kernel_rfl) (by kernel_rfl) (by kernel_rfl) h⟩

def sh_pairs_joined_api_Pair (a_1 b_2 less_3 : Value) (E : List PanicEntry → World → Prop) (R : Value → World → Prop) (w : World) : Prop :=
 LOOP3 (fun a_4 b_5 out_6 w next1 =>
 JOIN0 (fun J2 =>
 PURE Try.prog (Builtin.len_ #[49] 3 #[a_4]) fun v7 =>
 PURE Try.prog (BINS .gtr 3 (.tmp 10) (.const (.int .i64 0)) v7 (.int .i64 0)) fun v8 =>
 COND v8 (
 PURE Try.prog (PICKS (.bool true) (.bool Bool.true) undef) fun v9 =>
 COND v9 (
 J2 w) (
 R out_6 w)) (
 PURE Try.prog (Builtin.len_ #[49] 3 #[b_5]) fun v10 =>
 PURE Try.prog (BINS .gtr 3 (.tmp 14) (.const (.int .i64 0)) v10 (.int .i64 0)) fun v11 =>
 PURE Try.prog (PICKS (.bool false) (.bool Bool.true) v11) fun v12 =>
 COND v12 (
 J2 w) (
 R out_6 w))) (fun w =>
 RUN Try.prog (Instr.alloc 69 true (.tuple #[])) w fun x_13 w =>
 JOIN2 (fun J3 =>
 JOIN1 (fun J4 =>
 DRAWQ w fun S w =>
 PURE Try.prog (Builtin.len_ #[49] 3 #[b_5]) fun v14 =>
 PURE Try.prog (BINS .eql 3 (.tmp 18) (.const (.int .i64 0)) v14 (.int .i64 0)) fun v15 =>
 COND v15 (
 PURE Try.prog (PICKS (.bool true) (.bool Bool.true) undef) fun v16 =>
 J4 v16 w) (
 PURE Try.prog (Builtin.len_ #[49] 3 #[a_4]) fun v17 =>
 PURE Try.prog (BINS .gtr 3 (.tmp 22) (.const (.int .i64 0)) v17 (.int .i64 0)) fun v18 =>
 COND v18 (
 PURE Try.prog (Instr.indexAt 49 b_5 (.int .i64 0)) fun v19 =>
 READ Try.prog S (Instr.loadAt 69 v19) w fun v20 =>
 PURE Try.prog (Instr.indexAt 49 a_4 (.int .i64 0)) fun v21 =>
 READ Try.prog S (Instr.loadAt 69 v21) w fun v22 =>
 CALLV Try.prog less_3 [v20, v22] w E fun v23 w =>
 PURE Try.prog (Op.unary .not v23) fun v24 =>
 PURE Try.prog (PICKS (.bool true) v24 (.bool Bool.false)) fun v25 =>
 PURE Try.prog (PICKS (.bool false) (.bool Bool.true) v25) fun v26 =>
 J4 v26 w) (
 PURE Try.prog (PICKS (.bool false) undef (.bool Bool.false)) fun v27 =>
 PURE Try.prog (PICKS (.bool false) (.bool Bool.true) v27) fun v28 =>
 J4 v28 w))) (fun v29 w =>
 COND v29 (
 DRAWQ w fun S w =>
 PURE Try.prog (Instr.indexAt 49 a_4 (.int .i64 0)) fun v30 =>
 READ Try.prog S (Instr.loadAt 69 v30) w fun v31 =>
 PURE Try.prog (Instr.sliceAt 49 a_4 (some (.int .i64 1)) none none) fun v32 =>
 RUNU Try.prog (Instr.storeAt 69 x_13 v31) w fun w =>
 J3 v32 b_5 w) (
 DRAWQ w fun S w =>
 PURE Try.prog (Instr.indexAt 49 b_5 (.int .i64 0)) fun v33 =>
 READ Try.prog S (Instr.loadAt 69 v33) w fun v34 =>
 PURE Try.prog (Instr.sliceAt 49 b_5 (some (.int .i64 1)) none none) fun v35 =>
 RUNU Try.prog (Instr.storeAt 69 x_13 v34) w fun w =>
 J3 a_4 v35 w))) (fun a_36 b_37 w =>
 DRAWQ w fun S w =>
 PURE Try.prog (Builtin.len_ #[49] 3 #[out_6]) fun v38 =>
 PURE Try.prog (BINS .eql 3 (.tmp 47) (.const (.int .i64 0)) v38 (.int .i64 0)) fun v39 =>
 COND v39 (
 PURE Try.prog (PICKS (.bool true) (.bool Bool.true) undef) fun v40 =>
 COND v40 (
 RUN Try.prog (Instr.loadAt 69 x_13) w fun v41 w =>
 RUN Try.prog (Instr.buildSlice 49 1 #[(0, v41)]) w fun v42 w =>
 RUN Try.prog (Builtin.append_ #[49, 49] 49 #[out_6, v42]) w fun v43 w =>
 next1 a_36 b_37 v43 w) (
 next1 a_36 b_37 out_6 w)) (
 PURE Try.prog (Builtin.len_ #[49] 3 #[out_6]) fun v44 =>
 PURE Try.prog (BINS .sub 3 (.tmp 52) (.const (.int .i64 1)) v44 (.int .i64 1)) fun v45 =>
 PURE Try.prog (Instr.indexAt 49 out_6 v45) fun v46 =>
 READ Try.prog S (Instr.loadAt 69 v46) w fun v47 =>
 READ Try.prog S (Instr.loadAt 69 x_13) w fun v48 =>
 PURE Try.prog (BINS .neq 69 (.tmp 55) (.tmp 56) v47 v48) fun v49 =>
 PURE Try.prog (PICKS (.bool false) (.bool Bool.true) v49) fun v50 =>
 COND v50 (
 RUN Try.prog (Instr.loadAt 69 x_13) w fun v51 w =>
 RUN Try.prog (Instr.buildSlice 49 1 #[(0, v51)]) w fun v52 w =>
 RUN Try.prog (Builtin.append_ #[49, 49] 49 #[out_6, v52]) w fun v53 w =>
 next1 a_36 b_37 v53 w) (
 next1 a_36 b_37 out_6 w))))) a_1 b_2 (.slice Option.none 0 0) w
theorem by_pairs_joined_api_Pair {a_1 b_2 less_3 : Value} {R : Value → World → Prop} {w : World} (h : sh_pairs_joined_api_Pair a_1 b_2 less_3 NOPE R w) : RET Try.prog 88 [a_1, b_2, less_3] w R :=
  ⟨by kernel_rfl, calls_by [(2, [0, 1, 7]), (12003, []), (14005, [35]), (14007, [0, 1])] Try.func88 (by kernel_rfl) (by kernel_rfl) (by kernel_rfl) h⟩

def sh_pairs_Less (a_1 b_2 : Value) (E : List PanicEntry → World → Prop) (R : Value → World → Prop) (w : World) : Prop :=
 RUN Try.prog (Instr.box 69 a_1) w fun a_3 w =>
 RUN Try.prog (Instr.box 69 b_2) w fun b_4 w =>
 PURE Try.prog (Instr.fieldAt 69 a_3 0) fun v5 =>
 RUN Try.prog (Instr.loadAt 3 v5) w fun v6 w =>
 PURE Try.prog (Instr.fieldAt 69 b_4 0) fun v7 =>
 RUN Try.prog (Instr.loadAt 3 v7) w fun v8 w =>
 PURE Try.prog (BINS .neq 3 (.tmp 6) (.tmp 8) v6 v8) fun v9 =>
 COND v9 (
 PURE Try.prog (Instr.fieldAt 69 a_3 0) fun v10 =>
 RUN Try.prog (Instr.loadAt 3 v10) w fun v11 w =>
 PURE Try.prog (Instr.fieldAt 69 b_4 0) fun v12 =>
 RUN Try.prog (Instr.loadAt 3 v12) w fun v13 w =>
 PURE Try.prog (BINS .lss 3 (.tmp 11) (.tmp 13) v11 v13) fun v14 =>
 R v14 w) (
 PURE Try.prog (Instr.fieldAt 69 a_3 1) fun v15 =>
 RUN Try.prog (Instr.loadAt 3 v15) w fun v16 w =>
 PURE Try.prog (Instr.fieldAt 69 b_4 1) fun v17 =>
 RUN Try.prog (Instr.loadAt 3 v17) w fun v18 w =>
 PURE Try.prog (BINS .lss 3 (.tmp 16) (.tmp 18) v16 v18) fun v19 =>
 R v19 w)
theorem by_pairs_Less {a_1 b_2 : Value} {R : Value → World → Prop} {w : World} (h : sh_pairs_Less a_1 b_2 NOPE R w) : RET Try.prog 89 [a_1, b_2] w R :=
  ⟨by kernel_rfl, calls_by [] Try.func89 (by kernel_rfl) (by kernel_rfl) (by kernel_rfl) h⟩

def sh_critical_cut (b_1 : Value) (E : List PanicEntry → World → Prop) (R : Value → World → Prop) (w : World) : Prop :=
 RUN Try.prog (Instr.alloc 104 true (.tuple #[])) w fun v2 w =>
 CALL Try.prog 103 [b_1, (.bool Bool.false)] w E fun v3 w =>
 PURE Try.prog (Instr.extract v3 0) fun v4 =>
 PURE Try.prog (Instr.extract v3 1) fun v5 =>
 CALL Try.prog 103 [b_1, (.bool Bool.true)] w E fun v6 w =>
 PURE Try.prog (Instr.extract v6 0) fun v7 =>
 PURE Try.prog (Instr.extract v6 1) fun v8 =>
 PURE Try.prog (BINS .gtr 3 (.tmp 17) (.tmp 18) v7 v4) fun v9 =>
 COND v9 (
 PURE Try.prog (Instr.build 104 #[(0, v7), (1, v8)]) fun v10 =>
 RUNU Try.prog (Instr.storeAt 104 v2 v10) w fun w =>
 LOADRES Try.prog 104 v2 w fun r => R r w) (
 PURE Try.prog (Instr.build 104 #[(0, v4), (1, v5)]) fun v11 =>
 RUNU Try.prog (Instr.storeAt 104 v2 v11) w fun w =>
 LOADRES Try.prog 104 v2 w fun r => R r w)
theorem by_critical_cut {b_1 : Value} {R : Value → World → Prop} {w : World} (h : sh_critical_cut b_1 NOPE R w) : RET Try.prog 90 [b_1] w R :=
  ⟨by kernel_rfl, calls_by [] Try.func90 (by kernel_rfl) (by kernel_rfl) (by kernel_rfl) h⟩

def sh_critical_text_alike (t_1 a_2 b_3 n_4 : Value) (E : List PanicEntry → World → Prop) (R : Value → World → Prop) (w : World) : Prop :=
 DRAWQ w fun S w =>
 PURE Try.prog (BINS .add 3 (.tmp 11) (.tmp 12) a_2 n_4) fun v5 =>
 PURE Try.prog (Instr.sliceAt 151 t_1 (some a_2) (some v5) none) fun v6 =>
 READ Try.prog S (convert 151 9 v6) w fun v7 =>
 PURE Try.prog (BINS .add 3 (.tmp 18) (.tmp 19) b_3 n_4) fun v8 =>
 PURE Try.prog (Instr.sliceAt 151 t_1 (some b_3) (some v8) none) fun v9 =>
 READ Try.prog S (convert 151 9 v9) w fun v10 =>
 PURE Try.prog (BINS .eql 9 (.tmp 15) (.tmp 22) v7 v10) fun v11 =>
 R v11 w
theorem by_critical_text_alike {t_1 a_2 b_3 n_4 : Value} {R : Value → World → Prop} {w : World} (h : sh_critical_text_alike t_1 a_2 b_3 n_4 NOPE R w) : RET Try.prog 91 [t_1, a_2, b_3, n_4] w R :=
  ⟨by kernel_rfl, calls_by [] Try.func91 (by kernel_rfl) (by kernel_rfl) (by kernel_rfl) h⟩

def sh_twoway_Two_right (t_1 line_2 at_3 from_4 : Value) (E : List PanicEntry → World → Prop) (R : Value → World → Prop) (w : World) : Prop :=
 LOOP1 (fun i_5 w next1 =>
 DRAWQ w fun S w =>
 PURE Try.prog (NILS t_1) fun v6 =>
 PURE Try.prog (Instr.fieldAt 108 v6 0) fun v7 =>
 READ Try.prog S (Instr.loadAt 42 v7) w fun v8 =>
 PURE Try.prog (Builtin.len_ #[42] 3 #[v8]) fun v9 =>
 PURE Try.prog (BINS .lss 3 (.tmp 11) (.tmp 16) i_5 v9) fun v10 =>
 COND v10 (
 PURE Try.prog (NILS t_1) fun v11 =>
 PURE Try.prog (Instr.fieldAt 108 v11 0) fun v12 =>
 READ Try.prog S (Instr.loadAt 42 v12) w fun v13 =>
 PURE Try.prog (Instr.indexAt 42 v13 i_5) fun v14 =>
 READ Try.prog S (Instr.loadAt 5 v14) w fun v15 =>
 PURE Try.prog (BINS .add 3 (.tmp 27) (.tmp 28) at_3 i_5) fun v16 =>
 PURE Try.prog (Instr.indexAt 42 line_2 v16) fun v17 =>
 READ Try.prog S (Instr.loadAt 5 v17) w fun v18 =>
 PURE Try.prog (BINS .eql 5 (.tmp 25) (.tmp 31) v15 v18) fun v19 =>
 PURE Try.prog (PICKS (.bool true) v19 (.bool Bool.false)) fun v20 =>
 COND v20 (
 PURE Try.prog (BINS .add 3 (.tmp 34) (.const (.int .i64 1)) i_5 (.int .i64 1)) fun v21 =>
 next1 v21 w) (
 R i_5 w)) (
 PURE Try.prog (PICKS (.bool false) undef (.bool Bool.false)) fun v22 =>
 COND v22 (
 PURE Try.prog (BINS .add 3 (.tmp 34) (.const (.int .i64 1)) i_5 (.int .i64 1)) fun v23 =>
 next1 v23 w) (
 R i_5 w))) from_4 w
theorem by_twoway_Two_right {t_1 line_2 at_3 from_4 : Value} {R : Value → World → Prop} {w : World} (h : sh_twoway_Two_right t_1 line_2 at_3 from_4 NOPE R w) : RET Try.prog 92 [t_1, line_2, at_3, from_4] w R :=
  ⟨by kernel_rfl, calls_by [(2, [9])] Try.func92 (by kernel_rfl) (by kernel_rfl) (by kernel_rfl) h⟩

def sh_twoway_Two_left (t_1 line_2 at_3 down_4 : Value) (E : List PanicEntry → World → Prop) (R : Value → World → Prop) (w : World) : Prop :=
 PURE Try.prog (NILS t_1) fun v5 =>
 PURE Try.prog (Instr.fieldAt 108 v5 1) fun v6 =>
 PURE Try.prog (Instr.fieldAt 104 v6 0) fun v7 =>
 RUN Try.prog (Instr.loadAt 3 v7) w fun v8 w =>
 PURE Try.prog (BINS .sub 3 (.tmp 14) (.const (.int .i64 1)) v8 (.int .i64 1)) fun v9 =>
 LOOP1 (fun i_10 w next1 =>
 PURE Try.prog (BINS .geq 3 (.tmp 16) (.tmp 17) i_10 down_4) fun v11 =>
 COND v11 (
 DRAWQ w fun S w =>
 PURE Try.prog (NILS t_1) fun v12 =>
 PURE Try.prog (Instr.fieldAt 108 v12 0) fun v13 =>
 READ Try.prog S (Instr.loadAt 42 v13) w fun v14 =>
 PURE Try.prog (Instr.indexAt 42 v14 i_10) fun v15 =>
 READ Try.prog S (Instr.loadAt 5 v15) w fun v16 =>
 PURE Try.prog (BINS .add 3 (.tmp 29) (.tmp 30) at_3 i_10) fun v17 =>
 PURE Try.prog (Instr.indexAt 42 line_2 v17) fun v18 =>
 READ Try.prog S (Instr.loadAt 5 v18) w fun v19 =>
 PURE Try.prog (BINS .neq 5 (.tmp 27) (.tmp 33) v16 v19) fun v20 =>
 COND v20 (
 R (.bool Bool.false) w) (
 PURE Try.prog (BINS .sub 3 (.tmp 19) (.const (.int .i64 1)) i_10 (.int .i64 1)) fun v21 =>
 next1 v21 w)) (
 R (.bool Bool.true) w)) v9 w
theorem by_twoway_Two_left {t_1 line_2 at_3 down_4 : Value} {R : Value → World → Prop} {w : World} (h : sh_twoway_Two_left t_1 line_2 at_3 down_4 NOPE R w) : RET Try.prog 93 [t_1, line_2, at_3, down_4] w R :=
  ⟨by kernel_rfl, calls_by [(2, [9])] Try.func93 (by kernel_rfl) (by kernel_rfl) (by kernel_rfl) h⟩

def sh_meter_Meter_Sparse_1 (e_1 v2 : Value) (E : List PanicEntry → World → Prop) (R : Value → World → Prop) (w : World) : Prop :=
 RUN Try.prog (Instr.box 142 e_1) w fun e_3 w =>
 RUN Try.prog (Instr.loadAt 154 v2) w fun v4 w =>
 RUN Try.prog (Instr.loadAt 142 e_3) w fun v5 w =>
 RUN Try.prog (Instr.lookup 154 v4 v5 Bool.true) w fun v6 w =>
 PURE Try.prog (Instr.extract v6 0) fun v7 =>
 PURE Try.prog (Instr.extract v6 1) fun v8 =>
 COND v8 (
 R v7 w) (
 R (.int .i64 (-1)) w)
theorem by_meter_Meter_Sparse_1 {e_1 v2 : Value} {R : Value → World → Prop} {w : World} (h : sh_meter_Meter_Sparse_1 e_1 v2 NOPE R w) : RET Try.prog 94 [e_1, v2] w R :=
  ⟨by kernel_rfl, calls_by [] Try.func94 (by kernel_rfl) (by kernel_rfl) (by kernel_rfl) h⟩

def sh_back_Build_1 (old_1 n_2 : Value) (E : List PanicEntry → World → Prop) (R : Value → World → Prop) (w : World) : Prop :=
 PURE Try.prog (BINS .eql 3 (.tmp 5) (.const (.int .i64 0)) old_1 (.int .i64 0)) fun v3 =>
 COND v3 (
 R n_2 w) (
 PURE Try.prog (Builtin.min_ #[3, 3] 3 #[old_1, n_2]) fun v4 =>
 R v4 w)
theorem by_back_Build_1 {old_1 n_2 : Value} {R : Value → World → Prop} {w : World} (h : sh_back_Build_1 old_1 n_2 NOPE R w) : RET Try.prog 95 [old_1, n_2] w R :=
  ⟨by kernel_rfl, calls_by [] Try.func95 (by kernel_rfl) (by kernel_rfl) (by kernel_rfl) h⟩

def sh_back_Turn (b_1 : Value) (E : List PanicEntry → World → Prop) (R : Value → World → Prop) (w : World) : Prop :=
 CALL Try.prog 61 [b_1] w E fun v2 w =>
 CALL Try.prog 82 [v2] w E fun v3 w =>
 R v2 w
theorem by_back_Turn {b_1 : Value} {R : Value → World → Prop} {w : World} (h : sh_back_Turn b_1 NOPE R w) : RET Try.prog 96 [b_1] w R :=
  ⟨by kernel_rfl, calls_by [] Try.func96 (by kernel_rfl) (by kernel_rfl) (by kernel_rfl) h⟩

def sh_back_Back_Least (b_1 : Value) (E : List PanicEntry → World → Prop) (R : Value → World → Prop) (w : World) : Prop :=
 PURE Try.prog (BINS .eql 117 (.tmp 3) (.const (.pointer Option.none)) b_1 (.pointer Option.none)) fun v2 =>
 COND v2 (
 R (.int .i64 0) w) (
 PURE Try.prog (NILS b_1) fun v3 =>
 PURE Try.prog (Instr.fieldAt 156 v3 1) fun v4 =>
 RUN Try.prog (Instr.loadAt 3 v4) w fun v5 w =>
 R v5 w)
theorem by_back_Back_Least {b_1 : Value} {R : Value → World → Prop} {w : World} (h : sh_back_Back_Least b_1 NOPE R w) : RET Try.prog 97 [b_1] w R :=
  ⟨by kernel_rfl, calls_by [] Try.func97 (by kernel_rfl) (by kernel_rfl) (by kernel_rfl) h⟩

def sh_shifts_Shifts_goes (s_1 w_2 : Value) (E : List PanicEntry → World → Prop) (R : Value → World → Prop) (w : World) : Prop :=
 PURE Try.prog (NILS s_1) fun v3 =>
 PURE Try.prog (Instr.fieldAt 160 v3 0) fun v4 =>
 RUN Try.prog (Instr.loadAt 117 v4) w fun v5 w =>
 PURE Try.prog (NILS v5) fun v6 =>
 PURE Try.prog (Instr.fieldAt 156 v6 0) fun v7 =>
 RUN Try.prog (Instr.loadAt 45 v7) w fun v8 w =>
 CALL Try.prog 50 [v8, w_2] w E fun v9 w =>
 LOOP1 (fun n_10 w next1 =>
 PURE Try.prog (Builtin.len_ #[42] 3 #[v9]) fun v11 =>
 PURE Try.prog (BINS .leq 3 (.tmp 17) (.tmp 19) n_10 v11) fun v12 =>
 COND v12 (
 DRAWQ w fun S w =>
 PURE Try.prog (NILS s_1) fun v13 =>
 PURE Try.prog (Instr.fieldAt 160 v13 0) fun v14 =>
 READ Try.prog S (Instr.loadAt 117 v14) w fun v15 =>
 PURE Try.prog (NILS v15) fun v16 =>
 PURE Try.prog (Instr.fieldAt 156 v16 0) fun v17 =>
 READ Try.prog S (Instr.loadAt 45 v17) w fun v18 =>
 PURE Try.prog (Instr.sliceAt 42 v9 (some n_10) none none) fun v19 =>
 CALL Try.prog 105 [v18, v19] w E fun v20 w =>
 PURE Try.prog (BINS .lss 3 (.tmp 34) (.const (.int .i64 0)) v20 (.int .i64 0)) fun v21 =>
 COND v21 (
 PURE Try.prog (BINS .add 3 (.tmp 21) (.const (.int .i64 1)) n_10 (.int .i64 1)) fun v22 =>
 next1 v22 w) (
 PURE Try.prog (NILS s_1) fun v23 =>
 PURE Try.prog (Instr.fieldAt 160 v23 1) fun v24 =>
 RUN Try.prog (Instr.loadAt 158 v24) w fun v25 w =>
 PURE Try.prog (Instr.indexAt 158 v25 v20) fun v26 =>
 PURE Try.prog (Instr.indexAt 161 v26 (.int .i64 0)) fun v27 =>
 CALLV Try.prog (.func (.func 104) #[] #[]) [v27, n_10] w E fun v28 w =>
 PURE Try.prog (NILS s_1) fun v29 =>
 PURE Try.prog (Instr.fieldAt 160 v29 0) fun v30 =>
 RUN Try.prog (Instr.loadAt 117 v30) w fun v31 w =>
 CALL Try.prog 106 [v31, w_2] w E fun v32 w =>
 COND v32 (
 PURE Try.prog (NILS s_1) fun v33 =>
 PURE Try.prog (Instr.fieldAt 160 v33 1) fun v34 =>
 RUN Try.prog (Instr.loadAt 158 v34) w fun v35 w =>
 PURE Try.prog (Instr.indexAt 158 v35 v20) fun v36 =>
 PURE Try.prog (Instr.indexAt 161 v36 (.int .i64 1)) fun v37 =>
 CALLV Try.prog (.func (.func 104) #[] #[]) [v37, n_10] w E fun v38 w =>
 PURE Try.prog (BINS .add 3 (.tmp 21) (.const (.int .i64 1)) n_10 (.int .i64 1)) fun v39 =>
 next1 v39 w) (
 PURE Try.prog (BINS .add 3 (.tmp 21) (.const (.int .i64 1)) n_10 (.int .i64 1)) fun v40 =>
 next1 v40 w))) (
 R (.tuple #[]) w)) (.int .i64 1) w
theorem by_shifts_Shifts_goes {s_1 w_2 : Value} {R : Value → World → Prop} {w : World} (h : sh_shifts_Shifts_goes s_1 w_2 NOPE R w) : RET Try.prog 98 [s_1, w_2] w R :=
  ⟨by kernel_rfl, calls_by [(3, [6])] Try.func98 (by kernel_rfl) (by kernel_rfl) (by kernel_rfl) h⟩

def sh_cwalter_Walter_window (w_1 line_2 end_3 : Value) (E : List PanicEntry → World → Prop) (R : Value → World → Prop) (w : World) : Prop :=
 JOIN2 (fun J1 =>
 PURE Try.prog (BINS .sub 3 (.tmp 13) (.const (.int .i64 1)) end_3 (.int .i64 1)) fun v4 =>
 LOOP3 (fun out_5 at_6 i_7 w next2 =>
 PURE Try.prog (BINS .geq 3 (.tmp 15) (.const (.int .i64 0)) i_7 (.int .i64 0)) fun v8 =>
 COND v8 (
 DRAWQ w fun S w =>
 PURE Try.prog (NILS w_1) fun v9 =>
 PURE Try.prog (Instr.fieldAt 122 v9 0) fun v10 =>
 READ Try.prog S (Instr.loadAt 117 v10) w fun v11 =>
 PURE Try.prog (NILS v11) fun v12 =>
 PURE Try.prog (Instr.fieldAt 156 v12 0) fun v13 =>
 READ Try.prog S (Instr.loadAt 45 v13) w fun v14 =>
 PURE Try.prog (Instr.indexAt 42 line_2 i_7) fun v15 =>
 READ Try.prog S (Instr.loadAt 5 v15) w fun v16 =>
 CALL Try.prog 74 [v14, at_6, v16] w E fun v17 w =>
 PURE Try.prog (BINS .lss 3 (.tmp 32) (.const (.int .i64 0)) v17 (.int .i64 0)) fun v18 =>
 COND v18 (
 J1 out_5 at_6 w) (
 PURE Try.prog (NILS w_1) fun v19 =>
 PURE Try.prog (Instr.fieldAt 122 v19 0) fun v20 =>
 RUN Try.prog (Instr.loadAt 117 v20) w fun v21 w =>
 CALL Try.prog 106 [v21, v17] w E fun v22 w =>
 COND v22 (
 PURE Try.prog (Instr.build 69 #[(0, i_7), (1, end_3)]) fun v23 =>
 RUN Try.prog (Instr.buildSlice 49 1 #[(0, v23)]) w fun v24 w =>
 RUN Try.prog (Builtin.append_ #[49, 49] 49 #[out_5, v24]) w fun v25 w =>
 PURE Try.prog (BINS .sub 3 (.tmp 17) (.const (.int .i64 1)) i_7 (.int .i64 1)) fun v26 =>
 next2 v25 v17 v26 w) (
 PURE Try.prog (BINS .sub 3 (.tmp 17) (.const (.int .i64 1)) i_7 (.int .i64 1)) fun v27 =>
 next2 out_5 v17 v27 w))) (
 J1 out_5 at_6 w)) (.slice Option.none 0 0) (.int .i64 0) v4 w) (fun out_28 at_29 w =>
 PURE Try.prog (NILS w_1) fun v30 =>
 PURE Try.prog (Instr.fieldAt 122 v30 0) fun v31 =>
 RUN Try.prog (Instr.loadAt 117 v31) w fun v32 w =>
 PURE Try.prog (NILS v32) fun v33 =>
 PURE Try.prog (Instr.fieldAt 156 v33 0) fun v34 =>
 RUN Try.prog (Instr.loadAt 45 v34) w fun v35 w =>
 CALL Try.prog 107 [v35, at_29] w E fun v36 w =>
 PURE Try.prog (BINS .sub 3 (.tmp 47) (.tmp 56) end_3 v36) fun v37 =>
 PURE Try.prog (BINS .eql 3 (.tmp 58) (.const (.int .i64 0)) v37 (.int .i64 0)) fun v38 =>
 COND v38 (
 PURE Try.prog (NILS w_1) fun v39 =>
 PURE Try.prog (Instr.fieldAt 122 v39 1) fun v40 =>
 RUN Try.prog (Instr.loadAt 119 v40) w fun v41 w =>
 CALL Try.prog 108 [v41, at_29] w E fun v42 w =>
 R (.tuple #[out_28, v42]) w) (
 DRAWQ w fun S w =>
 PURE Try.prog (NILS w_1) fun v43 =>
 PURE Try.prog (Instr.fieldAt 122 v43 1) fun v44 =>
 READ Try.prog S (Instr.loadAt 119 v44) w fun v45 =>
 PURE Try.prog (BINS .sub 3 (.tmp 74) (.const (.int .i64 1)) v37 (.int .i64 1)) fun v46 =>
 PURE Try.prog (Instr.indexAt 42 line_2 v46) fun v47 =>
 READ Try.prog S (Instr.loadAt 5 v47) w fun v48 =>
 CALL Try.prog 109 [v45, at_29, v48] w E fun v49 w =>
 R (.tuple #[out_28, v49]) w))
theorem by_cwalter_Walter_window {w_1 line_2 end_3 : Value} {R : Value → World → Prop} {w : World} (h : sh_cwalter_Walter_window w_1 line_2 end_3 NOPE R w) : RET Try.prog 99 [w_1, line_2, end_3] w R :=
  ⟨by kernel_rfl, calls_by [(4, [8, 9, 10]), (13011, [8, 9])] Try.func99 (by kernel_rfl) (by kernel_rfl) (by kernel_rfl) h⟩

def sh_math_bits_Mul (x_1 y_2 : Value) (E : List PanicEntry → World → Prop) (R : Value → World → Prop) (w : World) : Prop :=
 COND (.bool Bool.false) (
 PURE Try.prog (convert 165 173 x_1) fun v3 =>
 PURE Try.prog (convert 165 173 y_2) fun v4 =>
 CALL Try.prog 110 [v3, v4] w E fun v5 w =>
 PURE Try.prog (Instr.extract v5 0) fun v6 =>
 PURE Try.prog (Instr.extract v5 1) fun v7 =>
 PURE Try.prog (convert 173 165 v6) fun v8 =>
 PURE Try.prog (convert 173 165 v7) fun v9 =>
 R (.tuple #[v8, v9]) w) (
 CALL Try.prog 111 [x_1, y_2] w E fun v10 w =>
 PURE Try.prog (Instr.extract v10 0) fun v11 =>
 PURE Try.prog (Instr.extract v10 1) fun v12 =>
 R (.tuple #[v11, v12]) w)
theorem by_math_bits_Mul {x_1 y_2 : Value} {R : Value → World → Prop} {w : World} (h : sh_math_bits_Mul x_1 y_2 NOPE R w) : RET Try.prog 100 [x_1, y_2] w R :=
  ⟨by kernel_rfl, calls_by [] Try.func100 (by kernel_rfl) (by kernel_rfl) (by kernel_rfl) h⟩

def sh_links_Links_link_1 (n_1 v2 v3 v4 : Value) (E : List PanicEntry → World → Prop) (R : Value → World → Prop) (w : World) : Prop :=
 RUN Try.prog (Instr.loadAt 70 v2) w fun v5 w =>
 PURE Try.prog (NILS v5) fun v6 =>
 PURE Try.prog (Instr.fieldAt 127 v6 0) fun v7 =>
 RUN Try.prog (Instr.loadAt 72 v7) w fun v8 w =>
 PURE Try.prog (Instr.indexAt 72 v8 n_1) fun v9 =>
 RUN Try.prog (Instr.loadAt 3 v9) w fun v10 w =>
 LOOP1 (fun n_11 w next1 =>
 PURE Try.prog (BINS .geq 3 (.tmp 14) (.const (.int .i64 0)) n_11 (.int .i64 0)) fun v12 =>
 COND v12 (
 RUN Try.prog (Instr.loadAt 45 v3) w fun v13 w =>
 RUN Try.prog (Instr.loadAt 5 v4) w fun v14 w =>
 CALL Try.prog 74 [v13, n_11, v14] w E fun v15 w =>
 PURE Try.prog (BINS .geq 3 (.tmp 27) (.const (.int .i64 0)) v15 (.int .i64 0)) fun v16 =>
 COND v16 (
 R v15 w) (
 RUN Try.prog (Instr.loadAt 70 v2) w fun v17 w =>
 PURE Try.prog (NILS v17) fun v18 =>
 PURE Try.prog (Instr.fieldAt 127 v18 0) fun v19 =>
 RUN Try.prog (Instr.loadAt 72 v19) w fun v20 w =>
 PURE Try.prog (Instr.indexAt 72 v20 n_11) fun v21 =>
 RUN Try.prog (Instr.loadAt 3 v21) w fun v22 w =>
 next1 v22 w)) (
 R (.int .i64 0) w)) v10 w
theorem by_links_Links_link_1 {n_1 v2 v3 v4 : Value} {R : Value → World → Prop} {w : World} (h : sh_links_Links_link_1 n_1 v2 v3 v4 NOPE R w) : RET Try.prog 101 [n_1, v2, v3, v4] w R :=
  ⟨by kernel_rfl, calls_by [(2, [0])] Try.func101 (by kernel_rfl) (by kernel_rfl) (by kernel_rfl) h⟩

def sh_trie_Trie_Word (t_1 node_2 : Value) (E : List PanicEntry → World → Prop) (R : Value → World → Prop) (w : World) : Prop :=
 CALL Try.prog 81 [t_1, node_2] w E fun v3 w =>
 PURE Try.prog (Op.unary .not v3) fun v4 =>
 COND v4 (
 R (.int .i64 (-1)) w) (
 PURE Try.prog (NILS t_1) fun v5 =>
 PURE Try.prog (Instr.fieldAt 91 v5 0) fun v6 =>
 RUN Try.prog (Instr.loadAt 88 v6) w fun v7 w =>
 PURE Try.prog (Instr.indexAt 88 v7 node_2) fun v8 =>
 PURE Try.prog (Instr.fieldAt 87 v8 2) fun v9 =>
 RUN Try.prog (Instr.loadAt 3 v9) w fun v10 w =>
 R v10 w)
theorem by_trie_Trie_Word {t_1 node_2 : Value} {R : Value → World → Prop} {w : World} (h : sh_trie_Trie_Word t_1 node_2 NOPE R w) : RET Try.prog 102 [t_1, node_2] w R :=
  ⟨by kernel_rfl, calls_by [] Try.func102 (by kernel_rfl) (by kernel_rfl) (by kernel_rfl) h⟩

def sh_suffix_Max (b_1 turned_2 : Value) (E : List PanicEntry → World → Prop) (R : Value → World → Prop) (w : World) : Prop :=
 PURE Try.prog (Builtin.len_ #[42] 3 #[b_1]) fun v3 =>
 PURE Try.prog (BINS .eql 3 (.tmp 14) (.const (.int .i64 0)) v3 (.int .i64 0)) fun v4 =>
 COND v4 (
 R (.tuple #[(.int .i64 0), (.int .i64 0)]) w) (
 CALL Try.prog 112 [turned_2] w E fun v5 w =>
 RUN Try.prog (Instr.alloc 180 true (.tuple #[])) w fun o_6 w =>
 RUNU Try.prog (Instr.storeAt 180 o_6 v5) w fun w =>
 LOOP4 (fun at_7 next_8 k_9 per_10 w next1 =>
 PURE Try.prog (BINS .add 3 (.tmp 18) (.tmp 19) next_8 k_9) fun v11 =>
 PURE Try.prog (Builtin.len_ #[42] 3 #[b_1]) fun v12 =>
 PURE Try.prog (BINS .lss 3 (.tmp 20) (.tmp 22) v11 v12) fun v13 =>
 COND v13 (
 DRAWQ w fun S w =>
 PURE Try.prog (BINS .add 3 (.tmp 25) (.tmp 26) at_7 k_9) fun v14 =>
 PURE Try.prog (Instr.indexAt 42 b_1 v14) fun v15 =>
 READ Try.prog S (Instr.loadAt 5 v15) w fun v16 =>
 PURE Try.prog (BINS .add 3 (.tmp 31) (.tmp 32) next_8 k_9) fun v17 =>
 PURE Try.prog (Instr.indexAt 42 b_1 v17) fun v18 =>
 READ Try.prog S (Instr.loadAt 5 v18) w fun v19 =>
 PURE Try.prog (Instr.fieldAt 180 o_6 0) fun v20 =>
 RUN Try.prog (Instr.loadAt 178 v20) w fun v21 w =>
 CALLV Try.prog v21 [v19, v16] w E fun v22 w =>
 COND v22 (
 PURE Try.prog (BINS .add 3 (.tmp 46) (.const (.int .i64 1)) k_9 (.int .i64 1)) fun v23 =>
 PURE Try.prog (BINS .add 3 (.tmp 45) (.tmp 47) next_8 v23) fun v24 =>
 PURE Try.prog (BINS .sub 3 (.tmp 49) (.tmp 50) v24 at_7) fun v25 =>
 next1 at_7 v24 (.int .i64 0) v25 w) (
 JOIN1 (fun J2 =>
 PURE Try.prog (BINS .eql 5 (.tmp 53) (.tmp 54) v16 v19) fun v26 =>
 COND v26 (
 PURE Try.prog (BINS .add 3 (.tmp 57) (.const (.int .i64 1)) k_9 (.int .i64 1)) fun v27 =>
 PURE Try.prog (BINS .lss 3 (.tmp 58) (.tmp 59) v27 per_10) fun v28 =>
 PURE Try.prog (PICKS (.bool true) v28 (.bool Bool.false)) fun v29 =>
 J2 v29 w) (
 PURE Try.prog (PICKS (.bool false) undef (.bool Bool.false)) fun v30 =>
 J2 v30 w)) (fun v31 w =>
 COND v31 (
 PURE Try.prog (BINS .add 3 (.tmp 62) (.const (.int .i64 1)) k_9 (.int .i64 1)) fun v32 =>
 next1 at_7 next_8 v32 per_10 w) (
 PURE Try.prog (BINS .eql 5 (.tmp 65) (.tmp 66) v16 v19) fun v33 =>
 COND v33 (
 PURE Try.prog (BINS .add 3 (.tmp 68) (.tmp 69) next_8 per_10) fun v34 =>
 next1 at_7 v34 (.int .i64 0) per_10 w) (
 PURE Try.prog (BINS .add 3 (.tmp 37) (.const (.int .i64 1)) next_8 (.int .i64 1)) fun v35 =>
 next1 next_8 v35 (.int .i64 0) (.int .i64 1) w))))) (
 R (.tuple #[at_7, per_10]) w)) (.int .i64 0) (.int .i64 1) (.int .i64 0) (.int .i64 1) w)
theorem by_suffix_Max {b_1 turned_2 : Value} {R : Value → World → Prop} {w : World} (h : sh_suffix_Max b_1 turned_2 NOPE R w) : RET Try.prog 103 [b_1, turned_2] w R :=
  ⟨by kernel_rfl, calls_by [(5, [7, 8, 9, 10]), (22013, [52])] Try.func103 (by kernel_rfl) (by kernel_rfl) (by kernel_rfl) h⟩

def sh_shifts_Shifts_goes_1 (at_1 n_2 : Value) (E : List PanicEntry → World → Prop) (R : Value → World → Prop) (w : World) : Prop :=
 PURE Try.prog (NILS at_1) fun v3 =>
 RUN Try.prog (Instr.loadAt 3 v3) w fun v4 w =>
 PURE Try.prog (Builtin.min_ #[3, 3] 3 #[v4, n_2]) fun v5 =>
 PURE Try.prog (NILS at_1) fun v6 =>
 RUNU Try.prog (Instr.storeAt 3 v6 v5) w fun w =>
 R (.tuple #[]) w
theorem by_shifts_Shifts_goes_1 {at_1 n_2 : Value} {R : Value → World → Prop} {w : World} (h : sh_shifts_Shifts_goes_1 at_1 n_2 NOPE R w) : RET Try.prog 104 [at_1, n_2] w R :=
  ⟨by kernel_rfl, calls_by [] Try.func104 (by kernel_rfl) (by kernel_rfl) (by kernel_rfl) h⟩

def sh_trie_Trie_Find (t_1 b_2 : Value) (E : List PanicEntry → World → Prop) (R : Value → World → Prop) (w : World) : Prop :=
 CALL Try.prog 23 [t_1] w E fun v3 w =>
 PURE Try.prog (BINS .sub 3 (.tmp 9) (.const (.int .i64 1)) v3 (.int .i64 1)) fun v4 =>
 PURE Try.prog (Builtin.min_ #[3, 3] 3 #[(.int .i64 0), v4]) fun v5 =>
 PURE Try.prog (Builtin.len_ #[42] 3 #[b_2]) fun v6 =>
 LOOP2 (fun at_7 v8 w next1 =>
 PURE Try.prog (BINS .lss 3 (.tmp 14) (.tmp 13) v8 v6) fun v9 =>
 COND v9 (
 PURE Try.prog (Instr.indexAt 42 b_2 v8) fun v10 =>
 RUN Try.prog (Instr.loadAt 5 v10) w fun v11 w =>
 CALL Try.prog 74 [t_1, at_7, v11] w E fun v12 w =>
 PURE Try.prog (BINS .add 3 (.tmp 14) (.const (.int .i64 1)) v8 (.int .i64 1)) fun v13 =>
 next1 v12 v13 w) (
 R at_7 w)) v5 (.int .i64 0) w
theorem by_trie_Trie_Find {t_1 b_2 : Value} {R : Value → World → Prop} {w : World} (h : sh_trie_Trie_Find t_1 b_2 NOPE R w) : RET Try.prog 105 [t_1, b_2] w R :=
  ⟨by kernel_rfl, calls_by [(3, [5, 14])] Try.func105 (by kernel_rfl) (by kernel_rfl) (by kernel_rfl) h⟩

def sh_back_Back_Whole (b_1 node_2 : Value) (E : List PanicEntry → World → Prop) (R : Value → World → Prop) (w : World) : Prop :=
 PURE Try.prog (BINS .neq 117 (.tmp 5) (.const (.pointer Option.none)) b_1 (.pointer Option.none)) fun v3 =>
 COND v3 (
 PURE Try.prog (NILS b_1) fun v4 =>
 PURE Try.prog (Instr.fieldAt 156 v4 0) fun v5 =>
 RUN Try.prog (Instr.loadAt 45 v5) w fun v6 w =>
 CALL Try.prog 102 [v6, node_2] w E fun v7 w =>
 PURE Try.prog (BINS .geq 3 (.tmp 13) (.const (.int .i64 0)) v7 (.int .i64 0)) fun v8 =>
 PURE Try.prog (PICKS (.bool true) v8 (.bool Bool.false)) fun v9 =>
 R v9 w) (
 PURE Try.prog (PICKS (.bool false) undef (.bool Bool.false)) fun v10 =>
 R v10 w)
theorem by_back_Back_Whole {b_1 node_2 : Value} {R : Value → World → Prop} {w : World} (h : sh_back_Back_Whole b_1 node_2 NOPE R w) : RET Try.prog 106 [b_1, node_2] w R :=
  ⟨by kernel_rfl, calls_by [] Try.func106 (by kernel_rfl) (by kernel_rfl) (by kernel_rfl) h⟩

def sh_trie_Trie_Depth (t_1 node_2 : Value) (E : List PanicEntry → World → Prop) (R : Value → World → Prop) (w : World) : Prop :=
 CALL Try.prog 81 [t_1, node_2] w E fun v3 w =>
 PURE Try.prog (Op.unary .not v3) fun v4 =>
 COND v4 (
 R (.int .i64 0) w) (
 PURE Try.prog (NILS t_1) fun v5 =>
 PURE Try.prog (Instr.fieldAt 91 v5 0) fun v6 =>
 RUN Try.prog (Instr.loadAt 88 v6) w fun v7 w =>
 PURE Try.prog (Instr.indexAt 88 v7 node_2) fun v8 =>
 PURE Try.prog (Instr.fieldAt 87 v8 1) fun v9 =>
 RUN Try.prog (Instr.loadAt 3 v9) w fun v10 w =>
 R v10 w)
theorem by_trie_Trie_Depth {t_1 node_2 : Value} {R : Value → World → Prop} {w : World} (h : sh_trie_Trie_Depth t_1 node_2 NOPE R w) : RET Try.prog 107 [t_1, node_2] w R :=
  ⟨by kernel_rfl, calls_by [] Try.func107 (by kernel_rfl) (by kernel_rfl) (by kernel_rfl) h⟩

def sh_shifts_Shifts_Second (s_1 node_2 : Value) (E : List PanicEntry → World → Prop) (R : Value → World → Prop) (w : World) : Prop :=
 CALL Try.prog 113 [s_1, node_2] w E fun v3 w =>
 PURE Try.prog (Instr.index 161 v3 (.int .i64 1)) fun v4 =>
 R v4 w
theorem by_shifts_Shifts_Second {s_1 node_2 : Value} {R : Value → World → Prop} {w : World} (h : sh_shifts_Shifts_Second s_1 node_2 NOPE R w) : RET Try.prog 108 [s_1, node_2] w R :=
  ⟨by kernel_rfl, calls_by [] Try.func108 (by kernel_rfl) (by kernel_rfl) (by kernel_rfl) h⟩

def sh_shifts_Shifts_Far (s_1 node_2 c_3 : Value) (E : List PanicEntry → World → Prop) (R : Value → World → Prop) (w : World) : Prop :=
 CALL Try.prog 113 [s_1, node_2] w E fun v4 w =>
 RUN Try.prog (Instr.alloc 161 true (.tuple #[])) w fun two_5 w =>
 RUNU Try.prog (Instr.storeAt 161 two_5 v4) w fun w =>
 RUN Try.prog (Instr.loadAt 161 two_5) w fun v6 w =>
 PURE Try.prog (Instr.build 161 #[]) fun v7 =>
 PURE Try.prog (BINS .eql 161 (.tmp 13) (.tmp 14) v6 v7) fun v8 =>
 COND v8 (
 R (.int .i64 0) w) (
 PURE Try.prog (NILS s_1) fun v9 =>
 PURE Try.prog (Instr.fieldAt 160 v9 0) fun v10 =>
 RUN Try.prog (Instr.loadAt 117 v10) w fun v11 w =>
 CALL Try.prog 97 [v11] w E fun v12 w =>
 PURE Try.prog (BINS .add 3 (.tmp 20) (.const (.int .i64 1)) v12 (.int .i64 1)) fun v13 =>
 JOIN1 (fun J1 =>
 PURE Try.prog (NILS s_1) fun v14 =>
 PURE Try.prog (Instr.fieldAt 160 v14 0) fun v15 =>
 RUN Try.prog (Instr.loadAt 117 v15) w fun v16 w =>
 CALL Try.prog 114 [v16, c_3] w E fun v17 w =>
 PURE Try.prog (BINS .gtr 3 (.tmp 28) (.const (.int .i64 0)) v17 (.int .i64 0)) fun v18 =>
 COND v18 (
 PURE Try.prog (Builtin.min_ #[3, 3] 3 #[v13, v17]) fun v19 =>
 J1 v19 w) (
 J1 v13 w)) (fun k_20 w =>
 DRAW w fun S w =>
 PURE Try.prog (Instr.indexAt 161 two_5 (.int .i64 1)) fun v21 =>
 READ Try.prog S (Instr.loadAt 3 v21) w fun v22 =>
 PURE Try.prog (Instr.indexAt 161 two_5 (.int .i64 0)) fun v23 =>
 READ Try.prog S (Instr.loadAt 3 v23) w fun v24 =>
 PURE Try.prog (NILS s_1) fun v25 =>
 PURE Try.prog (Instr.fieldAt 160 v25 0) fun v26 =>
 READ Try.prog S (Instr.loadAt 117 v26) w fun v27 =>
 PURE Try.prog (NILS v27) fun v28 =>
 PURE Try.prog (Instr.fieldAt 156 v28 0) fun v29 =>
 READ Try.prog S (Instr.loadAt 45 v29) w fun v30 =>
 CALL Try.prog 107 [v30, node_2] w E fun v31 w =>
 KEEPS S w fun S =>
 PURE Try.prog (BINS .sub 3 (.tmp 37) (.tmp 46) k_20 v31) fun v32 =>
 PURE Try.prog (BINS .sub 3 (.tmp 47) (.const (.int .i64 1)) v32 (.int .i64 1)) fun v33 =>
 PURE Try.prog (Builtin.max_ #[3, 3] 3 #[v24, v33]) fun v34 =>
 PURE Try.prog (Builtin.min_ #[3, 3] 3 #[v22, v34]) fun v35 =>
 R v35 w))
theorem by_shifts_Shifts_Far {s_1 node_2 c_3 : Value} {R : Value → World → Prop} {w : World} (h : sh_shifts_Shifts_Far s_1 node_2 c_3 NOPE R w) : RET Try.prog 109 [s_1, node_2, c_3] w R :=
  ⟨by kernel_rfl, calls_by [(15008, [8])] Try.func109 (by kernel_rfl) (by kernel_rfl) (by kernel_rfl) h⟩

def sh_math_bits_Mul32 (x_1 y_2 : Value) (E : List PanicEntry → World → Prop) (R : Value → World → Prop) (w : World) : Prop :=
 PURE Try.prog (convert 173 75 x_1) fun v3 =>
 PURE Try.prog (convert 173 75 y_2) fun v4 =>
 PURE Try.prog (BINS .mul 75 (.tmp 8) (.tmp 10) v3 v4) fun v5 =>
 PURE Try.prog (BINS .shr 75 (.tmp 12) (.const (.int .u64 32)) v5 (.int .u64 32)) fun v6 =>
 PURE Try.prog (convert 75 173 v6) fun v7 =>
 PURE Try.prog (convert 75 173 v5) fun v8 =>
 R (.tuple #[v7, v8]) w
theorem by_math_bits_Mul32 {x_1 y_2 : Value} {R : Value → World → Prop} {w : World} (h : sh_math_bits_Mul32 x_1 y_2 NOPE R w) : RET Try.prog 110 [x_1, y_2] w R :=
  ⟨by kernel_rfl, calls_by [] Try.func110 (by kernel_rfl) (by kernel_rfl) (by kernel_rfl) h⟩

def sh_math_bits_Mul64 (x_1 y_2 : Value) (E : List PanicEntry → World → Prop) (R : Value → World → Prop) (w : World) : Prop :=
 PURE Try.prog (BINS .and 75 (.tmp 14) (.const (.int .u64 4294967295)) x_1 (.int .u64 4294967295)) fun v3 =>
 PURE Try.prog (BINS .shr 75 (.tmp 16) (.const (.int .u64 32)) x_1 (.int .u64 32)) fun v4 =>
 PURE Try.prog (BINS .and 75 (.tmp 18) (.const (.int .u64 4294967295)) y_2 (.int .u64 4294967295)) fun v5 =>
 PURE Try.prog (BINS .shr 75 (.tmp 20) (.const (.int .u64 32)) y_2 (.int .u64 32)) fun v6 =>
 PURE Try.prog (BINS .mul 75 (.tmp 22) (.tmp 23) v3 v5) fun v7 =>
 PURE Try.prog (BINS .mul 75 (.tmp 25) (.tmp 26) v4 v5) fun v8 =>
 PURE Try.prog (BINS .shr 75 (.tmp 28) (.const (.int .u64 32)) v7 (.int .u64 32)) fun v9 =>
 PURE Try.prog (BINS .add 75 (.tmp 27) (.tmp 29) v8 v9) fun v10 =>
 PURE Try.prog (BINS .and 75 (.tmp 31) (.const (.int .u64 4294967295)) v10 (.int .u64 4294967295)) fun v11 =>
 PURE Try.prog (BINS .shr 75 (.tmp 33) (.const (.int .u64 32)) v10 (.int .u64 32)) fun v12 =>
 PURE Try.prog (BINS .mul 75 (.tmp 36) (.tmp 37) v3 v6) fun v13 =>
 PURE Try.prog (BINS .add 75 (.tmp 35) (.tmp 38) v11 v13) fun v14 =>
 PURE Try.prog (BINS .mul 75 (.tmp 40) (.tmp 41) v4 v6) fun v15 =>
 PURE Try.prog (BINS .add 75 (.tmp 42) (.tmp 43) v15 v12) fun v16 =>
 PURE Try.prog (BINS .shr 75 (.tmp 45) (.const (.int .u64 32)) v14 (.int .u64 32)) fun v17 =>
 PURE Try.prog (BINS .add 75 (.tmp 44) (.tmp 46) v16 v17) fun v18 =>
 PURE Try.prog (BINS .mul 75 (.tmp 48) (.tmp 49) x_1 y_2) fun v19 =>
 R (.tuple #[v18, v19]) w
theorem by_math_bits_Mul64 {x_1 y_2 : Value} {R : Value → World → Prop} {w : World} (h : sh_math_bits_Mul64 x_1 y_2 NOPE R w) : RET Try.prog 111 [x_1, y_2] w R :=
  ⟨by kernel_rfl, calls_by [] Try.func111 (by kernel_rfl) (by kernel_rfl) (by kernel_rfl) h⟩

def sh_suffix_by (turned_1 : Value) (E : List PanicEntry → World → Prop) (R : Value → World → Prop) (w : World) : Prop :=
 RUN Try.prog (Instr.box 4 turned_1) w fun turned_2 w =>
 RUN Try.prog (Instr.alloc 180 true (.tuple #[])) w fun v3 w =>
 PURE Try.prog (Instr.makeFunc (Go.Fn.func 115) #[] #[turned_2]) fun v4 =>
 PURE Try.prog (Instr.build 180 #[(0, v4)]) fun v5 =>
 RUNU Try.prog (Instr.storeAt 180 v3 v5) w fun w =>
 LOADRES Try.prog 180 v3 w fun r => R r w
theorem by_suffix_by {turned_1 : Value} {R : Value → World → Prop} {w : World} (h : sh_suffix_by turned_1 NOPE R w) : RET Try.prog 112 [turned_1] w R :=
  ⟨by kernel_rfl, calls_by [] Try.func112 (by kernel_rfl) (by kernel_rfl) (by kernel_rfl) h⟩

def sh_shifts_Shifts_of (s_1 node_2 : Value) (E : List PanicEntry → World → Prop) (R : Value → World → Prop) (w : World) : Prop :=
 RUN Try.prog (Instr.alloc 161 true (.tuple #[])) w fun v3 w =>
 JOIN0 (fun J1 =>
 PURE Try.prog (BINS .eql 119 (.tmp 5) (.const (.pointer Option.none)) s_1 (.pointer Option.none)) fun v4 =>
 COND v4 (
 PURE Try.prog (PICKS (.bool true) (.bool Bool.true) undef) fun v5 =>
 COND v5 (
 PURE Try.prog (PICKS (.bool true) (.bool Bool.true) undef) fun v6 =>
 COND v6 (
 PURE Try.prog (Instr.build 161 #[]) fun v7 =>
 RUNU Try.prog (Instr.storeAt 161 v3 v7) w fun w =>
 LOADRES Try.prog 161 v3 w fun r => R r w) (
 J1 w)) (
 PURE Try.prog (NILS s_1) fun v8 =>
 PURE Try.prog (Instr.fieldAt 160 v8 1) fun v9 =>
 RUN Try.prog (Instr.loadAt 158 v9) w fun v10 w =>
 PURE Try.prog (Builtin.len_ #[158] 3 #[v10]) fun v11 =>
 PURE Try.prog (BINS .geq 3 (.tmp 12) (.tmp 17) node_2 v11) fun v12 =>
 PURE Try.prog (PICKS (.bool false) (.bool Bool.true) v12) fun v13 =>
 COND v13 (
 PURE Try.prog (Instr.build 161 #[]) fun v14 =>
 RUNU Try.prog (Instr.storeAt 161 v3 v14) w fun w =>
 LOADRES Try.prog 161 v3 w fun r => R r w) (
 J1 w))) (
 PURE Try.prog (BINS .lss 3 (.tmp 8) (.const (.int .i64 0)) node_2 (.int .i64 0)) fun v15 =>
 PURE Try.prog (PICKS (.bool false) (.bool Bool.true) v15) fun v16 =>
 COND v16 (
 PURE Try.prog (PICKS (.bool true) (.bool Bool.true) undef) fun v17 =>
 COND v17 (
 PURE Try.prog (Instr.build 161 #[]) fun v18 =>
 RUNU Try.prog (Instr.storeAt 161 v3 v18) w fun w =>
 LOADRES Try.prog 161 v3 w fun r => R r w) (
 J1 w)) (
 PURE Try.prog (NILS s_1) fun v19 =>
 PURE Try.prog (Instr.fieldAt 160 v19 1) fun v20 =>
 RUN Try.prog (Instr.loadAt 158 v20) w fun v21 w =>
 PURE Try.prog (Builtin.len_ #[158] 3 #[v21]) fun v22 =>
 PURE Try.prog (BINS .geq 3 (.tmp 12) (.tmp 17) node_2 v22) fun v23 =>
 PURE Try.prog (PICKS (.bool false) (.bool Bool.true) v23) fun v24 =>
 COND v24 (
 PURE Try.prog (Instr.build 161 #[]) fun v25 =>
 RUNU Try.prog (Instr.storeAt 161 v3 v25) w fun w =>
 LOADRES Try.prog 161 v3 w fun r => R r w) (
 J1 w)))) (fun w =>
 PURE Try.prog (NILS s_1) fun v26 =>
 PURE Try.prog (Instr.fieldAt 160 v26 1) fun v27 =>
 RUN Try.prog (Instr.loadAt 158 v27) w fun v28 w =>
 PURE Try.prog (Instr.indexAt 158 v28 node_2) fun v29 =>
 RUN Try.prog (Instr.loadAt 161 v29) w fun v30 w =>
 RUNU Try.prog (Instr.storeAt 161 v3 v30) w fun w =>
 LOADRES Try.prog 161 v3 w fun r => R r w)
theorem by_shifts_Shifts_of {s_1 node_2 : Value} {R : Value → World → Prop} {w : World} (h : sh_shifts_Shifts_of s_1 node_2 NOPE R w) : RET Try.prog 113 [s_1, node_2] w R :=
  ⟨by kernel_rfl, calls_by [(11003, [])] Try.func113 (by kernel_rfl) (by kernel_rfl) (by kernel_rfl) h⟩

def sh_back_Back_Near (b_1 c_2 : Value) (E : List PanicEntry → World → Prop) (R : Value → World → Prop) (w : World) : Prop :=
 PURE Try.prog (BINS .eql 117 (.tmp 5) (.const (.pointer Option.none)) b_1 (.pointer Option.none)) fun v3 =>
 COND v3 (
 R (.int .i64 0) w) (
 PURE Try.prog (NILS b_1) fun v4 =>
 PURE Try.prog (Instr.fieldAt 156 v4 2) fun v5 =>
 PURE Try.prog (Instr.indexAt 31 v5 c_2) fun v6 =>
 RUN Try.prog (Instr.loadAt 3 v6) w fun v7 w =>
 R v7 w)
theorem by_back_Back_Near {b_1 c_2 : Value} {R : Value → World → Prop} {w : World} (h : sh_back_Back_Near b_1 c_2 NOPE R w) : RET Try.prog 114 [b_1, c_2] w R :=
  ⟨by kernel_rfl, calls_by [] Try.func114 (by kernel_rfl) (by kernel_rfl) (by kernel_rfl) h⟩

def sh_suffix_by_1 (a_1 b_2 v3 : Value) (E : List PanicEntry → World → Prop) (R : Value → World → Prop) (w : World) : Prop :=
 PURE Try.prog (BINS .neq 5 (.tmp 6) (.tmp 7) a_1 b_2) fun v4 =>
 COND v4 (
 PURE Try.prog (BINS .lss 5 (.tmp 10) (.tmp 11) a_1 b_2) fun v5 =>
 RUN Try.prog (Instr.loadAt 4 v3) w fun v6 w =>
 PURE Try.prog (BINS .neq 4 (.tmp 12) (.tmp 13) v5 v6) fun v7 =>
 PURE Try.prog (PICKS (.bool true) v7 (.bool Bool.false)) fun v8 =>
 R v8 w) (
 PURE Try.prog (PICKS (.bool false) undef (.bool Bool.false)) fun v9 =>
 R v9 w)
theorem by_suffix_by_1 {a_1 b_2 v3 : Value} {R : Value → World → Prop} {w : World} (h : sh_suffix_by_1 a_1 b_2 v3 NOPE R w) : RET Try.prog 115 [a_1, b_2, v3] w R :=
  ⟨by kernel_rfl, calls_by [] Try.func115 (by kernel_rfl) (by kernel_rfl) (by kernel_rfl) h⟩
end Go.Proofs.Ytopdjdkkhpkmiaa.Y
