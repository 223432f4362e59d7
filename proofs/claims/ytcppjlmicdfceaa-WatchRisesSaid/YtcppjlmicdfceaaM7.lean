/- Texts that stand behind this claim, one after the other. -/
import Derived.Test.YtcppjlmicdfceaaM6
import Derived.Test.YtcppjlmicdfceaaM5
/- The chapter on watching: the document's Owner. -/
section
set_option linter.unusedVariables false
set_option linter.unusedSimpArgs false
namespace Go.Proofs.Wt
open Go Vm

def own : List Gl → Int → Int → Int
  | [], _, a => a
  | g :: r, i, a => own r i (if g.b ≤ i then g.b else a)
theorem own_take {l : List Gl} {k : Nat} {i a : Int} {g : Gl} (h : l[k]? = some g) : own (l.take (k + 1)) i a = if g.b ≤ i then g.b else own (l.take k) i a := by
  induction l generalizing k a with
  | nil => simp at h
  | cons x l ih =>
    cases k with
    | zero => simp at h; subst h; simp [own]
    | succ k => simp only [List.take_succ_cons, own]; exact ih (by simpa using h)
def ownerOf (l : List Gl) (c i : Int) : Int := if checkOf l c ≠ 0 ∨ i < 0 ∨ c ≤ i then -1 else own l i (-1)
theorem bo11 : bodied Try.prog 11 = true := by kernel_rfl
theorem ownerR_ok (l : List Gl) (hl : l.length ≤ 1000) (c i : Int) : PureF Try.prog A 9 [glD l, .int .i64 c, .int .i64 i] (.int .i64 (ownerOf l c i)) := by
  refine evF_in (n := 42) (rs := [.tmp 6]) Try.func9 rfl rfl rfl rfl rfl rfl ?_
  refine wpc_seq (wpc_region ?_)
  simp only [vOps, vOp, stepOp, deferC, evalO, evalOs, evalOo, partsD, okD, okH, okU, wantD, dstOk, putO_some, putO_none, put_at, df_put, ofV, ofArgs, List.getD_cons_zero, List.getD_cons_succ, List.getD_nil, Option.map_some, Option.map_none, Option.bind_some, Option.bind_none, true_and, and_true, SeqQ_norm, SeqQ_exit, SeqQ_ret, SeqQ_pan, BlkQ_norm, BlkQ_exit, BlkQ_ret, BlkQ_pan, RetQ_norm, RetQ_ret, RetQ_pan, Nat.reduceEqDiff, Nat.reduceLT, Nat.reduceAdd, Nat.reduceMul, Nat.reduceSub, Nat.reduceBEq, reduceCtorEq, ↓reduceIte, decide_true, decide_false, Bool.false_eq_true, eq_self, if_false, if_true, resD, oneD_one, outPure_int, outPure_bool, List.getElem?_toArray, List.getElem?_cons_zero, List.getElem?_cons_succ, List.size_toArray, List.length_cons, List.length_nil, binD, intBin, unD, convD, builtinD, lenD, indexAddrD, inRange, loadD, storeD, moveP, newOb, partE, partD, setE, spliceL, noTup, aggQ, D.cells, hget_app0, hget_app, hget_cons0, hget_consS, set_app0, set_app, List.set_cons_zero, List.set_cons_succ, and_self, List.length_map, List.getElem?_map, Int.natCast_nonneg, Int.ofNat_lt, Int.toNat_natCast, List.append_nil, List.nil_append, List.cons_append, List.drop_zero, List.drop_succ_cons, List.take_succ_cons, List.take_zero, Nat.zero_add, Nat.add_zero, Nat.zero_mul, Int.toNat_zero, Int.reduceLT, Int.reduceLE, Int.reduceToNat, Nat.reduceLeDiff, Int.reduceEq, Int.reduceNe, Int.reduceNeg, Option.bind_eq_bind, Option.pure_def, gt_iff_lt, ge_iff_le, beq_true, beq_false, Bool.not_true, Bool.not_false, Bool.true_and, Bool.false_and, Bool.and_true, Bool.and_false, Bool.true_or, Bool.false_or, Bool.or_true, Bool.or_false, vOpsX, vOpX, List.isEmpty_toArray, List.isEmpty_nil, List.isEmpty_cons, List.all_nil, List.all_cons, beq_self_eq_true, bne_self_eq_false, Int.reduceBEq, Int.reduceBNe]
  refine wpc_seq (wpc_region ?_)
  simp only [vOps, vOp, stepOp, deferC, evalO, evalOs, evalOo, partsD, okD, okH, okU, wantD, dstOk, putO_some, putO_none, put_at, df_put, ofV, ofArgs, List.getD_cons_zero, List.getD_cons_succ, List.getD_nil, Option.map_some, Option.map_none, Option.bind_some, Option.bind_none, true_and, and_true, SeqQ_norm, SeqQ_exit, SeqQ_ret, SeqQ_pan, BlkQ_norm, BlkQ_exit, BlkQ_ret, BlkQ_pan, RetQ_norm, RetQ_ret, RetQ_pan, Nat.reduceEqDiff, Nat.reduceLT, Nat.reduceAdd, Nat.reduceMul, Nat.reduceSub, Nat.reduceBEq, reduceCtorEq, ↓reduceIte, decide_true, decide_false, Bool.false_eq_true, eq_self, if_false, if_true, resD, oneD_one, outPure_int, outPure_bool, List.getElem?_toArray, List.getElem?_cons_zero, List.getElem?_cons_succ, List.size_toArray, List.length_cons, List.length_nil, binD, intBin, unD, convD, builtinD, lenD, indexAddrD, inRange, loadD, storeD, moveP, newOb, partE, partD, setE, spliceL, noTup, aggQ, D.cells, hget_app0, hget_app, hget_cons0, hget_consS, set_app0, set_app, List.set_cons_zero, List.set_cons_succ, and_self, List.length_map, List.getElem?_map, Int.natCast_nonneg, Int.ofNat_lt, Int.toNat_natCast, List.append_nil, List.nil_append, List.cons_append, List.drop_zero, List.drop_succ_cons, List.take_succ_cons, List.take_zero, Nat.zero_add, Nat.add_zero, Nat.zero_mul, Int.toNat_zero, Int.reduceLT, Int.reduceLE, Int.reduceToNat, Nat.reduceLeDiff, Int.reduceEq, Int.reduceNe, Int.reduceNeg, Option.bind_eq_bind, Option.pure_def, gt_iff_lt, ge_iff_le, beq_true, beq_false, Bool.not_true, Bool.not_false, Bool.true_and, Bool.false_and, Bool.and_true, Bool.and_false, Bool.true_or, Bool.false_or, Bool.or_true, Bool.or_false, vOpsX, vOpX, List.isEmpty_toArray, List.isEmpty_nil, List.isEmpty_cons, List.all_nil, List.all_cons, beq_self_eq_true, bne_self_eq_false, Int.reduceBEq, Int.reduceBNe]
  refine wpc_mid (fun e H => e 0 = glD l ∧ e 1 = .int .i64 c ∧ e 2 = .int .i64 i ∧ e 7 = .int .i64 (-1) ∧ ¬ (checkOf l c ≠ 0 ∨ i < 0 ∨ c ≤ i)) ?_ ?_
  · refine wpc_seq (wpc_region ?_)
    simp only [vOps, vOp, stepOp, deferC, evalO, evalOs, evalOo, partsD, okD, okH, okU, wantD, dstOk, putO_some, putO_none, put_at, df_put, ofV, ofArgs, List.getD_cons_zero, List.getD_cons_succ, List.getD_nil, Option.map_some, Option.map_none, Option.bind_some, Option.bind_none, true_and, and_true, SeqQ_norm, SeqQ_exit, SeqQ_ret, SeqQ_pan, BlkQ_norm, BlkQ_exit, BlkQ_ret, BlkQ_pan, RetQ_norm, RetQ_ret, RetQ_pan, Nat.reduceEqDiff, Nat.reduceLT, Nat.reduceAdd, Nat.reduceMul, Nat.reduceSub, Nat.reduceBEq, reduceCtorEq, ↓reduceIte, decide_true, decide_false, Bool.false_eq_true, eq_self, if_false, if_true, resD, oneD_one, outPure_int, outPure_bool, List.getElem?_toArray, List.getElem?_cons_zero, List.getElem?_cons_succ, List.size_toArray, List.length_cons, List.length_nil, binD, intBin, unD, convD, builtinD, lenD, indexAddrD, inRange, loadD, storeD, moveP, newOb, partE, partD, setE, spliceL, noTup, aggQ, D.cells, hget_app0, hget_app, hget_cons0, hget_consS, set_app0, set_app, List.set_cons_zero, List.set_cons_succ, and_self, List.length_map, List.getElem?_map, Int.natCast_nonneg, Int.ofNat_lt, Int.toNat_natCast, List.append_nil, List.nil_append, List.cons_append, List.drop_zero, List.drop_succ_cons, List.take_succ_cons, List.take_zero, Nat.zero_add, Nat.add_zero, Nat.zero_mul, Int.toNat_zero, Int.reduceLT, Int.reduceLE, Int.reduceToNat, Nat.reduceLeDiff, Int.reduceEq, Int.reduceNe, Int.reduceNeg, Option.bind_eq_bind, Option.pure_def, gt_iff_lt, ge_iff_le, beq_true, beq_false, Bool.not_true, Bool.not_false, Bool.true_and, Bool.false_and, Bool.and_true, Bool.and_false, Bool.true_or, Bool.false_or, Bool.or_true, Bool.or_false, vOpsX, vOpX, List.isEmpty_toArray, List.isEmpty_nil, List.isEmpty_cons, List.all_nil, List.all_cons, beq_self_eq_true, bne_self_eq_false, Int.reduceBEq, Int.reduceBNe, un3, un4, un21, un22, un27, un30, un31, sz3, sz30, sz36, ag3, ag30, ag36, zr30, zr36, fd36_1, fd36_4]
    refine evC_plain bo11 rfl rfl (strip2 l c) (checkR_ok l hl c) ?_
    by_cases h1 : checkOf l c = 0
    · by_cases h2 : i < 0
      · simp only [vOps, vOp, stepOp, deferC, evalO, evalOs, evalOo, partsD, okD, okH, okU, wantD, dstOk, putO_some, putO_none, put_at, df_put, ofV, ofArgs, List.getD_cons_zero, List.getD_cons_succ, List.getD_nil, Option.map_some, Option.map_none, Option.bind_some, Option.bind_none, true_and, and_true, SeqQ_norm, SeqQ_exit, SeqQ_ret, SeqQ_pan, BlkQ_norm, BlkQ_exit, BlkQ_ret, BlkQ_pan, RetQ_norm, RetQ_ret, RetQ_pan, Nat.reduceEqDiff, Nat.reduceLT, Nat.reduceAdd, Nat.reduceMul, Nat.reduceSub, Nat.reduceBEq, reduceCtorEq, ↓reduceIte, decide_true, decide_false, Bool.false_eq_true, eq_self, if_false, if_true, resD, oneD_one, outPure_int, outPure_bool, List.getElem?_toArray, List.getElem?_cons_zero, List.getElem?_cons_succ, List.size_toArray, List.length_cons, List.length_nil, binD, intBin, unD, convD, builtinD, lenD, indexAddrD, inRange, loadD, storeD, moveP, newOb, partE, partD, setE, spliceL, noTup, aggQ, D.cells, hget_app0, hget_app, hget_cons0, hget_consS, set_app0, set_app, List.set_cons_zero, List.set_cons_succ, and_self, List.length_map, List.getElem?_map, Int.natCast_nonneg, Int.ofNat_lt, Int.toNat_natCast, List.append_nil, List.nil_append, List.cons_append, List.drop_zero, List.drop_succ_cons, List.take_succ_cons, List.take_zero, Nat.zero_add, Nat.add_zero, Nat.zero_mul, Int.toNat_zero, Int.reduceLT, Int.reduceLE, Int.reduceToNat, Nat.reduceLeDiff, Int.reduceEq, Int.reduceNe, Int.reduceNeg, Option.bind_eq_bind, Option.pure_def, gt_iff_lt, ge_iff_le, beq_true, beq_false, Bool.not_true, Bool.not_false, Bool.true_and, Bool.false_and, Bool.and_true, Bool.and_false, Bool.true_or, Bool.false_or, Bool.or_true, Bool.or_false, vOpsX, vOpX, List.isEmpty_toArray, List.isEmpty_nil, List.isEmpty_cons, List.all_nil, List.all_cons, beq_self_eq_true, bne_self_eq_false, Int.reduceBEq, Int.reduceBNe, un3, un4, un21, un22, un27, un30, un31, sz3, sz30, sz36, ag3, ag30, ag36, zr30, zr36, fd36_1, fd36_4, h1, h2, bne_self_eq_false]
        refine wpc_cond (b := true) (by simp only [vOps, vOp, stepOp, deferC, evalO, evalOs, evalOo, partsD, okD, okH, okU, wantD, dstOk, putO_some, putO_none, put_at, df_put, ofV, ofArgs, List.getD_cons_zero, List.getD_cons_succ, List.getD_nil, Option.map_some, Option.map_none, Option.bind_some, Option.bind_none, true_and, and_true, SeqQ_norm, SeqQ_exit, SeqQ_ret, SeqQ_pan, BlkQ_norm, BlkQ_exit, BlkQ_ret, BlkQ_pan, RetQ_norm, RetQ_ret, RetQ_pan, Nat.reduceEqDiff, Nat.reduceLT, Nat.reduceAdd, Nat.reduceMul, Nat.reduceSub, Nat.reduceBEq, reduceCtorEq, ↓reduceIte, decide_true, decide_false, Bool.false_eq_true, eq_self, if_false, if_true, resD, oneD_one, outPure_int, outPure_bool, List.getElem?_toArray, List.getElem?_cons_zero, List.getElem?_cons_succ, List.size_toArray, List.length_cons, List.length_nil, binD, intBin, unD, convD, builtinD, lenD, indexAddrD, inRange, loadD, storeD, moveP, newOb, partE, partD, setE, spliceL, noTup, aggQ, D.cells, hget_app0, hget_app, hget_cons0, hget_consS, set_app0, set_app, List.set_cons_zero, List.set_cons_succ, and_self, List.length_map, List.getElem?_map, Int.natCast_nonneg, Int.ofNat_lt, Int.toNat_natCast, List.append_nil, List.nil_append, List.cons_append, List.drop_zero, List.drop_succ_cons, List.take_succ_cons, List.take_zero, Nat.zero_add, Nat.add_zero, Nat.zero_mul, Int.toNat_zero, Int.reduceLT, Int.reduceLE, Int.reduceToNat, Nat.reduceLeDiff, Int.reduceEq, Int.reduceNe, Int.reduceNeg, Option.bind_eq_bind, Option.pure_def, gt_iff_lt, ge_iff_le, beq_true, beq_false, Bool.not_true, Bool.not_false, Bool.true_and, Bool.false_and, Bool.and_true, Bool.and_false, Bool.true_or, Bool.false_or, Bool.or_true, Bool.or_false, vOpsX, vOpX, List.isEmpty_toArray, List.isEmpty_nil, List.isEmpty_cons, List.all_nil, List.all_cons, beq_self_eq_true, bne_self_eq_false, Int.reduceBEq, Int.reduceBNe]) (fun hb => wpc_seq (wpc_region ?_)) (fun hb => by cases hb)
        simp only [vOps, vOp, stepOp, deferC, evalO, evalOs, evalOo, partsD, okD, okH, okU, wantD, dstOk, putO_some, putO_none, put_at, df_put, ofV, ofArgs, List.getD_cons_zero, List.getD_cons_succ, List.getD_nil, Option.map_some, Option.map_none, Option.bind_some, Option.bind_none, true_and, and_true, SeqQ_norm, SeqQ_exit, SeqQ_ret, SeqQ_pan, BlkQ_norm, BlkQ_exit, BlkQ_ret, BlkQ_pan, RetQ_norm, RetQ_ret, RetQ_pan, Nat.reduceEqDiff, Nat.reduceLT, Nat.reduceAdd, Nat.reduceMul, Nat.reduceSub, Nat.reduceBEq, reduceCtorEq, ↓reduceIte, decide_true, decide_false, Bool.false_eq_true, eq_self, if_false, if_true, resD, oneD_one, outPure_int, outPure_bool, List.getElem?_toArray, List.getElem?_cons_zero, List.getElem?_cons_succ, List.size_toArray, List.length_cons, List.length_nil, binD, intBin, unD, convD, builtinD, lenD, indexAddrD, inRange, loadD, storeD, moveP, newOb, partE, partD, setE, spliceL, noTup, aggQ, D.cells, hget_app0, hget_app, hget_cons0, hget_consS, set_app0, set_app, List.set_cons_zero, List.set_cons_succ, and_self, List.length_map, List.getElem?_map, Int.natCast_nonneg, Int.ofNat_lt, Int.toNat_natCast, List.append_nil, List.nil_append, List.cons_append, List.drop_zero, List.drop_succ_cons, List.take_succ_cons, List.take_zero, Nat.zero_add, Nat.add_zero, Nat.zero_mul, Int.toNat_zero, Int.reduceLT, Int.reduceLE, Int.reduceToNat, Nat.reduceLeDiff, Int.reduceEq, Int.reduceNe, Int.reduceNeg, Option.bind_eq_bind, Option.pure_def, gt_iff_lt, ge_iff_le, beq_true, beq_false, Bool.not_true, Bool.not_false, Bool.true_and, Bool.false_and, Bool.and_true, Bool.and_false, Bool.true_or, Bool.false_or, Bool.or_true, Bool.or_false, vOpsX, vOpX, List.isEmpty_toArray, List.isEmpty_nil, List.isEmpty_cons, List.all_nil, List.all_cons, beq_self_eq_true, bne_self_eq_false, Int.reduceBEq, Int.reduceBNe]
        refine wpc_ret ?_
        simp only [vOps, vOp, stepOp, deferC, evalO, evalOs, evalOo, partsD, okD, okH, okU, wantD, dstOk, putO_some, putO_none, put_at, df_put, ofV, ofArgs, List.getD_cons_zero, List.getD_cons_succ, List.getD_nil, Option.map_some, Option.map_none, Option.bind_some, Option.bind_none, true_and, and_true, SeqQ_norm, SeqQ_exit, SeqQ_ret, SeqQ_pan, BlkQ_norm, BlkQ_exit, BlkQ_ret, BlkQ_pan, RetQ_norm, RetQ_ret, RetQ_pan, Nat.reduceEqDiff, Nat.reduceLT, Nat.reduceAdd, Nat.reduceMul, Nat.reduceSub, Nat.reduceBEq, reduceCtorEq, ↓reduceIte, decide_true, decide_false, Bool.false_eq_true, eq_self, if_false, if_true, resD, oneD_one, outPure_int, outPure_bool, List.getElem?_toArray, List.getElem?_cons_zero, List.getElem?_cons_succ, List.size_toArray, List.length_cons, List.length_nil, binD, intBin, unD, convD, builtinD, lenD, indexAddrD, inRange, loadD, storeD, moveP, newOb, partE, partD, setE, spliceL, noTup, aggQ, D.cells, hget_app0, hget_app, hget_cons0, hget_consS, set_app0, set_app, List.set_cons_zero, List.set_cons_succ, and_self, List.length_map, List.getElem?_map, Int.natCast_nonneg, Int.ofNat_lt, Int.toNat_natCast, List.append_nil, List.nil_append, List.cons_append, List.drop_zero, List.drop_succ_cons, List.take_succ_cons, List.take_zero, Nat.zero_add, Nat.add_zero, Nat.zero_mul, Int.toNat_zero, Int.reduceLT, Int.reduceLE, Int.reduceToNat, Nat.reduceLeDiff, Int.reduceEq, Int.reduceNe, Int.reduceNeg, Option.bind_eq_bind, Option.pure_def, gt_iff_lt, ge_iff_le, beq_true, beq_false, Bool.not_true, Bool.not_false, Bool.true_and, Bool.false_and, Bool.and_true, Bool.and_false, Bool.true_or, Bool.false_or, Bool.or_true, Bool.or_false, vOpsX, vOpX, List.isEmpty_toArray, List.isEmpty_nil, List.isEmpty_cons, List.all_nil, List.all_cons, beq_self_eq_true, bne_self_eq_false, Int.reduceBEq, Int.reduceBNe, ownerOf, h1, h2]
        simp
      · by_cases h3 : c ≤ i
        · simp only [vOps, vOp, stepOp, deferC, evalO, evalOs, evalOo, partsD, okD, okH, okU, wantD, dstOk, putO_some, putO_none, put_at, df_put, ofV, ofArgs, List.getD_cons_zero, List.getD_cons_succ, List.getD_nil, Option.map_some, Option.map_none, Option.bind_some, Option.bind_none, true_and, and_true, SeqQ_norm, SeqQ_exit, SeqQ_ret, SeqQ_pan, BlkQ_norm, BlkQ_exit, BlkQ_ret, BlkQ_pan, RetQ_norm, RetQ_ret, RetQ_pan, Nat.reduceEqDiff, Nat.reduceLT, Nat.reduceAdd, Nat.reduceMul, Nat.reduceSub, Nat.reduceBEq, reduceCtorEq, ↓reduceIte, decide_true, decide_false, Bool.false_eq_true, eq_self, if_false, if_true, resD, oneD_one, outPure_int, outPure_bool, List.getElem?_toArray, List.getElem?_cons_zero, List.getElem?_cons_succ, List.size_toArray, List.length_cons, List.length_nil, binD, intBin, unD, convD, builtinD, lenD, indexAddrD, inRange, loadD, storeD, moveP, newOb, partE, partD, setE, spliceL, noTup, aggQ, D.cells, hget_app0, hget_app, hget_cons0, hget_consS, set_app0, set_app, List.set_cons_zero, List.set_cons_succ, and_self, List.length_map, List.getElem?_map, Int.natCast_nonneg, Int.ofNat_lt, Int.toNat_natCast, List.append_nil, List.nil_append, List.cons_append, List.drop_zero, List.drop_succ_cons, List.take_succ_cons, List.take_zero, Nat.zero_add, Nat.add_zero, Nat.zero_mul, Int.toNat_zero, Int.reduceLT, Int.reduceLE, Int.reduceToNat, Nat.reduceLeDiff, Int.reduceEq, Int.reduceNe, Int.reduceNeg, Option.bind_eq_bind, Option.pure_def, gt_iff_lt, ge_iff_le, beq_true, beq_false, Bool.not_true, Bool.not_false, Bool.true_and, Bool.false_and, Bool.and_true, Bool.and_false, Bool.true_or, Bool.false_or, Bool.or_true, Bool.or_false, vOpsX, vOpX, List.isEmpty_toArray, List.isEmpty_nil, List.isEmpty_cons, List.all_nil, List.all_cons, beq_self_eq_true, bne_self_eq_false, Int.reduceBEq, Int.reduceBNe, un3, un4, un21, un22, un27, un30, un31, sz3, sz30, sz36, ag3, ag30, ag36, zr30, zr36, fd36_1, fd36_4, h1, h2, h3, bne_self_eq_false]
          refine wpc_cond (b := true) (by simp only [vOps, vOp, stepOp, deferC, evalO, evalOs, evalOo, partsD, okD, okH, okU, wantD, dstOk, putO_some, putO_none, put_at, df_put, ofV, ofArgs, List.getD_cons_zero, List.getD_cons_succ, List.getD_nil, Option.map_some, Option.map_none, Option.bind_some, Option.bind_none, true_and, and_true, SeqQ_norm, SeqQ_exit, SeqQ_ret, SeqQ_pan, BlkQ_norm, BlkQ_exit, BlkQ_ret, BlkQ_pan, RetQ_norm, RetQ_ret, RetQ_pan, Nat.reduceEqDiff, Nat.reduceLT, Nat.reduceAdd, Nat.reduceMul, Nat.reduceSub, Nat.reduceBEq, reduceCtorEq, ↓reduceIte, decide_true, decide_false, Bool.false_eq_true, eq_self, if_false, if_true, resD, oneD_one, outPure_int, outPure_bool, List.getElem?_toArray, List.getElem?_cons_zero, List.getElem?_cons_succ, List.size_toArray, List.length_cons, List.length_nil, binD, intBin, unD, convD, builtinD, lenD, indexAddrD, inRange, loadD, storeD, moveP, newOb, partE, partD, setE, spliceL, noTup, aggQ, D.cells, hget_app0, hget_app, hget_cons0, hget_consS, set_app0, set_app, List.set_cons_zero, List.set_cons_succ, and_self, List.length_map, List.getElem?_map, Int.natCast_nonneg, Int.ofNat_lt, Int.toNat_natCast, List.append_nil, List.nil_append, List.cons_append, List.drop_zero, List.drop_succ_cons, List.take_succ_cons, List.take_zero, Nat.zero_add, Nat.add_zero, Nat.zero_mul, Int.toNat_zero, Int.reduceLT, Int.reduceLE, Int.reduceToNat, Nat.reduceLeDiff, Int.reduceEq, Int.reduceNe, Int.reduceNeg, Option.bind_eq_bind, Option.pure_def, gt_iff_lt, ge_iff_le, beq_true, beq_false, Bool.not_true, Bool.not_false, Bool.true_and, Bool.false_and, Bool.and_true, Bool.and_false, Bool.true_or, Bool.false_or, Bool.or_true, Bool.or_false, vOpsX, vOpX, List.isEmpty_toArray, List.isEmpty_nil, List.isEmpty_cons, List.all_nil, List.all_cons, beq_self_eq_true, bne_self_eq_false, Int.reduceBEq, Int.reduceBNe]) (fun hb => wpc_seq (wpc_region ?_)) (fun hb => by cases hb)
          simp only [vOps, vOp, stepOp, deferC, evalO, evalOs, evalOo, partsD, okD, okH, okU, wantD, dstOk, putO_some, putO_none, put_at, df_put, ofV, ofArgs, List.getD_cons_zero, List.getD_cons_succ, List.getD_nil, Option.map_some, Option.map_none, Option.bind_some, Option.bind_none, true_and, and_true, SeqQ_norm, SeqQ_exit, SeqQ_ret, SeqQ_pan, BlkQ_norm, BlkQ_exit, BlkQ_ret, BlkQ_pan, RetQ_norm, RetQ_ret, RetQ_pan, Nat.reduceEqDiff, Nat.reduceLT, Nat.reduceAdd, Nat.reduceMul, Nat.reduceSub, Nat.reduceBEq, reduceCtorEq, ↓reduceIte, decide_true, decide_false, Bool.false_eq_true, eq_self, if_false, if_true, resD, oneD_one, outPure_int, outPure_bool, List.getElem?_toArray, List.getElem?_cons_zero, List.getElem?_cons_succ, List.size_toArray, List.length_cons, List.length_nil, binD, intBin, unD, convD, builtinD, lenD, indexAddrD, inRange, loadD, storeD, moveP, newOb, partE, partD, setE, spliceL, noTup, aggQ, D.cells, hget_app0, hget_app, hget_cons0, hget_consS, set_app0, set_app, List.set_cons_zero, List.set_cons_succ, and_self, List.length_map, List.getElem?_map, Int.natCast_nonneg, Int.ofNat_lt, Int.toNat_natCast, List.append_nil, List.nil_append, List.cons_append, List.drop_zero, List.drop_succ_cons, List.take_succ_cons, List.take_zero, Nat.zero_add, Nat.add_zero, Nat.zero_mul, Int.toNat_zero, Int.reduceLT, Int.reduceLE, Int.reduceToNat, Nat.reduceLeDiff, Int.reduceEq, Int.reduceNe, Int.reduceNeg, Option.bind_eq_bind, Option.pure_def, gt_iff_lt, ge_iff_le, beq_true, beq_false, Bool.not_true, Bool.not_false, Bool.true_and, Bool.false_and, Bool.and_true, Bool.and_false, Bool.true_or, Bool.false_or, Bool.or_true, Bool.or_false, vOpsX, vOpX, List.isEmpty_toArray, List.isEmpty_nil, List.isEmpty_cons, List.all_nil, List.all_cons, beq_self_eq_true, bne_self_eq_false, Int.reduceBEq, Int.reduceBNe]
          refine wpc_ret ?_
          simp only [vOps, vOp, stepOp, deferC, evalO, evalOs, evalOo, partsD, okD, okH, okU, wantD, dstOk, putO_some, putO_none, put_at, df_put, ofV, ofArgs, List.getD_cons_zero, List.getD_cons_succ, List.getD_nil, Option.map_some, Option.map_none, Option.bind_some, Option.bind_none, true_and, and_true, SeqQ_norm, SeqQ_exit, SeqQ_ret, SeqQ_pan, BlkQ_norm, BlkQ_exit, BlkQ_ret, BlkQ_pan, RetQ_norm, RetQ_ret, RetQ_pan, Nat.reduceEqDiff, Nat.reduceLT, Nat.reduceAdd, Nat.reduceMul, Nat.reduceSub, Nat.reduceBEq, reduceCtorEq, ↓reduceIte, decide_true, decide_false, Bool.false_eq_true, eq_self, if_false, if_true, resD, oneD_one, outPure_int, outPure_bool, List.getElem?_toArray, List.getElem?_cons_zero, List.getElem?_cons_succ, List.size_toArray, List.length_cons, List.length_nil, binD, intBin, unD, convD, builtinD, lenD, indexAddrD, inRange, loadD, storeD, moveP, newOb, partE, partD, setE, spliceL, noTup, aggQ, D.cells, hget_app0, hget_app, hget_cons0, hget_consS, set_app0, set_app, List.set_cons_zero, List.set_cons_succ, and_self, List.length_map, List.getElem?_map, Int.natCast_nonneg, Int.ofNat_lt, Int.toNat_natCast, List.append_nil, List.nil_append, List.cons_append, List.drop_zero, List.drop_succ_cons, List.take_succ_cons, List.take_zero, Nat.zero_add, Nat.add_zero, Nat.zero_mul, Int.toNat_zero, Int.reduceLT, Int.reduceLE, Int.reduceToNat, Nat.reduceLeDiff, Int.reduceEq, Int.reduceNe, Int.reduceNeg, Option.bind_eq_bind, Option.pure_def, gt_iff_lt, ge_iff_le, beq_true, beq_false, Bool.not_true, Bool.not_false, Bool.true_and, Bool.false_and, Bool.and_true, Bool.and_false, Bool.true_or, Bool.false_or, Bool.or_true, Bool.or_false, vOpsX, vOpX, List.isEmpty_toArray, List.isEmpty_nil, List.isEmpty_cons, List.all_nil, List.all_cons, beq_self_eq_true, bne_self_eq_false, Int.reduceBEq, Int.reduceBNe, ownerOf, h1, h2, h3]
          simp
        · simp only [vOps, vOp, stepOp, deferC, evalO, evalOs, evalOo, partsD, okD, okH, okU, wantD, dstOk, putO_some, putO_none, put_at, df_put, ofV, ofArgs, List.getD_cons_zero, List.getD_cons_succ, List.getD_nil, Option.map_some, Option.map_none, Option.bind_some, Option.bind_none, true_and, and_true, SeqQ_norm, SeqQ_exit, SeqQ_ret, SeqQ_pan, BlkQ_norm, BlkQ_exit, BlkQ_ret, BlkQ_pan, RetQ_norm, RetQ_ret, RetQ_pan, Nat.reduceEqDiff, Nat.reduceLT, Nat.reduceAdd, Nat.reduceMul, Nat.reduceSub, Nat.reduceBEq, reduceCtorEq, ↓reduceIte, decide_true, decide_false, Bool.false_eq_true, eq_self, if_false, if_true, resD, oneD_one, outPure_int, outPure_bool, List.getElem?_toArray, List.getElem?_cons_zero, List.getElem?_cons_succ, List.size_toArray, List.length_cons, List.length_nil, binD, intBin, unD, convD, builtinD, lenD, indexAddrD, inRange, loadD, storeD, moveP, newOb, partE, partD, setE, spliceL, noTup, aggQ, D.cells, hget_app0, hget_app, hget_cons0, hget_consS, set_app0, set_app, List.set_cons_zero, List.set_cons_succ, and_self, List.length_map, List.getElem?_map, Int.natCast_nonneg, Int.ofNat_lt, Int.toNat_natCast, List.append_nil, List.nil_append, List.cons_append, List.drop_zero, List.drop_succ_cons, List.take_succ_cons, List.take_zero, Nat.zero_add, Nat.add_zero, Nat.zero_mul, Int.toNat_zero, Int.reduceLT, Int.reduceLE, Int.reduceToNat, Nat.reduceLeDiff, Int.reduceEq, Int.reduceNe, Int.reduceNeg, Option.bind_eq_bind, Option.pure_def, gt_iff_lt, ge_iff_le, beq_true, beq_false, Bool.not_true, Bool.not_false, Bool.true_and, Bool.false_and, Bool.and_true, Bool.and_false, Bool.true_or, Bool.false_or, Bool.or_true, Bool.or_false, vOpsX, vOpX, List.isEmpty_toArray, List.isEmpty_nil, List.isEmpty_cons, List.all_nil, List.all_cons, beq_self_eq_true, bne_self_eq_false, Int.reduceBEq, Int.reduceBNe, un3, un4, un21, un22, un27, un30, un31, sz3, sz30, sz36, ag3, ag30, ag36, zr30, zr36, fd36_1, fd36_4, h1, h2, h3, bne_self_eq_false]
          refine wpc_cond (b := false) (by simp only [vOps, vOp, stepOp, deferC, evalO, evalOs, evalOo, partsD, okD, okH, okU, wantD, dstOk, putO_some, putO_none, put_at, df_put, ofV, ofArgs, List.getD_cons_zero, List.getD_cons_succ, List.getD_nil, Option.map_some, Option.map_none, Option.bind_some, Option.bind_none, true_and, and_true, SeqQ_norm, SeqQ_exit, SeqQ_ret, SeqQ_pan, BlkQ_norm, BlkQ_exit, BlkQ_ret, BlkQ_pan, RetQ_norm, RetQ_ret, RetQ_pan, Nat.reduceEqDiff, Nat.reduceLT, Nat.reduceAdd, Nat.reduceMul, Nat.reduceSub, Nat.reduceBEq, reduceCtorEq, ↓reduceIte, decide_true, decide_false, Bool.false_eq_true, eq_self, if_false, if_true, resD, oneD_one, outPure_int, outPure_bool, List.getElem?_toArray, List.getElem?_cons_zero, List.getElem?_cons_succ, List.size_toArray, List.length_cons, List.length_nil, binD, intBin, unD, convD, builtinD, lenD, indexAddrD, inRange, loadD, storeD, moveP, newOb, partE, partD, setE, spliceL, noTup, aggQ, D.cells, hget_app0, hget_app, hget_cons0, hget_consS, set_app0, set_app, List.set_cons_zero, List.set_cons_succ, and_self, List.length_map, List.getElem?_map, Int.natCast_nonneg, Int.ofNat_lt, Int.toNat_natCast, List.append_nil, List.nil_append, List.cons_append, List.drop_zero, List.drop_succ_cons, List.take_succ_cons, List.take_zero, Nat.zero_add, Nat.add_zero, Nat.zero_mul, Int.toNat_zero, Int.reduceLT, Int.reduceLE, Int.reduceToNat, Nat.reduceLeDiff, Int.reduceEq, Int.reduceNe, Int.reduceNeg, Option.bind_eq_bind, Option.pure_def, gt_iff_lt, ge_iff_le, beq_true, beq_false, Bool.not_true, Bool.not_false, Bool.true_and, Bool.false_and, Bool.and_true, Bool.and_false, Bool.true_or, Bool.false_or, Bool.or_true, Bool.or_false, vOpsX, vOpX, List.isEmpty_toArray, List.isEmpty_nil, List.isEmpty_cons, List.all_nil, List.all_cons, beq_self_eq_true, bne_self_eq_false, Int.reduceBEq, Int.reduceBNe]) (fun hb => by cases hb) (fun hb => wpc_skip ?_)
          simp only [vOps, vOp, stepOp, deferC, evalO, evalOs, evalOo, partsD, okD, okH, okU, wantD, dstOk, putO_some, putO_none, put_at, df_put, ofV, ofArgs, List.getD_cons_zero, List.getD_cons_succ, List.getD_nil, Option.map_some, Option.map_none, Option.bind_some, Option.bind_none, true_and, and_true, SeqQ_norm, SeqQ_exit, SeqQ_ret, SeqQ_pan, BlkQ_norm, BlkQ_exit, BlkQ_ret, BlkQ_pan, RetQ_norm, RetQ_ret, RetQ_pan, Nat.reduceEqDiff, Nat.reduceLT, Nat.reduceAdd, Nat.reduceMul, Nat.reduceSub, Nat.reduceBEq, reduceCtorEq, ↓reduceIte, decide_true, decide_false, Bool.false_eq_true, eq_self, if_false, if_true, resD, oneD_one, outPure_int, outPure_bool, List.getElem?_toArray, List.getElem?_cons_zero, List.getElem?_cons_succ, List.size_toArray, List.length_cons, List.length_nil, binD, intBin, unD, convD, builtinD, lenD, indexAddrD, inRange, loadD, storeD, moveP, newOb, partE, partD, setE, spliceL, noTup, aggQ, D.cells, hget_app0, hget_app, hget_cons0, hget_consS, set_app0, set_app, List.set_cons_zero, List.set_cons_succ, and_self, List.length_map, List.getElem?_map, Int.natCast_nonneg, Int.ofNat_lt, Int.toNat_natCast, List.append_nil, List.nil_append, List.cons_append, List.drop_zero, List.drop_succ_cons, List.take_succ_cons, List.take_zero, Nat.zero_add, Nat.add_zero, Nat.zero_mul, Int.toNat_zero, Int.reduceLT, Int.reduceLE, Int.reduceToNat, Nat.reduceLeDiff, Int.reduceEq, Int.reduceNe, Int.reduceNeg, Option.bind_eq_bind, Option.pure_def, gt_iff_lt, ge_iff_le, beq_true, beq_false, Bool.not_true, Bool.not_false, Bool.true_and, Bool.false_and, Bool.and_true, Bool.and_false, Bool.true_or, Bool.false_or, Bool.or_true, Bool.or_false, vOpsX, vOpX, List.isEmpty_toArray, List.isEmpty_nil, List.isEmpty_cons, List.all_nil, List.all_cons, beq_self_eq_true, bne_self_eq_false, Int.reduceBEq, Int.reduceBNe]
          simp
    · have h1' : (checkOf l c != 0) = true := by simpa using h1
      simp only [vOps, vOp, stepOp, deferC, evalO, evalOs, evalOo, partsD, okD, okH, okU, wantD, dstOk, putO_some, putO_none, put_at, df_put, ofV, ofArgs, List.getD_cons_zero, List.getD_cons_succ, List.getD_nil, Option.map_some, Option.map_none, Option.bind_some, Option.bind_none, true_and, and_true, SeqQ_norm, SeqQ_exit, SeqQ_ret, SeqQ_pan, BlkQ_norm, BlkQ_exit, BlkQ_ret, BlkQ_pan, RetQ_norm, RetQ_ret, RetQ_pan, Nat.reduceEqDiff, Nat.reduceLT, Nat.reduceAdd, Nat.reduceMul, Nat.reduceSub, Nat.reduceBEq, reduceCtorEq, ↓reduceIte, decide_true, decide_false, Bool.false_eq_true, eq_self, if_false, if_true, resD, oneD_one, outPure_int, outPure_bool, List.getElem?_toArray, List.getElem?_cons_zero, List.getElem?_cons_succ, List.size_toArray, List.length_cons, List.length_nil, binD, intBin, unD, convD, builtinD, lenD, indexAddrD, inRange, loadD, storeD, moveP, newOb, partE, partD, setE, spliceL, noTup, aggQ, D.cells, hget_app0, hget_app, hget_cons0, hget_consS, set_app0, set_app, List.set_cons_zero, List.set_cons_succ, and_self, List.length_map, List.getElem?_map, Int.natCast_nonneg, Int.ofNat_lt, Int.toNat_natCast, List.append_nil, List.nil_append, List.cons_append, List.drop_zero, List.drop_succ_cons, List.take_succ_cons, List.take_zero, Nat.zero_add, Nat.add_zero, Nat.zero_mul, Int.toNat_zero, Int.reduceLT, Int.reduceLE, Int.reduceToNat, Nat.reduceLeDiff, Int.reduceEq, Int.reduceNe, Int.reduceNeg, Option.bind_eq_bind, Option.pure_def, gt_iff_lt, ge_iff_le, beq_true, beq_false, Bool.not_true, Bool.not_false, Bool.true_and, Bool.false_and, Bool.and_true, Bool.and_false, Bool.true_or, Bool.false_or, Bool.or_true, Bool.or_false, vOpsX, vOpX, List.isEmpty_toArray, List.isEmpty_nil, List.isEmpty_cons, List.all_nil, List.all_cons, beq_self_eq_true, bne_self_eq_false, Int.reduceBEq, Int.reduceBNe, un3, un4, un21, un22, un27, un30, un31, sz3, sz30, sz36, ag3, ag30, ag36, zr30, zr36, fd36_1, fd36_4, h1']
      refine wpc_cond (b := true) (by simp only [vOps, vOp, stepOp, deferC, evalO, evalOs, evalOo, partsD, okD, okH, okU, wantD, dstOk, putO_some, putO_none, put_at, df_put, ofV, ofArgs, List.getD_cons_zero, List.getD_cons_succ, List.getD_nil, Option.map_some, Option.map_none, Option.bind_some, Option.bind_none, true_and, and_true, SeqQ_norm, SeqQ_exit, SeqQ_ret, SeqQ_pan, BlkQ_norm, BlkQ_exit, BlkQ_ret, BlkQ_pan, RetQ_norm, RetQ_ret, RetQ_pan, Nat.reduceEqDiff, Nat.reduceLT, Nat.reduceAdd, Nat.reduceMul, Nat.reduceSub, Nat.reduceBEq, reduceCtorEq, ↓reduceIte, decide_true, decide_false, Bool.false_eq_true, eq_self, if_false, if_true, resD, oneD_one, outPure_int, outPure_bool, List.getElem?_toArray, List.getElem?_cons_zero, List.getElem?_cons_succ, List.size_toArray, List.length_cons, List.length_nil, binD, intBin, unD, convD, builtinD, lenD, indexAddrD, inRange, loadD, storeD, moveP, newOb, partE, partD, setE, spliceL, noTup, aggQ, D.cells, hget_app0, hget_app, hget_cons0, hget_consS, set_app0, set_app, List.set_cons_zero, List.set_cons_succ, and_self, List.length_map, List.getElem?_map, Int.natCast_nonneg, Int.ofNat_lt, Int.toNat_natCast, List.append_nil, List.nil_append, List.cons_append, List.drop_zero, List.drop_succ_cons, List.take_succ_cons, List.take_zero, Nat.zero_add, Nat.add_zero, Nat.zero_mul, Int.toNat_zero, Int.reduceLT, Int.reduceLE, Int.reduceToNat, Nat.reduceLeDiff, Int.reduceEq, Int.reduceNe, Int.reduceNeg, Option.bind_eq_bind, Option.pure_def, gt_iff_lt, ge_iff_le, beq_true, beq_false, Bool.not_true, Bool.not_false, Bool.true_and, Bool.false_and, Bool.and_true, Bool.and_false, Bool.true_or, Bool.false_or, Bool.or_true, Bool.or_false, vOpsX, vOpX, List.isEmpty_toArray, List.isEmpty_nil, List.isEmpty_cons, List.all_nil, List.all_cons, beq_self_eq_true, bne_self_eq_false, Int.reduceBEq, Int.reduceBNe]) (fun hb => wpc_seq (wpc_region ?_)) (fun hb => by cases hb)
      simp only [vOps, vOp, stepOp, deferC, evalO, evalOs, evalOo, partsD, okD, okH, okU, wantD, dstOk, putO_some, putO_none, put_at, df_put, ofV, ofArgs, List.getD_cons_zero, List.getD_cons_succ, List.getD_nil, Option.map_some, Option.map_none, Option.bind_some, Option.bind_none, true_and, and_true, SeqQ_norm, SeqQ_exit, SeqQ_ret, SeqQ_pan, BlkQ_norm, BlkQ_exit, BlkQ_ret, BlkQ_pan, RetQ_norm, RetQ_ret, RetQ_pan, Nat.reduceEqDiff, Nat.reduceLT, Nat.reduceAdd, Nat.reduceMul, Nat.reduceSub, Nat.reduceBEq, reduceCtorEq, ↓reduceIte, decide_true, decide_false, Bool.false_eq_true, eq_self, if_false, if_true, resD, oneD_one, outPure_int, outPure_bool, List.getElem?_toArray, List.getElem?_cons_zero, List.getElem?_cons_succ, List.size_toArray, List.length_cons, List.length_nil, binD, intBin, unD, convD, builtinD, lenD, indexAddrD, inRange, loadD, storeD, moveP, newOb, partE, partD, setE, spliceL, noTup, aggQ, D.cells, hget_app0, hget_app, hget_cons0, hget_consS, set_app0, set_app, List.set_cons_zero, List.set_cons_succ, and_self, List.length_map, List.getElem?_map, Int.natCast_nonneg, Int.ofNat_lt, Int.toNat_natCast, List.append_nil, List.nil_append, List.cons_append, List.drop_zero, List.drop_succ_cons, List.take_succ_cons, List.take_zero, Nat.zero_add, Nat.add_zero, Nat.zero_mul, Int.toNat_zero, Int.reduceLT, Int.reduceLE, Int.reduceToNat, Nat.reduceLeDiff, Int.reduceEq, Int.reduceNe, Int.reduceNeg, Option.bind_eq_bind, Option.pure_def, gt_iff_lt, ge_iff_le, beq_true, beq_false, Bool.not_true, Bool.not_false, Bool.true_and, Bool.false_and, Bool.and_true, Bool.and_false, Bool.true_or, Bool.false_or, Bool.or_true, Bool.or_false, vOpsX, vOpX, List.isEmpty_toArray, List.isEmpty_nil, List.isEmpty_cons, List.all_nil, List.all_cons, beq_self_eq_true, bne_self_eq_false, Int.reduceBEq, Int.reduceBNe]
      refine wpc_ret ?_
      simp only [vOps, vOp, stepOp, deferC, evalO, evalOs, evalOo, partsD, okD, okH, okU, wantD, dstOk, putO_some, putO_none, put_at, df_put, ofV, ofArgs, List.getD_cons_zero, List.getD_cons_succ, List.getD_nil, Option.map_some, Option.map_none, Option.bind_some, Option.bind_none, true_and, and_true, SeqQ_norm, SeqQ_exit, SeqQ_ret, SeqQ_pan, BlkQ_norm, BlkQ_exit, BlkQ_ret, BlkQ_pan, RetQ_norm, RetQ_ret, RetQ_pan, Nat.reduceEqDiff, Nat.reduceLT, Nat.reduceAdd, Nat.reduceMul, Nat.reduceSub, Nat.reduceBEq, reduceCtorEq, ↓reduceIte, decide_true, decide_false, Bool.false_eq_true, eq_self, if_false, if_true, resD, oneD_one, outPure_int, outPure_bool, List.getElem?_toArray, List.getElem?_cons_zero, List.getElem?_cons_succ, List.size_toArray, List.length_cons, List.length_nil, binD, intBin, unD, convD, builtinD, lenD, indexAddrD, inRange, loadD, storeD, moveP, newOb, partE, partD, setE, spliceL, noTup, aggQ, D.cells, hget_app0, hget_app, hget_cons0, hget_consS, set_app0, set_app, List.set_cons_zero, List.set_cons_succ, and_self, List.length_map, List.getElem?_map, Int.natCast_nonneg, Int.ofNat_lt, Int.toNat_natCast, List.append_nil, List.nil_append, List.cons_append, List.drop_zero, List.drop_succ_cons, List.take_succ_cons, List.take_zero, Nat.zero_add, Nat.add_zero, Nat.zero_mul, Int.toNat_zero, Int.reduceLT, Int.reduceLE, Int.reduceToNat, Nat.reduceLeDiff, Int.reduceEq, Int.reduceNe, Int.reduceNeg, Option.bind_eq_bind, Option.pure_def, gt_iff_lt, ge_iff_le, beq_true, beq_false, Bool.not_true, Bool.not_false, Bool.true_and, Bool.false_and, Bool.and_true, Bool.and_false, Bool.true_or, Bool.false_or, Bool.or_true, Bool.or_false, vOpsX, vOpX, List.isEmpty_toArray, List.isEmpty_nil, List.isEmpty_cons, List.all_nil, List.all_cons, beq_self_eq_true, bne_self_eq_false, Int.reduceBEq, Int.reduceBNe, ownerOf]
      simp [h1]
  · rintro e H ⟨h0, h1, h2, h7, hn⟩
    refine wpc_seq ?_
    refine wpc_seq (wpc_region ?_)
    simp only [vOps, vOp, stepOp, deferC, evalO, evalOs, evalOo, partsD, okD, okH, okU, wantD, dstOk, putO_some, putO_none, put_at, df_put, ofV, ofArgs, List.getD_cons_zero, List.getD_cons_succ, List.getD_nil, Option.map_some, Option.map_none, Option.bind_some, Option.bind_none, true_and, and_true, SeqQ_norm, SeqQ_exit, SeqQ_ret, SeqQ_pan, BlkQ_norm, BlkQ_exit, BlkQ_ret, BlkQ_pan, RetQ_norm, RetQ_ret, RetQ_pan, Nat.reduceEqDiff, Nat.reduceLT, Nat.reduceAdd, Nat.reduceMul, Nat.reduceSub, Nat.reduceBEq, reduceCtorEq, ↓reduceIte, decide_true, decide_false, Bool.false_eq_true, eq_self, if_false, if_true, resD, oneD_one, outPure_int, outPure_bool, List.getElem?_toArray, List.getElem?_cons_zero, List.getElem?_cons_succ, List.size_toArray, List.length_cons, List.length_nil, binD, intBin, unD, convD, builtinD, lenD, indexAddrD, inRange, loadD, storeD, moveP, newOb, partE, partD, setE, spliceL, noTup, aggQ, D.cells, hget_app0, hget_app, hget_cons0, hget_consS, set_app0, set_app, List.set_cons_zero, List.set_cons_succ, and_self, List.length_map, List.getElem?_map, Int.natCast_nonneg, Int.ofNat_lt, Int.toNat_natCast, List.append_nil, List.nil_append, List.cons_append, List.drop_zero, List.drop_succ_cons, List.take_succ_cons, List.take_zero, Nat.zero_add, Nat.add_zero, Nat.zero_mul, Int.toNat_zero, Int.reduceLT, Int.reduceLE, Int.reduceToNat, Nat.reduceLeDiff, Int.reduceEq, Int.reduceNe, Int.reduceNeg, Option.bind_eq_bind, Option.pure_def, gt_iff_lt, ge_iff_le, beq_true, beq_false, Bool.not_true, Bool.not_false, Bool.true_and, Bool.false_and, Bool.and_true, Bool.and_false, Bool.true_or, Bool.false_or, Bool.or_true, Bool.or_false, vOpsX, vOpX, List.isEmpty_toArray, List.isEmpty_nil, List.isEmpty_cons, List.all_nil, List.all_cons, beq_self_eq_true, bne_self_eq_false, Int.reduceBEq, Int.reduceBNe]
    refine wpc_block ?_
    refine wpc_loop (fun e H => ∃ k : Nat, k ≤ l.length ∧ e 0 = glD l ∧ e 2 = .int .i64 i ∧ e 8 = .int .i64 k ∧ e 7 = .int .i64 (own (l.take k) i (-1))) (fun e H => l.length - natOf (e 8)) ?_ ?_
    · refine ⟨0, Nat.zero_le _, ?_⟩
      simp only [vOps, vOp, stepOp, deferC, evalO, evalOs, evalOo, partsD, okD, okH, okU, wantD, dstOk, putO_some, putO_none, put_at, df_put, ofV, ofArgs, List.getD_cons_zero, List.getD_cons_succ, List.getD_nil, Option.map_some, Option.map_none, Option.bind_some, Option.bind_none, true_and, and_true, SeqQ_norm, SeqQ_exit, SeqQ_ret, SeqQ_pan, BlkQ_norm, BlkQ_exit, BlkQ_ret, BlkQ_pan, RetQ_norm, RetQ_ret, RetQ_pan, Nat.reduceEqDiff, Nat.reduceLT, Nat.reduceAdd, Nat.reduceMul, Nat.reduceSub, Nat.reduceBEq, reduceCtorEq, ↓reduceIte, decide_true, decide_false, Bool.false_eq_true, eq_self, if_false, if_true, resD, oneD_one, outPure_int, outPure_bool, List.getElem?_toArray, List.getElem?_cons_zero, List.getElem?_cons_succ, List.size_toArray, List.length_cons, List.length_nil, binD, intBin, unD, convD, builtinD, lenD, indexAddrD, inRange, loadD, storeD, moveP, newOb, partE, partD, setE, spliceL, noTup, aggQ, D.cells, hget_app0, hget_app, hget_cons0, hget_consS, set_app0, set_app, List.set_cons_zero, List.set_cons_succ, and_self, List.length_map, List.getElem?_map, Int.natCast_nonneg, Int.ofNat_lt, Int.toNat_natCast, List.append_nil, List.nil_append, List.cons_append, List.drop_zero, List.drop_succ_cons, List.take_succ_cons, List.take_zero, Nat.zero_add, Nat.add_zero, Nat.zero_mul, Int.toNat_zero, Int.reduceLT, Int.reduceLE, Int.reduceToNat, Nat.reduceLeDiff, Int.reduceEq, Int.reduceNe, Int.reduceNeg, Option.bind_eq_bind, Option.pure_def, gt_iff_lt, ge_iff_le, beq_true, beq_false, Bool.not_true, Bool.not_false, Bool.true_and, Bool.false_and, Bool.and_true, Bool.and_false, Bool.true_or, Bool.false_or, Bool.or_true, Bool.or_false, vOpsX, vOpX, List.isEmpty_toArray, List.isEmpty_nil, List.isEmpty_cons, List.all_nil, List.all_cons, beq_self_eq_true, bne_self_eq_false, Int.reduceBEq, Int.reduceBNe, h0, h2, h7, own]
      simp
    · rintro e H ⟨k, hk, h0, h2, h8, h7⟩
      refine wpc_seq (wpc_seq (wpc_region ?_))
      simp only [vOps, vOp, stepOp, deferC, evalO, evalOs, evalOo, partsD, okD, okH, okU, wantD, dstOk, putO_some, putO_none, put_at, df_put, ofV, ofArgs, List.getD_cons_zero, List.getD_cons_succ, List.getD_nil, Option.map_some, Option.map_none, Option.bind_some, Option.bind_none, true_and, and_true, SeqQ_norm, SeqQ_exit, SeqQ_ret, SeqQ_pan, BlkQ_norm, BlkQ_exit, BlkQ_ret, BlkQ_pan, RetQ_norm, RetQ_ret, RetQ_pan, Nat.reduceEqDiff, Nat.reduceLT, Nat.reduceAdd, Nat.reduceMul, Nat.reduceSub, Nat.reduceBEq, reduceCtorEq, ↓reduceIte, decide_true, decide_false, Bool.false_eq_true, eq_self, if_false, if_true, resD, oneD_one, outPure_int, outPure_bool, List.getElem?_toArray, List.getElem?_cons_zero, List.getElem?_cons_succ, List.size_toArray, List.length_cons, List.length_nil, binD, intBin, unD, convD, builtinD, lenD, indexAddrD, inRange, loadD, storeD, moveP, newOb, partE, partD, setE, spliceL, noTup, aggQ, D.cells, hget_app0, hget_app, hget_cons0, hget_consS, set_app0, set_app, List.set_cons_zero, List.set_cons_succ, and_self, List.length_map, List.getElem?_map, Int.natCast_nonneg, Int.ofNat_lt, Int.toNat_natCast, List.append_nil, List.nil_append, List.cons_append, List.drop_zero, List.drop_succ_cons, List.take_succ_cons, List.take_zero, Nat.zero_add, Nat.add_zero, Nat.zero_mul, Int.toNat_zero, Int.reduceLT, Int.reduceLE, Int.reduceToNat, Nat.reduceLeDiff, Int.reduceEq, Int.reduceNe, Int.reduceNeg, Option.bind_eq_bind, Option.pure_def, gt_iff_lt, ge_iff_le, beq_true, beq_false, Bool.not_true, Bool.not_false, Bool.true_and, Bool.false_and, Bool.and_true, Bool.and_false, Bool.true_or, Bool.false_or, Bool.or_true, Bool.or_false, vOpsX, vOpX, List.isEmpty_toArray, List.isEmpty_nil, List.isEmpty_cons, List.all_nil, List.all_cons, beq_self_eq_true, bne_self_eq_false, Int.reduceBEq, Int.reduceBNe, un3, un4, un21, un22, un27, un30, un31, sz3, sz30, sz36, ag3, ag30, ag36, zr30, zr36, fd36_1, fd36_4, h0, h8, glD]
      refine wpc_cond (b := decide (k < l.length)) (by simp only [vOps, vOp, stepOp, deferC, evalO, evalOs, evalOo, partsD, okD, okH, okU, wantD, dstOk, putO_some, putO_none, put_at, df_put, ofV, ofArgs, List.getD_cons_zero, List.getD_cons_succ, List.getD_nil, Option.map_some, Option.map_none, Option.bind_some, Option.bind_none, true_and, and_true, SeqQ_norm, SeqQ_exit, SeqQ_ret, SeqQ_pan, BlkQ_norm, BlkQ_exit, BlkQ_ret, BlkQ_pan, RetQ_norm, RetQ_ret, RetQ_pan, Nat.reduceEqDiff, Nat.reduceLT, Nat.reduceAdd, Nat.reduceMul, Nat.reduceSub, Nat.reduceBEq, reduceCtorEq, ↓reduceIte, decide_true, decide_false, Bool.false_eq_true, eq_self, if_false, if_true, resD, oneD_one, outPure_int, outPure_bool, List.getElem?_toArray, List.getElem?_cons_zero, List.getElem?_cons_succ, List.size_toArray, List.length_cons, List.length_nil, binD, intBin, unD, convD, builtinD, lenD, indexAddrD, inRange, loadD, storeD, moveP, newOb, partE, partD, setE, spliceL, noTup, aggQ, D.cells, hget_app0, hget_app, hget_cons0, hget_consS, set_app0, set_app, List.set_cons_zero, List.set_cons_succ, and_self, List.length_map, List.getElem?_map, Int.natCast_nonneg, Int.ofNat_lt, Int.toNat_natCast, List.append_nil, List.nil_append, List.cons_append, List.drop_zero, List.drop_succ_cons, List.take_succ_cons, List.take_zero, Nat.zero_add, Nat.add_zero, Nat.zero_mul, Int.toNat_zero, Int.reduceLT, Int.reduceLE, Int.reduceToNat, Nat.reduceLeDiff, Int.reduceEq, Int.reduceNe, Int.reduceNeg, Option.bind_eq_bind, Option.pure_def, gt_iff_lt, ge_iff_le, beq_true, beq_false, Bool.not_true, Bool.not_false, Bool.true_and, Bool.false_and, Bool.and_true, Bool.and_false, Bool.true_or, Bool.false_or, Bool.or_true, Bool.or_false, vOpsX, vOpX, List.isEmpty_toArray, List.isEmpty_nil, List.isEmpty_cons, List.all_nil, List.all_cons, beq_self_eq_true, bne_self_eq_false, Int.reduceBEq, Int.reduceBNe]) (fun hb => wpc_skip ?_) (fun hb => wpc_exit ?_)
      · simp only [vOps, vOp, stepOp, deferC, evalO, evalOs, evalOo, partsD, okD, okH, okU, wantD, dstOk, putO_some, putO_none, put_at, df_put, ofV, ofArgs, List.getD_cons_zero, List.getD_cons_succ, List.getD_nil, Option.map_some, Option.map_none, Option.bind_some, Option.bind_none, true_and, and_true, SeqQ_norm, SeqQ_exit, SeqQ_ret, SeqQ_pan, BlkQ_norm, BlkQ_exit, BlkQ_ret, BlkQ_pan, RetQ_norm, RetQ_ret, RetQ_pan, Nat.reduceEqDiff, Nat.reduceLT, Nat.reduceAdd, Nat.reduceMul, Nat.reduceSub, Nat.reduceBEq, reduceCtorEq, ↓reduceIte, decide_true, decide_false, Bool.false_eq_true, eq_self, if_false, if_true, resD, oneD_one, outPure_int, outPure_bool, List.getElem?_toArray, List.getElem?_cons_zero, List.getElem?_cons_succ, List.size_toArray, List.length_cons, List.length_nil, binD, intBin, unD, convD, builtinD, lenD, indexAddrD, inRange, loadD, storeD, moveP, newOb, partE, partD, setE, spliceL, noTup, aggQ, D.cells, hget_app0, hget_app, hget_cons0, hget_consS, set_app0, set_app, List.set_cons_zero, List.set_cons_succ, and_self, List.length_map, List.getElem?_map, Int.natCast_nonneg, Int.ofNat_lt, Int.toNat_natCast, List.append_nil, List.nil_append, List.cons_append, List.drop_zero, List.drop_succ_cons, List.take_succ_cons, List.take_zero, Nat.zero_add, Nat.add_zero, Nat.zero_mul, Int.toNat_zero, Int.reduceLT, Int.reduceLE, Int.reduceToNat, Nat.reduceLeDiff, Int.reduceEq, Int.reduceNe, Int.reduceNeg, Option.bind_eq_bind, Option.pure_def, gt_iff_lt, ge_iff_le, beq_true, beq_false, Bool.not_true, Bool.not_false, Bool.true_and, Bool.false_and, Bool.and_true, Bool.and_false, Bool.true_or, Bool.false_or, Bool.or_true, Bool.or_false, vOpsX, vOpX, List.isEmpty_toArray, List.isEmpty_nil, List.isEmpty_cons, List.all_nil, List.all_cons, beq_self_eq_true, bne_self_eq_false, Int.reduceBEq, Int.reduceBNe]
        have hlt : k < l.length := by simpa using hb
        have hx := List.getElem?_eq_getElem hlt
        have hw : IntKind.i64.wrap ((k : Int) + 1) = ((k + 1 : Nat) : Int) := by rw [wi64 (by omega) (by omega)]; omega
        refine wpc_seq (wpc_block (wpc_seq (wpc_region ?_)))
        simp only [vOps, vOp, stepOp, deferC, evalO, evalOs, evalOo, partsD, okD, okH, okU, wantD, dstOk, putO_some, putO_none, put_at, df_put, ofV, ofArgs, List.getD_cons_zero, List.getD_cons_succ, List.getD_nil, Option.map_some, Option.map_none, Option.bind_some, Option.bind_none, true_and, and_true, SeqQ_norm, SeqQ_exit, SeqQ_ret, SeqQ_pan, BlkQ_norm, BlkQ_exit, BlkQ_ret, BlkQ_pan, RetQ_norm, RetQ_ret, RetQ_pan, Nat.reduceEqDiff, Nat.reduceLT, Nat.reduceAdd, Nat.reduceMul, Nat.reduceSub, Nat.reduceBEq, reduceCtorEq, ↓reduceIte, decide_true, decide_false, Bool.false_eq_true, eq_self, if_false, if_true, resD, oneD_one, outPure_int, outPure_bool, List.getElem?_toArray, List.getElem?_cons_zero, List.getElem?_cons_succ, List.size_toArray, List.length_cons, List.length_nil, binD, intBin, unD, convD, builtinD, lenD, indexAddrD, inRange, loadD, storeD, moveP, newOb, partE, partD, setE, spliceL, noTup, aggQ, D.cells, hget_app0, hget_app, hget_cons0, hget_consS, set_app0, set_app, List.set_cons_zero, List.set_cons_succ, and_self, List.length_map, List.getElem?_map, Int.natCast_nonneg, Int.ofNat_lt, Int.toNat_natCast, List.append_nil, List.nil_append, List.cons_append, List.drop_zero, List.drop_succ_cons, List.take_succ_cons, List.take_zero, Nat.zero_add, Nat.add_zero, Nat.zero_mul, Int.toNat_zero, Int.reduceLT, Int.reduceLE, Int.reduceToNat, Nat.reduceLeDiff, Int.reduceEq, Int.reduceNe, Int.reduceNeg, Option.bind_eq_bind, Option.pure_def, gt_iff_lt, ge_iff_le, beq_true, beq_false, Bool.not_true, Bool.not_false, Bool.true_and, Bool.false_and, Bool.and_true, Bool.and_false, Bool.true_or, Bool.false_or, Bool.or_true, Bool.or_false, vOpsX, vOpX, List.isEmpty_toArray, List.isEmpty_nil, List.isEmpty_cons, List.all_nil, List.all_cons, beq_self_eq_true, bne_self_eq_false, Int.reduceBEq, Int.reduceBNe, un3, un4, un21, un22, un27, un30, un31, sz3, sz30, sz36, ag3, ag30, ag36, zr30, zr36, fd36_1, fd36_4, h0, h2, h8, glD, hlt, hx, Gl.d1]
        refine wpc_cond (b := decide (l[k].b ≤ i)) (by simp only [vOps, vOp, stepOp, deferC, evalO, evalOs, evalOo, partsD, okD, okH, okU, wantD, dstOk, putO_some, putO_none, put_at, df_put, ofV, ofArgs, List.getD_cons_zero, List.getD_cons_succ, List.getD_nil, Option.map_some, Option.map_none, Option.bind_some, Option.bind_none, true_and, and_true, SeqQ_norm, SeqQ_exit, SeqQ_ret, SeqQ_pan, BlkQ_norm, BlkQ_exit, BlkQ_ret, BlkQ_pan, RetQ_norm, RetQ_ret, RetQ_pan, Nat.reduceEqDiff, Nat.reduceLT, Nat.reduceAdd, Nat.reduceMul, Nat.reduceSub, Nat.reduceBEq, reduceCtorEq, ↓reduceIte, decide_true, decide_false, Bool.false_eq_true, eq_self, if_false, if_true, resD, oneD_one, outPure_int, outPure_bool, List.getElem?_toArray, List.getElem?_cons_zero, List.getElem?_cons_succ, List.size_toArray, List.length_cons, List.length_nil, binD, intBin, unD, convD, builtinD, lenD, indexAddrD, inRange, loadD, storeD, moveP, newOb, partE, partD, setE, spliceL, noTup, aggQ, D.cells, hget_app0, hget_app, hget_cons0, hget_consS, set_app0, set_app, List.set_cons_zero, List.set_cons_succ, and_self, List.length_map, List.getElem?_map, Int.natCast_nonneg, Int.ofNat_lt, Int.toNat_natCast, List.append_nil, List.nil_append, List.cons_append, List.drop_zero, List.drop_succ_cons, List.take_succ_cons, List.take_zero, Nat.zero_add, Nat.add_zero, Nat.zero_mul, Int.toNat_zero, Int.reduceLT, Int.reduceLE, Int.reduceToNat, Nat.reduceLeDiff, Int.reduceEq, Int.reduceNe, Int.reduceNeg, Option.bind_eq_bind, Option.pure_def, gt_iff_lt, ge_iff_le, beq_true, beq_false, Bool.not_true, Bool.not_false, Bool.true_and, Bool.false_and, Bool.and_true, Bool.and_false, Bool.true_or, Bool.false_or, Bool.or_true, Bool.or_false, vOpsX, vOpX, List.isEmpty_toArray, List.isEmpty_nil, List.isEmpty_cons, List.all_nil, List.all_cons, beq_self_eq_true, bne_self_eq_false, Int.reduceBEq, Int.reduceBNe]) (fun hb => wpc_region ?_) (fun hb => wpc_skip ?_)
        · simp only [vOps, vOp, stepOp, deferC, evalO, evalOs, evalOo, partsD, okD, okH, okU, wantD, dstOk, putO_some, putO_none, put_at, df_put, ofV, ofArgs, List.getD_cons_zero, List.getD_cons_succ, List.getD_nil, Option.map_some, Option.map_none, Option.bind_some, Option.bind_none, true_and, and_true, SeqQ_norm, SeqQ_exit, SeqQ_ret, SeqQ_pan, BlkQ_norm, BlkQ_exit, BlkQ_ret, BlkQ_pan, RetQ_norm, RetQ_ret, RetQ_pan, Nat.reduceEqDiff, Nat.reduceLT, Nat.reduceAdd, Nat.reduceMul, Nat.reduceSub, Nat.reduceBEq, reduceCtorEq, ↓reduceIte, decide_true, decide_false, Bool.false_eq_true, eq_self, if_false, if_true, resD, oneD_one, outPure_int, outPure_bool, List.getElem?_toArray, List.getElem?_cons_zero, List.getElem?_cons_succ, List.size_toArray, List.length_cons, List.length_nil, binD, intBin, unD, convD, builtinD, lenD, indexAddrD, inRange, loadD, storeD, moveP, newOb, partE, partD, setE, spliceL, noTup, aggQ, D.cells, hget_app0, hget_app, hget_cons0, hget_consS, set_app0, set_app, List.set_cons_zero, List.set_cons_succ, and_self, List.length_map, List.getElem?_map, Int.natCast_nonneg, Int.ofNat_lt, Int.toNat_natCast, List.append_nil, List.nil_append, List.cons_append, List.drop_zero, List.drop_succ_cons, List.take_succ_cons, List.take_zero, Nat.zero_add, Nat.add_zero, Nat.zero_mul, Int.toNat_zero, Int.reduceLT, Int.reduceLE, Int.reduceToNat, Nat.reduceLeDiff, Int.reduceEq, Int.reduceNe, Int.reduceNeg, Option.bind_eq_bind, Option.pure_def, gt_iff_lt, ge_iff_le, beq_true, beq_false, Bool.not_true, Bool.not_false, Bool.true_and, Bool.false_and, Bool.and_true, Bool.and_false, Bool.true_or, Bool.false_or, Bool.or_true, Bool.or_false, vOpsX, vOpX, List.isEmpty_toArray, List.isEmpty_nil, List.isEmpty_cons, List.all_nil, List.all_cons, beq_self_eq_true, bne_self_eq_false, Int.reduceBEq, Int.reduceBNe, un3, un4, un21, un22, un27, un30, un31, sz3, sz30, sz36, ag3, ag30, ag36, zr30, zr36, fd36_1, fd36_4, h0, h8, glD, hlt, hx, Gl.d1]
          refine wpc_region ?_
          simp only [vOps, vOp, stepOp, deferC, evalO, evalOs, evalOo, partsD, okD, okH, okU, wantD, dstOk, putO_some, putO_none, put_at, df_put, ofV, ofArgs, List.getD_cons_zero, List.getD_cons_succ, List.getD_nil, Option.map_some, Option.map_none, Option.bind_some, Option.bind_none, true_and, and_true, SeqQ_norm, SeqQ_exit, SeqQ_ret, SeqQ_pan, BlkQ_norm, BlkQ_exit, BlkQ_ret, BlkQ_pan, RetQ_norm, RetQ_ret, RetQ_pan, Nat.reduceEqDiff, Nat.reduceLT, Nat.reduceAdd, Nat.reduceMul, Nat.reduceSub, Nat.reduceBEq, reduceCtorEq, ↓reduceIte, decide_true, decide_false, Bool.false_eq_true, eq_self, if_false, if_true, resD, oneD_one, outPure_int, outPure_bool, List.getElem?_toArray, List.getElem?_cons_zero, List.getElem?_cons_succ, List.size_toArray, List.length_cons, List.length_nil, binD, intBin, unD, convD, builtinD, lenD, indexAddrD, inRange, loadD, storeD, moveP, newOb, partE, partD, setE, spliceL, noTup, aggQ, D.cells, hget_app0, hget_app, hget_cons0, hget_consS, set_app0, set_app, List.set_cons_zero, List.set_cons_succ, and_self, List.length_map, List.getElem?_map, Int.natCast_nonneg, Int.ofNat_lt, Int.toNat_natCast, List.append_nil, List.nil_append, List.cons_append, List.drop_zero, List.drop_succ_cons, List.take_succ_cons, List.take_zero, Nat.zero_add, Nat.add_zero, Nat.zero_mul, Int.toNat_zero, Int.reduceLT, Int.reduceLE, Int.reduceToNat, Nat.reduceLeDiff, Int.reduceEq, Int.reduceNe, Int.reduceNeg, Option.bind_eq_bind, Option.pure_def, gt_iff_lt, ge_iff_le, beq_true, beq_false, Bool.not_true, Bool.not_false, Bool.true_and, Bool.false_and, Bool.and_true, Bool.and_false, Bool.true_or, Bool.false_or, Bool.or_true, Bool.or_false, vOpsX, vOpX, List.isEmpty_toArray, List.isEmpty_nil, List.isEmpty_cons, List.all_nil, List.all_cons, beq_self_eq_true, bne_self_eq_false, Int.reduceBEq, Int.reduceBNe, h0, h2, h8, glD, hw]
          refine ⟨⟨k + 1, by omega, rfl, ?_⟩, ?_⟩
          · rw [own_take hx, if_pos (by simpa using hb)]
          · simp only [natOf_int]; omega
        · simp only [vOps, vOp, stepOp, deferC, evalO, evalOs, evalOo, partsD, okD, okH, okU, wantD, dstOk, putO_some, putO_none, put_at, df_put, ofV, ofArgs, List.getD_cons_zero, List.getD_cons_succ, List.getD_nil, Option.map_some, Option.map_none, Option.bind_some, Option.bind_none, true_and, and_true, SeqQ_norm, SeqQ_exit, SeqQ_ret, SeqQ_pan, BlkQ_norm, BlkQ_exit, BlkQ_ret, BlkQ_pan, RetQ_norm, RetQ_ret, RetQ_pan, Nat.reduceEqDiff, Nat.reduceLT, Nat.reduceAdd, Nat.reduceMul, Nat.reduceSub, Nat.reduceBEq, reduceCtorEq, ↓reduceIte, decide_true, decide_false, Bool.false_eq_true, eq_self, if_false, if_true, resD, oneD_one, outPure_int, outPure_bool, List.getElem?_toArray, List.getElem?_cons_zero, List.getElem?_cons_succ, List.size_toArray, List.length_cons, List.length_nil, binD, intBin, unD, convD, builtinD, lenD, indexAddrD, inRange, loadD, storeD, moveP, newOb, partE, partD, setE, spliceL, noTup, aggQ, D.cells, hget_app0, hget_app, hget_cons0, hget_consS, set_app0, set_app, List.set_cons_zero, List.set_cons_succ, and_self, List.length_map, List.getElem?_map, Int.natCast_nonneg, Int.ofNat_lt, Int.toNat_natCast, List.append_nil, List.nil_append, List.cons_append, List.drop_zero, List.drop_succ_cons, List.take_succ_cons, List.take_zero, Nat.zero_add, Nat.add_zero, Nat.zero_mul, Int.toNat_zero, Int.reduceLT, Int.reduceLE, Int.reduceToNat, Nat.reduceLeDiff, Int.reduceEq, Int.reduceNe, Int.reduceNeg, Option.bind_eq_bind, Option.pure_def, gt_iff_lt, ge_iff_le, beq_true, beq_false, Bool.not_true, Bool.not_false, Bool.true_and, Bool.false_and, Bool.and_true, Bool.and_false, Bool.true_or, Bool.false_or, Bool.or_true, Bool.or_false, vOpsX, vOpX, List.isEmpty_toArray, List.isEmpty_nil, List.isEmpty_cons, List.all_nil, List.all_cons, beq_self_eq_true, bne_self_eq_false, Int.reduceBEq, Int.reduceBNe]
          refine wpc_region ?_
          simp only [vOps, vOp, stepOp, deferC, evalO, evalOs, evalOo, partsD, okD, okH, okU, wantD, dstOk, putO_some, putO_none, put_at, df_put, ofV, ofArgs, List.getD_cons_zero, List.getD_cons_succ, List.getD_nil, Option.map_some, Option.map_none, Option.bind_some, Option.bind_none, true_and, and_true, SeqQ_norm, SeqQ_exit, SeqQ_ret, SeqQ_pan, BlkQ_norm, BlkQ_exit, BlkQ_ret, BlkQ_pan, RetQ_norm, RetQ_ret, RetQ_pan, Nat.reduceEqDiff, Nat.reduceLT, Nat.reduceAdd, Nat.reduceMul, Nat.reduceSub, Nat.reduceBEq, reduceCtorEq, ↓reduceIte, decide_true, decide_false, Bool.false_eq_true, eq_self, if_false, if_true, resD, oneD_one, outPure_int, outPure_bool, List.getElem?_toArray, List.getElem?_cons_zero, List.getElem?_cons_succ, List.size_toArray, List.length_cons, List.length_nil, binD, intBin, unD, convD, builtinD, lenD, indexAddrD, inRange, loadD, storeD, moveP, newOb, partE, partD, setE, spliceL, noTup, aggQ, D.cells, hget_app0, hget_app, hget_cons0, hget_consS, set_app0, set_app, List.set_cons_zero, List.set_cons_succ, and_self, List.length_map, List.getElem?_map, Int.natCast_nonneg, Int.ofNat_lt, Int.toNat_natCast, List.append_nil, List.nil_append, List.cons_append, List.drop_zero, List.drop_succ_cons, List.take_succ_cons, List.take_zero, Nat.zero_add, Nat.add_zero, Nat.zero_mul, Int.toNat_zero, Int.reduceLT, Int.reduceLE, Int.reduceToNat, Nat.reduceLeDiff, Int.reduceEq, Int.reduceNe, Int.reduceNeg, Option.bind_eq_bind, Option.pure_def, gt_iff_lt, ge_iff_le, beq_true, beq_false, Bool.not_true, Bool.not_false, Bool.true_and, Bool.false_and, Bool.and_true, Bool.and_false, Bool.true_or, Bool.false_or, Bool.or_true, Bool.or_false, vOpsX, vOpX, List.isEmpty_toArray, List.isEmpty_nil, List.isEmpty_cons, List.all_nil, List.all_cons, beq_self_eq_true, bne_self_eq_false, Int.reduceBEq, Int.reduceBNe, h0, h2, h8, h7, glD, hw]
          refine ⟨⟨k + 1, by omega, rfl, ?_⟩, ?_⟩
          · rw [own_take hx, if_neg (by simpa using hb)]
          · simp only [natOf_int]; omega
      · simp only [vOps, vOp, stepOp, deferC, evalO, evalOs, evalOo, partsD, okD, okH, okU, wantD, dstOk, putO_some, putO_none, put_at, df_put, ofV, ofArgs, List.getD_cons_zero, List.getD_cons_succ, List.getD_nil, Option.map_some, Option.map_none, Option.bind_some, Option.bind_none, true_and, and_true, SeqQ_norm, SeqQ_exit, SeqQ_ret, SeqQ_pan, BlkQ_norm, BlkQ_exit, BlkQ_ret, BlkQ_pan, RetQ_norm, RetQ_ret, RetQ_pan, Nat.reduceEqDiff, Nat.reduceLT, Nat.reduceAdd, Nat.reduceMul, Nat.reduceSub, Nat.reduceBEq, reduceCtorEq, ↓reduceIte, decide_true, decide_false, Bool.false_eq_true, eq_self, if_false, if_true, resD, oneD_one, outPure_int, outPure_bool, List.getElem?_toArray, List.getElem?_cons_zero, List.getElem?_cons_succ, List.size_toArray, List.length_cons, List.length_nil, binD, intBin, unD, convD, builtinD, lenD, indexAddrD, inRange, loadD, storeD, moveP, newOb, partE, partD, setE, spliceL, noTup, aggQ, D.cells, hget_app0, hget_app, hget_cons0, hget_consS, set_app0, set_app, List.set_cons_zero, List.set_cons_succ, and_self, List.length_map, List.getElem?_map, Int.natCast_nonneg, Int.ofNat_lt, Int.toNat_natCast, List.append_nil, List.nil_append, List.cons_append, List.drop_zero, List.drop_succ_cons, List.take_succ_cons, List.take_zero, Nat.zero_add, Nat.add_zero, Nat.zero_mul, Int.toNat_zero, Int.reduceLT, Int.reduceLE, Int.reduceToNat, Nat.reduceLeDiff, Int.reduceEq, Int.reduceNe, Int.reduceNeg, Option.bind_eq_bind, Option.pure_def, gt_iff_lt, ge_iff_le, beq_true, beq_false, Bool.not_true, Bool.not_false, Bool.true_and, Bool.false_and, Bool.and_true, Bool.and_false, Bool.true_or, Bool.false_or, Bool.or_true, Bool.or_false, vOpsX, vOpX, List.isEmpty_toArray, List.isEmpty_nil, List.isEmpty_cons, List.all_nil, List.all_cons, beq_self_eq_true, bne_self_eq_false, Int.reduceBEq, Int.reduceBNe]
        have hge : k = l.length := by simp at hb; omega
        refine wpc_seq (wpc_region ?_)
        simp only [vOps, vOp, stepOp, deferC, evalO, evalOs, evalOo, partsD, okD, okH, okU, wantD, dstOk, putO_some, putO_none, put_at, df_put, ofV, ofArgs, List.getD_cons_zero, List.getD_cons_succ, List.getD_nil, Option.map_some, Option.map_none, Option.bind_some, Option.bind_none, true_and, and_true, SeqQ_norm, SeqQ_exit, SeqQ_ret, SeqQ_pan, BlkQ_norm, BlkQ_exit, BlkQ_ret, BlkQ_pan, RetQ_norm, RetQ_ret, RetQ_pan, Nat.reduceEqDiff, Nat.reduceLT, Nat.reduceAdd, Nat.reduceMul, Nat.reduceSub, Nat.reduceBEq, reduceCtorEq, ↓reduceIte, decide_true, decide_false, Bool.false_eq_true, eq_self, if_false, if_true, resD, oneD_one, outPure_int, outPure_bool, List.getElem?_toArray, List.getElem?_cons_zero, List.getElem?_cons_succ, List.size_toArray, List.length_cons, List.length_nil, binD, intBin, unD, convD, builtinD, lenD, indexAddrD, inRange, loadD, storeD, moveP, newOb, partE, partD, setE, spliceL, noTup, aggQ, D.cells, hget_app0, hget_app, hget_cons0, hget_consS, set_app0, set_app, List.set_cons_zero, List.set_cons_succ, and_self, List.length_map, List.getElem?_map, Int.natCast_nonneg, Int.ofNat_lt, Int.toNat_natCast, List.append_nil, List.nil_append, List.cons_append, List.drop_zero, List.drop_succ_cons, List.take_succ_cons, List.take_zero, Nat.zero_add, Nat.add_zero, Nat.zero_mul, Int.toNat_zero, Int.reduceLT, Int.reduceLE, Int.reduceToNat, Nat.reduceLeDiff, Int.reduceEq, Int.reduceNe, Int.reduceNeg, Option.bind_eq_bind, Option.pure_def, gt_iff_lt, ge_iff_le, beq_true, beq_false, Bool.not_true, Bool.not_false, Bool.true_and, Bool.false_and, Bool.and_true, Bool.and_false, Bool.true_or, Bool.false_or, Bool.or_true, Bool.or_false, vOpsX, vOpX, List.isEmpty_toArray, List.isEmpty_nil, List.isEmpty_cons, List.all_nil, List.all_cons, beq_self_eq_true, bne_self_eq_false, Int.reduceBEq, Int.reduceBNe, h7]
        refine wpc_ret ?_
        simp only [vOps, vOp, stepOp, deferC, evalO, evalOs, evalOo, partsD, okD, okH, okU, wantD, dstOk, putO_some, putO_none, put_at, df_put, ofV, ofArgs, List.getD_cons_zero, List.getD_cons_succ, List.getD_nil, Option.map_some, Option.map_none, Option.bind_some, Option.bind_none, true_and, and_true, SeqQ_norm, SeqQ_exit, SeqQ_ret, SeqQ_pan, BlkQ_norm, BlkQ_exit, BlkQ_ret, BlkQ_pan, RetQ_norm, RetQ_ret, RetQ_pan, Nat.reduceEqDiff, Nat.reduceLT, Nat.reduceAdd, Nat.reduceMul, Nat.reduceSub, Nat.reduceBEq, reduceCtorEq, ↓reduceIte, decide_true, decide_false, Bool.false_eq_true, eq_self, if_false, if_true, resD, oneD_one, outPure_int, outPure_bool, List.getElem?_toArray, List.getElem?_cons_zero, List.getElem?_cons_succ, List.size_toArray, List.length_cons, List.length_nil, binD, intBin, unD, convD, builtinD, lenD, indexAddrD, inRange, loadD, storeD, moveP, newOb, partE, partD, setE, spliceL, noTup, aggQ, D.cells, hget_app0, hget_app, hget_cons0, hget_consS, set_app0, set_app, List.set_cons_zero, List.set_cons_succ, and_self, List.length_map, List.getElem?_map, Int.natCast_nonneg, Int.ofNat_lt, Int.toNat_natCast, List.append_nil, List.nil_append, List.cons_append, List.drop_zero, List.drop_succ_cons, List.take_succ_cons, List.take_zero, Nat.zero_add, Nat.add_zero, Nat.zero_mul, Int.toNat_zero, Int.reduceLT, Int.reduceLE, Int.reduceToNat, Nat.reduceLeDiff, Int.reduceEq, Int.reduceNe, Int.reduceNeg, Option.bind_eq_bind, Option.pure_def, gt_iff_lt, ge_iff_le, beq_true, beq_false, Bool.not_true, Bool.not_false, Bool.true_and, Bool.false_and, Bool.and_true, Bool.and_false, Bool.true_or, Bool.false_or, Bool.or_true, Bool.or_false, vOpsX, vOpX, List.isEmpty_toArray, List.isEmpty_nil, List.isEmpty_cons, List.all_nil, List.all_cons, beq_self_eq_true, bne_self_eq_false, Int.reduceBEq, Int.reduceBNe, ownerOf, if_neg hn]
        rw [hge, List.take_length]
end Go.Proofs.Wt
end
/- The chapter on watching: the document's Clusters. -/
section
set_option maxHeartbeats 4000000
set_option linter.unusedVariables false
set_option linter.unusedSimpArgs false
open Go.Proofs.Zs30
namespace Go.Proofs.Wt
open Go Vm Go.Proofs.Zs30

/-- a cluster -/
structure Q where
  a : Int
  b : Int
  c : Int
  d : Int
def Q.dd (q : Q) : D := .agg [.int .i64 q.a, .int .i64 q.b, .int .i64 q.c, .int .i64 q.d]
/-- the last one changed -/
def modLast (f : Q → Q) (l : List Q) : List Q := l.dropLast ++ (l.getLast?.map f).toList
def newAt (l : List Gl) (k : Nat) : Bool := k == 0 || bAt l k != bAt l (k - 1)
/-- clusters of the first glyphs, the last one not closed -/
def cls (l : List Gl) (c : Int) : Nat → List Q
  | 0 => []
  | k + 1 => modLast (fun q => { q with d := (k + 1 : Nat) }) (if newAt l k then modLast (fun q => { q with b := bAt l k }) (cls l c k) ++ [⟨bAt l k, c, k, k⟩] else cls l c k)
theorem cls_len (l : List Gl) (c : Int) : ∀ k, (cls l c k).length ≤ k := by
  have ml : ∀ f (x : List Q), (modLast f x).length = x.length := fun f x => by
    cases x with
    | nil => rfl
    | cons a x => simp [modLast, List.getLast?_eq_some_getLast]
  intro k
  induction k with
  | zero => simp [cls]
  | succ k ih =>
    simp only [cls, ml]
    split
    · simp [ml]; omega
    · omega
def nxt (l : List Gl) (c : Int) (k : Nat) : List Q := if newAt l k then modLast (fun q => { q with b := bAt l k }) (cls l c k) ++ [⟨bAt l k, c, k, k⟩] else cls l c k
theorem cls_succ (l : List Gl) (c : Int) (k : Nat) : cls l c (k + 1) = modLast (fun q => { q with d := (k + 1 : Nat) }) (nxt l c k) := rfl
def clustersOf (l : List Gl) (c : Int) : List Q := if checkOf l c = 0 then cls l c l.length else []
theorem modLast_app (f : Q → Q) (l : List Q) (q : Q) : modLast f (l ++ [q]) = l ++ [f q] := by simp [modLast]
theorem modLast_nil (f : Q → Q) : modLast f [] = [] := rfl
theorem last_split {l : List Q} (h : l ≠ []) : ∃ l' q, l = l' ++ [q] := ⟨l.dropLast, l.getLast h, (List.dropLast_concat_getLast h).symm⟩
theorem cls_ne (l : List Gl) (c : Int) (k : Nat) : ∃ L q, cls l c (k + 1) = L ++ [q] := by
  simp only [cls]
  by_cases h : newAt l k = true
  · rw [if_pos h, modLast_app]; exact ⟨_, _, rfl⟩
  · rw [if_neg h]
    cases k with
    | zero => simp [newAt] at h
    | succ k =>
      obtain ⟨L, q, hq⟩ := cls_ne l c k
      rw [hq, modLast_app]; exact ⟨_, _, rfl⟩
theorem hs30 (l : List Q) : headSize 4 (l.map Q.dd) = true := by cases l <;> rfl
theorem append_q {d : D} {H : Heap} {l : List Q} (h : VecIs d H (l.map Q.dd)) (q : Q) (hl : l.length ≤ 1000) : ∃ d' H', appendD Try.prog 27 (H ++ [.arr [q.dd]]) d (.vec H.length 0 1) = some (d', H') ∧ VecIs d' H' ((l ++ [q]).map Q.dd) := by
  have := append_one el27 sz30 by30 zr30 rfl (by decide) h (q := q.dd) rfl rfl (hs30 l) (by simp [mostBytes]; omega)
  simpa using this
theorem vec_last {d : D} {H : Heap} {xs : List Q} {q : Q} (h : VecIs d H ((xs ++ [q]).map Q.dd)) : ∃ r, d = .vec r 0 (xs.length + 1) ∧ hget H r = .arr ((xs ++ [q]).map Q.dd) ∧ r < H.length ∧ vecSize H r 4 = true ∧ ((xs ++ [q]).map Q.dd)[xs.length]? = some q.dd := by
  rcases h with ⟨h, _⟩ | ⟨h1, r, rfl, h3, h4⟩
  · simp at h
  · refine ⟨r, by simp, h3, h4, ?_, by simp⟩
    simp only [vecSize, h3]
    cases xs <;> rfl
theorem vec_store {H : Heap} {xs : List Q} {q q' : Q} {r : Nat} (h : hget H r = .arr ((xs ++ [q]).map Q.dd)) (hr : r < H.length) : VecIs (.vec r 0 (xs.length + 1)) (H.set r (.arr (((xs ++ [q]).map Q.dd).set xs.length q'.dd))) ((xs ++ [q']).map Q.dd) := by
  refine .inr ⟨by simp, r, by simp, ?_, by simpa using hr⟩
  have : hget (H.set r (.arr (((xs ++ [q]).map Q.dd).set xs.length q'.dd))) r = .arr (((xs ++ [q]).map Q.dd).set xs.length q'.dd) := by
    simp [hget, List.getD_eq_getElem?_getD, hr]
  rw [this]; simp [List.set_append_right]
theorem strip_q (xs : List Q) : stripL (xs.map Q.dd) = some (xs.map Q.dd) := by
  induction xs with
  | nil => rfl
  | cons q r ih => simp [stripL, ih, Q.dd, strip]
attribute [go_sem] glD Gl.d1 Q.dd
theorem clustersR_ok (l : List Gl) (hl : l.length ≤ 1000) (c : Int) : PureF Try.prog A 13 [glD l, .int .i64 c] (.sl false ((clustersOf l c).map Q.dd)) := by
  refine evF_inB (n := 72) (rs := [.tmp 4]) Try.func13 rfl rfl rfl rfl rfl rfl ?_
  repeat' (first | refine wpB_seq ?_ | refine wpB_regionL rfl ?_ | refine wpB_block ?_ | refine wpB_skip ?_ | refine wpB_exit ?_ | refine wpB_ret ?_ | simp (maxSteps := 1000000) (dsimp := false) (disch := omega) only [go_sem, Nat.reduceEqDiff, Nat.reduceLT, Nat.reduceAdd, Nat.reduceMul, Nat.reduceSub, Nat.reduceBEq, Nat.reduceLeDiff, reduceCtorEq, ↓reduceIte, Int.reduceLT, Int.reduceLE, Int.reduceToNat, Int.reduceEq, Int.reduceNe, Int.reduceNeg, Int.reduceBEq, Int.reduceBNe, Int.reduceAdd, Int.reduceSub, Int.reduceMul, Nat.reducePow, Int.reducePow, *])
  refine wpB_loop (fun e H => ∃ k : Nat, k ≤ l.length ∧ e 0 = glD l ∧ e 1 = .int .i64 c ∧ e 6 = .int .i64 k ∧ (k = 0 ∨ checkOf l c = 0) ∧ VecIs (e 5) H ((cls l c k).map Q.dd)) (fun e H => l.length - natOf (e 6)) ?_ ?_
  · exact ⟨0, Nat.zero_le _, rfl, rfl, rfl, .inl rfl, .nil⟩
  · rintro e H ⟨k, hk, h0, h1, h6, hc, h5⟩ R hR
    by_cases hlt : k < l.length
    case neg =>
      have hkl : cls l c k = clustersOf l c := by
        have hkl : k = l.length := by omega
        subst hkl
        unfold clustersOf
        rcases hc with hc | hc
        · rw [hc]; split <;> rfl
        · rw [if_pos hc]
      repeat' (first | refine wpB_seq ?_ | refine wpB_regionL rfl ?_ | refine wpB_block ?_ | refine wpB_skip ?_ | refine wpB_exit ?_ | refine wpB_ret ?_ | simp (maxSteps := 1000000) (dsimp := false) (disch := omega) only [go_sem, Nat.reduceEqDiff, Nat.reduceLT, Nat.reduceAdd, Nat.reduceMul, Nat.reduceSub, Nat.reduceBEq, Nat.reduceLeDiff, reduceCtorEq, ↓reduceIte, Int.reduceLT, Int.reduceLE, Int.reduceToNat, Int.reduceEq, Int.reduceNe, Int.reduceNeg, Int.reduceBEq, Int.reduceBNe, Int.reduceAdd, Int.reduceSub, Int.reduceMul, Nat.reducePow, Int.reducePow, *])
      refine wpB_cond (by simp (maxSteps := 1000000) (dsimp := false) (disch := omega) only [go_sem, Nat.reduceEqDiff, Nat.reduceLT, Nat.reduceAdd, Nat.reduceMul, Nat.reduceSub, Nat.reduceBEq, Nat.reduceLeDiff, reduceCtorEq, ↓reduceIte, Int.reduceLT, Int.reduceLE, Int.reduceToNat, Int.reduceEq, Int.reduceNe, Int.reduceNeg, Int.reduceBEq, Int.reduceBNe, Int.reduceAdd, Int.reduceSub, Int.reduceMul, Nat.reducePow, Int.reducePow, *]; exact rfl) (fun hb => ?_) (fun hb => ?_) <;> try simp (maxSteps := 1000000) (dsimp := false) (disch := omega) only [go_sem, Nat.reduceEqDiff, Nat.reduceLT, Nat.reduceAdd, Nat.reduceMul, Nat.reduceSub, Nat.reduceBEq, Nat.reduceLeDiff, reduceCtorEq, ↓reduceIte, Int.reduceLT, Int.reduceLE, Int.reduceToNat, Int.reduceEq, Int.reduceNe, Int.reduceNeg, Int.reduceBEq, Int.reduceBNe, Int.reduceAdd, Int.reduceSub, Int.reduceMul, Nat.reducePow, Int.reducePow, decide_eq_true_eq, decide_eq_false_iff_not, Bool.not_eq_true, Bool.not_eq_false, Int.not_lt, Int.not_le] at hb
      repeat' (first | refine wpB_seq ?_ | refine wpB_regionL rfl ?_ | refine wpB_block ?_ | refine wpB_skip ?_ | refine wpB_exit ?_ | refine wpB_ret ?_ | simp (maxSteps := 1000000) (dsimp := false) (disch := omega) only [go_sem, Nat.reduceEqDiff, Nat.reduceLT, Nat.reduceAdd, Nat.reduceMul, Nat.reduceSub, Nat.reduceBEq, Nat.reduceLeDiff, reduceCtorEq, ↓reduceIte, Int.reduceLT, Int.reduceLE, Int.reduceToNat, Int.reduceEq, Int.reduceNe, Int.reduceNeg, Int.reduceBEq, Int.reduceBNe, Int.reduceAdd, Int.reduceSub, Int.reduceMul, Nat.reducePow, Int.reducePow, *])
      rw [← hkl]
      exact h5.out (strip_q _)
    case pos =>
      repeat' (first | refine wpB_seq ?_ | refine wpB_regionL rfl ?_ | refine wpB_block ?_ | refine wpB_skip ?_ | refine wpB_exit ?_ | refine wpB_ret ?_ | simp (maxSteps := 1000000) (dsimp := false) (disch := omega) only [go_sem, Nat.reduceEqDiff, Nat.reduceLT, Nat.reduceAdd, Nat.reduceMul, Nat.reduceSub, Nat.reduceBEq, Nat.reduceLeDiff, reduceCtorEq, ↓reduceIte, Int.reduceLT, Int.reduceLE, Int.reduceToNat, Int.reduceEq, Int.reduceNe, Int.reduceNeg, Int.reduceBEq, Int.reduceBNe, Int.reduceAdd, Int.reduceSub, Int.reduceMul, Nat.reducePow, Int.reducePow, *])
      refine evB_plain bo11 rfl rfl (strip2 l c) (checkR_ok l hl c) ?_
      simp (maxSteps := 1000000) (dsimp := false) (disch := omega) only [go_sem, Nat.reduceEqDiff, Nat.reduceLT, Nat.reduceAdd, Nat.reduceMul, Nat.reduceSub, Nat.reduceBEq, Nat.reduceLeDiff, reduceCtorEq, ↓reduceIte, Int.reduceLT, Int.reduceLE, Int.reduceToNat, Int.reduceEq, Int.reduceNe, Int.reduceNeg, Int.reduceBEq, Int.reduceBNe, Int.reduceAdd, Int.reduceSub, Int.reduceMul, Nat.reducePow, Int.reducePow, *]
      refine wpB_cond (by simp (maxSteps := 1000000) (dsimp := false) (disch := omega) only [go_sem, Nat.reduceEqDiff, Nat.reduceLT, Nat.reduceAdd, Nat.reduceMul, Nat.reduceSub, Nat.reduceBEq, Nat.reduceLeDiff, reduceCtorEq, ↓reduceIte, Int.reduceLT, Int.reduceLE, Int.reduceToNat, Int.reduceEq, Int.reduceNe, Int.reduceNeg, Int.reduceBEq, Int.reduceBNe, Int.reduceAdd, Int.reduceSub, Int.reduceMul, Nat.reducePow, Int.reducePow, *]; exact rfl) (fun hb => ?_) (fun hb => ?_) <;> try simp (maxSteps := 1000000) (dsimp := false) (disch := omega) only [go_sem, Nat.reduceEqDiff, Nat.reduceLT, Nat.reduceAdd, Nat.reduceMul, Nat.reduceSub, Nat.reduceBEq, Nat.reduceLeDiff, reduceCtorEq, ↓reduceIte, Int.reduceLT, Int.reduceLE, Int.reduceToNat, Int.reduceEq, Int.reduceNe, Int.reduceNeg, Int.reduceBEq, Int.reduceBNe, Int.reduceAdd, Int.reduceSub, Int.reduceMul, Nat.reducePow, Int.reducePow, decide_eq_true_eq, decide_eq_false_iff_not, Bool.not_eq_true, Bool.not_eq_false, Int.not_lt, Int.not_le] at hb
      · have hx := List.getElem?_eq_getElem hlt
        have hcc : checkOf l c = 0 := by simpa using hb
        rcases Nat.eq_zero_or_pos k with hk0 | hkp
        · subst hk0
          have h5 : e 5 = .sl true [] := by
            rcases h5 with ⟨h, hd⟩ | ⟨h, _⟩
            · exact hd
            · simp [cls] at h
          have h6 : e 6 = .int .i64 0 := h6
          have hlt' : (0 : Int) < l.length := by omega
          obtain ⟨d', H', ha, hv'⟩ := append_q (H := H) (l := []) .nil ⟨l[0].b, c, 0, 0⟩ (by simp)
          obtain ⟨r, rfl, hg, hr, hv, hlast⟩ := vec_last (xs := []) hv'
          simp only [Q.dd] at ha
          repeat' (first | refine wpB_seq ?_ | refine wpB_regionL rfl ?_ | refine wpB_block ?_ | refine wpB_skip ?_ | refine wpB_exit ?_ | refine wpB_ret ?_ | simp (maxSteps := 1000000) (dsimp := false) (disch := omega) only [go_sem, Nat.reduceEqDiff, Nat.reduceLT, Nat.reduceAdd, Nat.reduceMul, Nat.reduceSub, Nat.reduceBEq, Nat.reduceLeDiff, reduceCtorEq, ↓reduceIte, Int.reduceLT, Int.reduceLE, Int.reduceToNat, Int.reduceEq, Int.reduceNe, Int.reduceNeg, Int.reduceBEq, Int.reduceBNe, Int.reduceAdd, Int.reduceSub, Int.reduceMul, Nat.reducePow, Int.reducePow, *])
          refine wpB_regionXL (by kernel_rfl) rfl ?_; simp (maxSteps := 1000000) (dsimp := false) (disch := omega) only [go_sem, Nat.reduceEqDiff, Nat.reduceLT, Nat.reduceAdd, Nat.reduceMul, Nat.reduceSub, Nat.reduceBEq, Nat.reduceLeDiff, reduceCtorEq, ↓reduceIte, Int.reduceLT, Int.reduceLE, Int.reduceToNat, Int.reduceEq, Int.reduceNe, Int.reduceNeg, Int.reduceBEq, Int.reduceBNe, Int.reduceAdd, Int.reduceSub, Int.reduceMul, Nat.reducePow, Int.reducePow, *]
          refine wpB_cond (by simp (maxSteps := 1000000) (dsimp := false) (disch := omega) only [go_sem, Nat.reduceEqDiff, Nat.reduceLT, Nat.reduceAdd, Nat.reduceMul, Nat.reduceSub, Nat.reduceBEq, Nat.reduceLeDiff, reduceCtorEq, ↓reduceIte, Int.reduceLT, Int.reduceLE, Int.reduceToNat, Int.reduceEq, Int.reduceNe, Int.reduceNeg, Int.reduceBEq, Int.reduceBNe, Int.reduceAdd, Int.reduceSub, Int.reduceMul, Nat.reducePow, Int.reducePow, *]; exact rfl) (fun hb => ?_) (fun hb => ?_) <;> try simp (maxSteps := 1000000) (dsimp := false) (disch := omega) only [go_sem, Nat.reduceEqDiff, Nat.reduceLT, Nat.reduceAdd, Nat.reduceMul, Nat.reduceSub, Nat.reduceBEq, Nat.reduceLeDiff, reduceCtorEq, ↓reduceIte, Int.reduceLT, Int.reduceLE, Int.reduceToNat, Int.reduceEq, Int.reduceNe, Int.reduceNeg, Int.reduceBEq, Int.reduceBNe, Int.reduceAdd, Int.reduceSub, Int.reduceMul, Nat.reducePow, Int.reducePow, decide_eq_true_eq, decide_eq_false_iff_not, Bool.not_eq_true, Bool.not_eq_false, Int.not_lt, Int.not_le] at hb
          repeat' (first | refine wpB_seq ?_ | refine wpB_regionL rfl ?_ | refine wpB_block ?_ | refine wpB_skip ?_ | refine wpB_exit ?_ | refine wpB_ret ?_ | simp (maxSteps := 1000000) (dsimp := false) (disch := omega) only [go_sem, Nat.reduceEqDiff, Nat.reduceLT, Nat.reduceAdd, Nat.reduceMul, Nat.reduceSub, Nat.reduceBEq, Nat.reduceLeDiff, reduceCtorEq, ↓reduceIte, Int.reduceLT, Int.reduceLE, Int.reduceToNat, Int.reduceEq, Int.reduceNe, Int.reduceNeg, Int.reduceBEq, Int.reduceBNe, Int.reduceAdd, Int.reduceSub, Int.reduceMul, Nat.reducePow, Int.reducePow, *])
          refine wpB_cond (by simp (maxSteps := 1000000) (dsimp := false) (disch := omega) only [go_sem, Nat.reduceEqDiff, Nat.reduceLT, Nat.reduceAdd, Nat.reduceMul, Nat.reduceSub, Nat.reduceBEq, Nat.reduceLeDiff, reduceCtorEq, ↓reduceIte, Int.reduceLT, Int.reduceLE, Int.reduceToNat, Int.reduceEq, Int.reduceNe, Int.reduceNeg, Int.reduceBEq, Int.reduceBNe, Int.reduceAdd, Int.reduceSub, Int.reduceMul, Nat.reducePow, Int.reducePow, *]; exact rfl) (fun hb => ?_) (fun hb => ?_) <;> try simp (maxSteps := 1000000) (dsimp := false) (disch := omega) only [go_sem, Nat.reduceEqDiff, Nat.reduceLT, Nat.reduceAdd, Nat.reduceMul, Nat.reduceSub, Nat.reduceBEq, Nat.reduceLeDiff, reduceCtorEq, ↓reduceIte, Int.reduceLT, Int.reduceLE, Int.reduceToNat, Int.reduceEq, Int.reduceNe, Int.reduceNeg, Int.reduceBEq, Int.reduceBNe, Int.reduceAdd, Int.reduceSub, Int.reduceMul, Nat.reducePow, Int.reducePow, decide_eq_true_eq, decide_eq_false_iff_not, Bool.not_eq_true, Bool.not_eq_false, Int.not_lt, Int.not_le] at hb
          repeat' (first | refine wpB_seq ?_ | refine wpB_regionL rfl ?_ | refine wpB_block ?_ | refine wpB_skip ?_ | refine wpB_exit ?_ | refine wpB_ret ?_ | simp (maxSteps := 1000000) (dsimp := false) (disch := omega) only [go_sem, Nat.reduceEqDiff, Nat.reduceLT, Nat.reduceAdd, Nat.reduceMul, Nat.reduceSub, Nat.reduceBEq, Nat.reduceLeDiff, reduceCtorEq, ↓reduceIte, Int.reduceLT, Int.reduceLE, Int.reduceToNat, Int.reduceEq, Int.reduceNe, Int.reduceNeg, Int.reduceBEq, Int.reduceBNe, Int.reduceAdd, Int.reduceSub, Int.reduceMul, Nat.reducePow, Int.reducePow, *])
          have hlast' := vec_store (q' := ⟨l[0].b, c, 0, 1⟩) hg hr
          simp only [Q.dd, List.map_nil, List.nil_append, List.map_cons, List.set_cons_zero, List.length_nil] at hg hlast'
          refine hR _ _ ⟨1, by omega, h0, h1, rfl, .inr hcc, ?_⟩ ?_
          · have hn : newAt l 0 = true := rfl
            have : cls l c 1 = [⟨l[0].b, c, 0, 1⟩] := by simp [cls, hn, modLast, bAt_get hlt]
            rw [this]; exact hlast'
          · simp (maxSteps := 1000000) (dsimp := false) (disch := omega) only [go_sem, Nat.reduceEqDiff, Nat.reduceLT, Nat.reduceAdd, Nat.reduceMul, Nat.reduceSub, Nat.reduceBEq, Nat.reduceLeDiff, reduceCtorEq, ↓reduceIte, Int.reduceLT, Int.reduceLE, Int.reduceToNat, Int.reduceEq, Int.reduceNe, Int.reduceNeg, Int.reduceBEq, Int.reduceBNe, Int.reduceAdd, Int.reduceSub, Int.reduceMul, Nat.reducePow, Int.reducePow, *, natOf_int]
        · obtain ⟨k, rfl⟩ : ∃ m, k = m + 1 := ⟨k - 1, by omega⟩
          obtain ⟨L, q, hq⟩ := cls_ne l c k
          have hLl : L.length + 1 < 1000 := by have := cls_len l c (k + 1); rw [hq] at this; simp at this; omega
          rw [hq] at h5
          obtain ⟨r, h5, hg, hr, hv, hlast⟩ := vec_last h5
          have hnew : newAt l (k + 1) = (l[k + 1].b != l[k].b) := by simp [newAt, bAt_get hlt, bAt_get (show k < l.length by omega)]
          have hbk : bAt l (k + 1) = l[k + 1].b := bAt_get hlt
          repeat' (first | refine wpB_seq ?_ | refine wpB_regionL rfl ?_ | refine wpB_block ?_ | refine wpB_skip ?_ | refine wpB_exit ?_ | refine wpB_ret ?_ | simp (maxSteps := 1000000) (dsimp := false) (disch := omega) only [go_sem, Nat.reduceEqDiff, Nat.reduceLT, Nat.reduceAdd, Nat.reduceMul, Nat.reduceSub, Nat.reduceBEq, Nat.reduceLeDiff, reduceCtorEq, ↓reduceIte, Int.reduceLT, Int.reduceLE, Int.reduceToNat, Int.reduceEq, Int.reduceNe, Int.reduceNeg, Int.reduceBEq, Int.reduceBNe, Int.reduceAdd, Int.reduceSub, Int.reduceMul, Nat.reducePow, Int.reducePow, *])
          refine wpB_regionXL (by kernel_rfl) rfl ?_; simp (maxSteps := 1000000) (dsimp := false) (disch := omega) only [go_sem, Nat.reduceEqDiff, Nat.reduceLT, Nat.reduceAdd, Nat.reduceMul, Nat.reduceSub, Nat.reduceBEq, Nat.reduceLeDiff, reduceCtorEq, ↓reduceIte, Int.reduceLT, Int.reduceLE, Int.reduceToNat, Int.reduceEq, Int.reduceNe, Int.reduceNeg, Int.reduceBEq, Int.reduceBNe, Int.reduceAdd, Int.reduceSub, Int.reduceMul, Nat.reducePow, Int.reducePow, *]
          refine wpB_cond (by simp (maxSteps := 1000000) (dsimp := false) (disch := omega) only [go_sem, Nat.reduceEqDiff, Nat.reduceLT, Nat.reduceAdd, Nat.reduceMul, Nat.reduceSub, Nat.reduceBEq, Nat.reduceLeDiff, reduceCtorEq, ↓reduceIte, Int.reduceLT, Int.reduceLE, Int.reduceToNat, Int.reduceEq, Int.reduceNe, Int.reduceNeg, Int.reduceBEq, Int.reduceBNe, Int.reduceAdd, Int.reduceSub, Int.reduceMul, Nat.reducePow, Int.reducePow, *]; exact rfl) (fun hb => ?_) (fun hb => ?_) <;> try simp (maxSteps := 1000000) (dsimp := false) (disch := omega) only [go_sem, Nat.reduceEqDiff, Nat.reduceLT, Nat.reduceAdd, Nat.reduceMul, Nat.reduceSub, Nat.reduceBEq, Nat.reduceLeDiff, reduceCtorEq, ↓reduceIte, Int.reduceLT, Int.reduceLE, Int.reduceToNat, Int.reduceEq, Int.reduceNe, Int.reduceNeg, Int.reduceBEq, Int.reduceBNe, Int.reduceAdd, Int.reduceSub, Int.reduceMul, Nat.reducePow, Int.reducePow, decide_eq_true_eq, decide_eq_false_iff_not, Bool.not_eq_true, Bool.not_eq_false, Int.not_lt, Int.not_le] at hb
          · repeat' (first | refine wpB_seq ?_ | refine wpB_regionL rfl ?_ | refine wpB_block ?_ | refine wpB_skip ?_ | refine wpB_exit ?_ | refine wpB_ret ?_ | simp (maxSteps := 1000000) (dsimp := false) (disch := omega) only [go_sem, Nat.reduceEqDiff, Nat.reduceLT, Nat.reduceAdd, Nat.reduceMul, Nat.reduceSub, Nat.reduceBEq, Nat.reduceLeDiff, reduceCtorEq, ↓reduceIte, Int.reduceLT, Int.reduceLE, Int.reduceToNat, Int.reduceEq, Int.reduceNe, Int.reduceNeg, Int.reduceBEq, Int.reduceBNe, Int.reduceAdd, Int.reduceSub, Int.reduceMul, Nat.reducePow, Int.reducePow, *])
            refine wpB_cond (by simp (maxSteps := 1000000) (dsimp := false) (disch := omega) only [go_sem, Nat.reduceEqDiff, Nat.reduceLT, Nat.reduceAdd, Nat.reduceMul, Nat.reduceSub, Nat.reduceBEq, Nat.reduceLeDiff, reduceCtorEq, ↓reduceIte, Int.reduceLT, Int.reduceLE, Int.reduceToNat, Int.reduceEq, Int.reduceNe, Int.reduceNeg, Int.reduceBEq, Int.reduceBNe, Int.reduceAdd, Int.reduceSub, Int.reduceMul, Nat.reducePow, Int.reducePow, *]; exact rfl) (fun hb2 => ?_) (fun hb2 => ?_) <;> try simp (maxSteps := 1000000) (dsimp := false) (disch := omega) only [go_sem, Nat.reduceEqDiff, Nat.reduceLT, Nat.reduceAdd, Nat.reduceMul, Nat.reduceSub, Nat.reduceBEq, Nat.reduceLeDiff, reduceCtorEq, ↓reduceIte, Int.reduceLT, Int.reduceLE, Int.reduceToNat, Int.reduceEq, Int.reduceNe, Int.reduceNeg, Int.reduceBEq, Int.reduceBNe, Int.reduceAdd, Int.reduceSub, Int.reduceMul, Nat.reducePow, Int.reducePow, decide_eq_true_eq, decide_eq_false_iff_not, Bool.not_eq_true, Bool.not_eq_false, Int.not_lt, Int.not_le] at hb2
            refine wpB_regionXL (by kernel_rfl) rfl ?_; simp (maxSteps := 1000000) (dsimp := false) (disch := omega) only [go_sem, Nat.reduceEqDiff, Nat.reduceLT, Nat.reduceAdd, Nat.reduceMul, Nat.reduceSub, Nat.reduceBEq, Nat.reduceLeDiff, reduceCtorEq, ↓reduceIte, Int.reduceLT, Int.reduceLE, Int.reduceToNat, Int.reduceEq, Int.reduceNe, Int.reduceNeg, Int.reduceBEq, Int.reduceBNe, Int.reduceAdd, Int.reduceSub, Int.reduceMul, Nat.reducePow, Int.reducePow, *]
            have hst := vec_store (q' := ⟨q.a, l[k + 1].b, q.c, q.d⟩) hg hr
            obtain ⟨d', H', ha, hv'⟩ := append_q hst ⟨l[k + 1].b, c, (k + 1 : Nat), (k + 1 : Nat)⟩ (by simp; omega)
            have hst2 := hv'
            obtain ⟨r', rfl, hg', hr', hv2, hlast'⟩ := vec_last (xs := L ++ [_]) hv'
            simp only [Q.dd, List.length_set, Int.natCast_add, Int.cast_ofNat_Int, List.length_append, List.length_cons, List.length_nil, Nat.zero_add] at ha hv2
            have hl1 : ((List.map Q.dd (L ++ [⟨q.a, l[k + 1].b, q.c, q.d⟩] ++ [⟨l[k + 1].b, c, (k + 1 : Nat), (k + 1 : Nat)⟩])))[L.length + 1]? = some (Q.dd ⟨l[k + 1].b, c, (k + 1 : Nat), (k + 1 : Nat)⟩) := by simp
            simp only [List.getElem?_map, Q.dd, Int.natCast_add, Int.cast_ofNat_Int] at hl1
            repeat' (first | refine wpB_seq ?_ | refine wpB_regionL rfl ?_ | refine wpB_block ?_ | refine wpB_skip ?_ | refine wpB_exit ?_ | refine wpB_ret ?_ | simp (maxSteps := 1000000) (dsimp := false) (disch := omega) only [go_sem, Nat.reduceEqDiff, Nat.reduceLT, Nat.reduceAdd, Nat.reduceMul, Nat.reduceSub, Nat.reduceBEq, Nat.reduceLeDiff, reduceCtorEq, ↓reduceIte, Int.reduceLT, Int.reduceLE, Int.reduceToNat, Int.reduceEq, Int.reduceNe, Int.reduceNeg, Int.reduceBEq, Int.reduceBNe, Int.reduceAdd, Int.reduceSub, Int.reduceMul, Nat.reducePow, Int.reducePow, *])
            have hst3 := vec_store (xs := L ++ [⟨q.a, l[k + 1].b, q.c, q.d⟩]) (q' := ⟨l[k + 1].b, c, (k + 1 : Nat), (k + 2 : Nat)⟩) hg' hr'
            rw [List.length_append] at hst3
            refine hR _ _ ⟨k + 2, by omega, h0, h1, rfl, .inr hcc, ?_⟩ ?_
            · rw [cls_succ, nxt, if_pos (by rw [hnew]; simpa using hb), hq, modLast_app, modLast_app, hbk]
              simp (maxSteps := 1000000) (dsimp := false) (disch := omega) only [go_sem, Nat.reduceEqDiff, Nat.reduceLT, Nat.reduceAdd, Nat.reduceMul, Nat.reduceSub, Nat.reduceBEq, Nat.reduceLeDiff, reduceCtorEq, ↓reduceIte, Int.reduceLT, Int.reduceLE, Int.reduceToNat, Int.reduceEq, Int.reduceNe, Int.reduceNeg, Int.reduceBEq, Int.reduceBNe, Int.reduceAdd, Int.reduceSub, Int.reduceMul, Nat.reducePow, Int.reducePow, *]
              exact hst3
            · simp (maxSteps := 1000000) (dsimp := false) (disch := omega) only [go_sem, Nat.reduceEqDiff, Nat.reduceLT, Nat.reduceAdd, Nat.reduceMul, Nat.reduceSub, Nat.reduceBEq, Nat.reduceLeDiff, reduceCtorEq, ↓reduceIte, Int.reduceLT, Int.reduceLE, Int.reduceToNat, Int.reduceEq, Int.reduceNe, Int.reduceNeg, Int.reduceBEq, Int.reduceBNe, Int.reduceAdd, Int.reduceSub, Int.reduceMul, Nat.reducePow, Int.reducePow, *, natOf_int]
          · repeat' (first | refine wpB_seq ?_ | refine wpB_regionL rfl ?_ | refine wpB_block ?_ | refine wpB_skip ?_ | refine wpB_exit ?_ | refine wpB_ret ?_ | simp (maxSteps := 1000000) (dsimp := false) (disch := omega) only [go_sem, Nat.reduceEqDiff, Nat.reduceLT, Nat.reduceAdd, Nat.reduceMul, Nat.reduceSub, Nat.reduceBEq, Nat.reduceLeDiff, reduceCtorEq, ↓reduceIte, Int.reduceLT, Int.reduceLE, Int.reduceToNat, Int.reduceEq, Int.reduceNe, Int.reduceNeg, Int.reduceBEq, Int.reduceBNe, Int.reduceAdd, Int.reduceSub, Int.reduceMul, Nat.reducePow, Int.reducePow, *])
            have hst := vec_store (q' := ⟨q.a, q.b, q.c, ((k + 2 : Nat) : Int)⟩) hg hr
            refine hR _ _ ⟨k + 2, by omega, h0, h1, rfl, .inr hcc, ?_⟩ ?_
            · rw [cls_succ, nxt, if_neg (by rw [hnew]; simpa using hb), hq, modLast_app]
              simp (maxSteps := 1000000) (dsimp := false) (disch := omega) only [go_sem, Nat.reduceEqDiff, Nat.reduceLT, Nat.reduceAdd, Nat.reduceMul, Nat.reduceSub, Nat.reduceBEq, Nat.reduceLeDiff, reduceCtorEq, ↓reduceIte, Int.reduceLT, Int.reduceLE, Int.reduceToNat, Int.reduceEq, Int.reduceNe, Int.reduceNeg, Int.reduceBEq, Int.reduceBNe, Int.reduceAdd, Int.reduceSub, Int.reduceMul, Nat.reducePow, Int.reducePow, *]
              exact hst
            · simp (maxSteps := 1000000) (dsimp := false) (disch := omega) only [go_sem, Nat.reduceEqDiff, Nat.reduceLT, Nat.reduceAdd, Nat.reduceMul, Nat.reduceSub, Nat.reduceBEq, Nat.reduceLeDiff, reduceCtorEq, ↓reduceIte, Int.reduceLT, Int.reduceLE, Int.reduceToNat, Int.reduceEq, Int.reduceNe, Int.reduceNeg, Int.reduceBEq, Int.reduceBNe, Int.reduceAdd, Int.reduceSub, Int.reduceMul, Nat.reducePow, Int.reducePow, *, natOf_int]
      · repeat' (first | refine wpB_seq ?_ | refine wpB_regionL rfl ?_ | refine wpB_block ?_ | refine wpB_skip ?_ | refine wpB_exit ?_ | refine wpB_ret ?_ | simp (maxSteps := 1000000) (dsimp := false) (disch := omega) only [go_sem, Nat.reduceEqDiff, Nat.reduceLT, Nat.reduceAdd, Nat.reduceMul, Nat.reduceSub, Nat.reduceBEq, Nat.reduceLeDiff, reduceCtorEq, ↓reduceIte, Int.reduceLT, Int.reduceLE, Int.reduceToNat, Int.reduceEq, Int.reduceNe, Int.reduceNeg, Int.reduceBEq, Int.reduceBNe, Int.reduceAdd, Int.reduceSub, Int.reduceMul, Nat.reducePow, Int.reducePow, *])
        have hck : ¬ checkOf l c = 0 := by simpa using hb
        have hk0 : k = 0 := hc.resolve_right hck
        subst hk0
        rcases h5 with ⟨h, hd⟩ | ⟨h, _⟩
        · rw [hd, clustersOf, if_neg hck]; rfl
        · simp [cls] at h
end Go.Proofs.Wt
end
/- The chapter on watching: what clusters are. -/
section
set_option maxHeartbeats 4000000
set_option linter.unusedVariables false
set_option linter.unusedSimpArgs false
namespace Go.Proofs.Wt
open Go Vm Go.Proofs.Zs30

/-- the clusters of the glyphs from a place to another -/
inductive Runs (l : List Gl) (c : Int) (n : Nat) : Nat → List Q → Prop
  | nil : Runs l c n n []
  | cons (f t : Nat) (G : List Q) (hft : f < t) (htn : t ≤ n) (hs : ∀ k, f ≤ k → k < t → bAt l k = bAt l f) (hn : t < n → bAt l t ≠ bAt l f) (h : Runs l c n t G) :
      Runs l c n f (⟨bAt l f, if t < n then bAt l t else c, f, t⟩ :: G)
theorem Runs.le {l : List Gl} {c : Int} {n f : Nat} {G : List Q} (h : Runs l c n f G) : f ≤ n := by
  induction h with
  | nil => exact Nat.le_refl _
  | cons f t G hft htn => omega
theorem Runs.len {l : List Gl} {c : Int} {n f : Nat} {G : List Q} (h : Runs l c n f G) : G.length + f ≤ n := by
  induction h with
  | nil => simp
  | cons f t G hft htn hs hn h ih => simp; omega
theorem modLast_cons (g : Q → Q) (q p : Q) (G : List Q) : modLast g (q :: p :: G) = q :: modLast g (p :: G) := by simp [modLast]
theorem Runs.step {l : List Gl} {c : Int} {k f : Nat} {G : List Q} (h : Runs l c k f G) (hf : f < k) :
    Runs l c (k + 1) f (modLast (fun q => { q with d := (k + 1 : Nat) }) (if newAt l k then modLast (fun q => { q with b := bAt l k }) G ++ [⟨bAt l k, c, k, k⟩] else G)) := by
  induction h with
  | nil => omega
  | cons f t G hft htn hs hn h ih =>
    cases h with
    | nil =>
      have hk1 : bAt l (k - 1) = bAt l f := hs (k - 1) (by omega) (by omega)
      have hk0 : (k == 0) = false := by simp; omega
      by_cases hnew : bAt l k = bAt l f
      · have : newAt l k = false := by simp [newAt, hk0, hk1, hnew]
        rw [this]
        have := Runs.cons (l := l) (c := c) (n := k + 1) f (k + 1) [] (by omega) (by omega) (fun j h1 h2 => by
          rcases Nat.lt_or_ge j k with h | h
          · exact hs j h1 h
          · have : j = k := by omega
            rw [this, hnew]) (fun h => by omega) .nil
        simpa [modLast] using this
      · have : newAt l k = true := by simp [newAt, hk0, hk1, hnew]
        rw [this]
        have h2 := Runs.cons (l := l) (c := c) (n := k + 1) k (k + 1) [] (by omega) (by omega) (fun j h1 h2 => by
          have : j = k := by omega
          rw [this]) (fun h => by omega) .nil
        have := Runs.cons (l := l) (c := c) (n := k + 1) f k _ (by omega) (by omega) hs (fun _ => hnew) h2
        simpa [modLast] using this
    | cons _ t' G' hft' htn' hs' hn' h' =>
      have ih := ih (by omega)
      have h1 : t < k := by omega
      have base := Runs.cons (l := l) (c := c) (n := k + 1) f t _ hft (by omega) hs (fun _ => hn h1) ih
      rw [if_pos (show t < k + 1 by omega)] at base
      rw [if_pos h1]
      by_cases hnew : newAt l k = true
      · rw [if_pos hnew] at base ⊢
        rw [modLast_cons, List.cons_append]
        obtain ⟨p, G2, hp⟩ : ∃ p G2, modLast (fun q => { q with b := bAt l k }) (⟨bAt l t, if t' < k then bAt l t' else c, t, t'⟩ :: G') ++ [⟨bAt l k, c, k, k⟩] = p :: G2 := by
          cases hh : modLast (fun q => { q with b := bAt l k }) (⟨bAt l t, if t' < k then bAt l t' else c, t, t'⟩ :: G') ++ [(⟨bAt l k, c, k, k⟩ : Q)] with
          | nil => simp at hh
          | cons p G2 => exact ⟨p, G2, rfl⟩
        rw [hp] at base ⊢
        rw [modLast_cons]
        exact base
      · rw [if_neg hnew] at base ⊢
        rw [modLast_cons]
        exact base
theorem cls_runs (l : List Gl) (c : Int) : ∀ k, Runs l c k 0 (cls l c k)
  | 0 => .nil
  | 1 => by
    have h := Runs.cons (l := l) (c := c) (n := 1) 0 1 [] (by omega) (by omega) (fun j _ h2 => by
      have : j = 0 := by omega
      rw [this]) (fun h => by omega) .nil
    have h1 : newAt l 0 = true := rfl
    simpa [cls, h1, modLast] using h
  | k + 2 => by
    have := (cls_runs l c (k + 1)).step (by omega)
    rw [cls_succ, nxt]
    exact this
/-- glyphs that may be -/
theorem check_facts {l : List Gl} {c : Int} (h : checkOf l c = 0) : (l ≠ [] → 0 < c ∧ bAt l 0 = 0) ∧ (∀ j, j + 1 < l.length → bAt l j ≤ bAt l (j + 1)) ∧ ∀ j, j < l.length → 0 ≤ bAt l j ∧ bAt l j < c := by
  unfold checkOf at h
  split at h
  · omega
  · rename_i h0
    split at h
    · omega
    · rename_i h1
      split at h
      · omega
      · rename_i h2
        split at h
        · omega
        · rename_i h3
          simp only [fault, Bool.not_eq_true, Bool.and_eq_false_iff, decide_eq_false_iff_not] at h0 h1 h2 h3
          refine ⟨fun hne => ?_, fun j hj => ?_, fun j hj => ?_⟩
          · have : 0 < l.length := List.length_pos_iff.2 hne
            refine ⟨?_, ?_⟩
            · rcases h0 with h | h <;> omega
            · rcases h1 with h | h
              · omega
              · simpa using h
          · simp only [down, List.any_eq_false, List.mem_range, decide_eq_true_eq] at h2
            have := h2 j (by omega)
            omega
          · simp only [outOf, List.any_eq_false] at h3
            have := h3 l[j] (List.getElem_mem hj)
            simp only [Bool.or_eq_true, decide_eq_true_eq, not_or] at this
            rw [bAt_get hj]
            omega
theorem mono_le {l : List Gl} (h : ∀ j, j + 1 < l.length → bAt l j ≤ bAt l (j + 1)) {i : Nat} : ∀ {j : Nat}, i ≤ j → j < l.length → bAt l i ≤ bAt l j := by
  intro j hij
  induction hij with
  | refl => intro _; omega
  | @step m hij ih =>
    intro hj
    have h1 := ih (by omega)
    have h2 := h m hj
    exact Int.le_trans h1 h2
theorem own_char {i : Int} : ∀ {l : List Gl} {k : Nat} {a : Int}, k < l.length → bAt l k ≤ i → (∀ j, k < j → j < l.length → i < bAt l j) → own l i a = bAt l k
  | [], k, a, hk, _, _ => by simp at hk
  | g :: r, 0, a, hk, h1, h2 => by
    simp only [own]
    have hb : g.b ≤ i := h1
    rw [if_pos hb]
    have : ∀ (r : List Gl) (a : Int), (∀ j, j < r.length → i < bAt r j) → own r i a = a := by
      intro r
      induction r with
      | nil => intro a _; rfl
      | cons x r ih =>
        intro a h
        simp only [own]
        have hx : i < x.b := h 0 (by simp)
        rw [if_neg (by omega)]
        exact ih a (fun j hj => h (j + 1) (by simpa using hj))
    exact this r g.b (fun j hj => h2 (j + 1) (by omega) (by simpa using hj))
  | g :: r, k + 1, a, hk, h1, h2 => by
    simp only [own]
    exact own_char (l := r) (k := k) (by simpa using hk) h1 (fun j h3 h4 => h2 (j + 1) (by omega) (by simpa using h4))
def hasQ (i : Int) (q : Q) : Bool := decide (q.a ≤ i) && decide (i < q.b)
/-- the cluster that has a code -/
theorem runs_find {l : List Gl} {c i : Int} (hm : ∀ j, j + 1 < l.length → bAt l j ≤ bAt l (j + 1)) {f : Nat} {G : List Q} (h : Runs l c l.length f G) (hic : i < c) :
    (∀ q, G.find? (hasQ i) = some q → q.a = own l i (-1)) ∧ (f < l.length → bAt l f ≤ i → (G.find? (hasQ i)).isSome) := by
  induction h with
  | nil => exact ⟨fun q h => by simp at h, fun h => by omega⟩
  | cons f t G hft htn hs hn h ih =>
    obtain ⟨ih1, ih2⟩ := ih
    simp only [List.find?_cons]
    by_cases hq : hasQ i ⟨bAt l f, if t < l.length then bAt l t else c, f, t⟩ = true
    · rw [hq]
      refine ⟨fun q h => ?_, fun _ _ => rfl⟩
      simp only [Option.some.injEq] at h
      subst h
      simp only [hasQ, Bool.and_eq_true, decide_eq_true_eq] at hq
      have ht := hs (t - 1) (by omega) (by omega)
      have := own_char (i := i) (l := l) (k := t - 1) (a := -1) (by omega) (by omega) (fun j h1 h2 => by
        have h3 : t < l.length := by omega
        rw [if_pos h3] at hq
        have := mono_le hm (i := t) (j := j) (by omega) h2
        omega)
      rw [this, ht]
    · have hq : hasQ i ⟨bAt l f, if t < l.length then bAt l t else c, f, t⟩ = false := by simpa using hq
      rw [hq]
      refine ⟨ih1, fun _ hb => ?_⟩
      have : ¬ i < (if t < l.length then bAt l t else c) := fun hlt => by
        have : hasQ i ⟨bAt l f, if t < l.length then bAt l t else c, f, t⟩ = true := by simp [hasQ, hb, hlt]
        rw [this] at hq; cases hq
      by_cases ht : t < l.length
      · rw [if_pos ht] at this
        exact ih2 ht (by omega)
      · rw [if_neg ht] at this; omega
theorem clusters_runs {l : List Gl} {c : Int} (h : checkOf l c = 0) : Runs l c l.length 0 (clustersOf l c) := by
  rw [clustersOf, if_pos h]; exact cls_runs l c l.length
theorem clusters_len (l : List Gl) (c : Int) : (clustersOf l c).length ≤ l.length := by
  unfold clustersOf
  split
  · exact cls_len l c l.length
  · simp
/-- whom a code is of, by clusters -/
theorem owner_find (l : List Gl) (c i : Int) (hi : 0 ≤ i) (hic : i < c) : ownerOf l c i = (((clustersOf l c).find? (hasQ i)).map Q.a).getD (-1) := by
  by_cases hc : checkOf l c = 0
  · have hr := clusters_runs hc
    obtain ⟨h1, h2, h3⟩ := check_facts hc
    obtain ⟨g1, g2⟩ := runs_find h2 hr hic
    rw [ownerOf, if_neg (by simp [hc]; omega)]
    cases hf : (clustersOf l c).find? (hasQ i) with
    | some q => simp [g1 q hf]
    | none =>
      by_cases hl : l = []
      · subst hl; rfl
      · have := g2 (List.length_pos_iff.2 hl) (by have := (h1 hl).2; omega)
        rw [hf] at this; cases this
  · rw [ownerOf, if_pos (.inl hc), clustersOf, if_neg hc]; rfl
end Go.Proofs.Wt
end
/- The chapter on watching: clusters, one behind the other. -/
section
set_option maxHeartbeats 4000000
set_option linter.unusedVariables false
set_option linter.unusedSimpArgs false
namespace Go.Proofs.Wt
open Go Vm Go.Proofs.Zs30

theorem runs_uncons {l : List Gl} {c : Int} {n f : Nat} {G : List Q} (h : Runs l c n f G) (hf : f < n) : ∃ t G', f < t ∧ t ≤ n ∧ (∀ k, f ≤ k → k < t → bAt l k = bAt l f) ∧ (t < n → bAt l t ≠ bAt l f) ∧ Runs l c n t G' ∧ G = ⟨bAt l f, if t < n then bAt l t else c, f, t⟩ :: G' := by
  cases h with
  | nil => omega
  | cons _ t G hft htn hs hn h => exact ⟨t, G, hft, htn, hs, hn, h, rfl⟩
theorem runs_end {l : List Gl} {c : Int} {n f : Nat} {G : List Q} (h : Runs l c n f G) (hf : ¬ f < n) : G = [] := by
  cases h with
  | nil => rfl
  | cons _ t G hft htn hs hn h => have := h.le; omega
/-- the iterator: each cluster is handed on -/
theorem clustersF_ok (l : List Gl) (hl : l.length ≤ 1000) (c : Int) {r r1 r2 : Nat} {H : Heap} {J : List Q → Heap → Prop}
    (hr1 : ∀ G H, J G H → r1 < H.length ∧ hget H r1 = .arr [glD l] ∧ r2 < H.length ∧ hget H r2 = .arr [.int .i64 c])
    (hJ : ∀ pre q suf H, clustersOf l c = pre ++ q :: suf → J pre H → EvF Try.prog A (Try.prog.funcs.size + r) [q.dd] H (fun d H' => d = .bool true ∧ J (pre ++ [q]) H') (fun _ _ => False))
    (hc : checkOf l c = 0) (h0 : J [] H) : EvF Try.prog A 29 [.yld r, .ptr r1 0 0, .ptr r2 0 0] H (fun _ H' => J (clustersOf l c) H') (fun _ _ => False) := by
  refine evF_inB (n := 54) (rs := []) Try.func29 rfl rfl rfl rfl rfl rfl ?_
  repeat' (first | refine wpB_seq ?_ | refine wpB_regionL rfl ?_ | refine wpB_block ?_ | refine wpB_skip ?_ | refine wpB_exit ?_ | refine wpB_ret ?_ | simp (maxSteps := 1000000) (dsimp := false) (disch := omega) only [go_sem, Nat.reduceEqDiff, Nat.reduceLT, Nat.reduceAdd, Nat.reduceMul, Nat.reduceSub, Nat.reduceBEq, Nat.reduceLeDiff, reduceCtorEq, ↓reduceIte, Int.reduceLT, Int.reduceLE, Int.reduceToNat, Int.reduceEq, Int.reduceNe, Int.reduceNeg, Int.reduceBEq, Int.reduceBNe, Int.reduceAdd, Int.reduceSub, Int.reduceMul, Nat.reducePow, Int.reducePow, *])
  refine wpB_loop (fun e H => ∃ (f : Nat) (pre suf : List Q), f ≤ l.length ∧ e 0 = .yld r ∧ e 1 = .ptr r1 0 0 ∧ e 2 = .ptr r2 0 0 ∧ e 4 = .int .i64 f ∧ clustersOf l c = pre ++ suf ∧ Runs l c l.length f suf ∧ J pre H) (fun e H => l.length - natOf (e 4)) ?_ ?_
  · exact ⟨0, [], clustersOf l c, Nat.zero_le _, rfl, rfl, rfl, rfl, rfl, clusters_runs hc, h0⟩
  · rintro e H ⟨f, pre, suf, hf, e0, e1, e2, e4, hps, hru, hJp⟩ R hR
    obtain ⟨g1, g2, g3, g4⟩ := hr1 _ _ hJp
    repeat' (first | refine wpB_seq ?_ | refine wpB_regionL rfl ?_ | refine wpB_block ?_ | refine wpB_skip ?_ | refine wpB_exit ?_ | refine wpB_ret ?_ | simp (maxSteps := 1000000) (dsimp := false) (disch := omega) only [go_sem, Nat.reduceEqDiff, Nat.reduceLT, Nat.reduceAdd, Nat.reduceMul, Nat.reduceSub, Nat.reduceBEq, Nat.reduceLeDiff, reduceCtorEq, ↓reduceIte, Int.reduceLT, Int.reduceLE, Int.reduceToNat, Int.reduceEq, Int.reduceNe, Int.reduceNeg, Int.reduceBEq, Int.reduceBNe, Int.reduceAdd, Int.reduceSub, Int.reduceMul, Nat.reducePow, Int.reducePow, *])
    refine wpB_cond (by simp (maxSteps := 1000000) (dsimp := false) (disch := omega) only [go_sem, Nat.reduceEqDiff, Nat.reduceLT, Nat.reduceAdd, Nat.reduceMul, Nat.reduceSub, Nat.reduceBEq, Nat.reduceLeDiff, reduceCtorEq, ↓reduceIte, Int.reduceLT, Int.reduceLE, Int.reduceToNat, Int.reduceEq, Int.reduceNe, Int.reduceNeg, Int.reduceBEq, Int.reduceBNe, Int.reduceAdd, Int.reduceSub, Int.reduceMul, Nat.reducePow, Int.reducePow, *]; exact rfl) (fun hb => ?_) (fun hb => ?_) <;> try simp (maxSteps := 1000000) (dsimp := false) (disch := omega) only [go_sem, Nat.reduceEqDiff, Nat.reduceLT, Nat.reduceAdd, Nat.reduceMul, Nat.reduceSub, Nat.reduceBEq, Nat.reduceLeDiff, reduceCtorEq, ↓reduceIte, Int.reduceLT, Int.reduceLE, Int.reduceToNat, Int.reduceEq, Int.reduceNe, Int.reduceNeg, Int.reduceBEq, Int.reduceBNe, Int.reduceAdd, Int.reduceSub, Int.reduceMul, Nat.reducePow, Int.reducePow, decide_eq_true_eq, decide_eq_false_iff_not, Bool.not_eq_true, Bool.not_eq_false, Int.not_lt, Int.not_le] at hb
    · obtain ⟨t, suf', hft, htn, hs, hn, hru', rfl⟩ := runs_uncons hru hb
      repeat' (first | refine wpB_seq ?_ | refine wpB_regionL rfl ?_ | refine wpB_block ?_ | refine wpB_skip ?_ | refine wpB_exit ?_ | refine wpB_ret ?_ | simp (maxSteps := 1000000) (dsimp := false) (disch := omega) only [go_sem, Nat.reduceEqDiff, Nat.reduceLT, Nat.reduceAdd, Nat.reduceMul, Nat.reduceSub, Nat.reduceBEq, Nat.reduceLeDiff, reduceCtorEq, ↓reduceIte, Int.reduceLT, Int.reduceLE, Int.reduceToNat, Int.reduceEq, Int.reduceNe, Int.reduceNeg, Int.reduceBEq, Int.reduceBNe, Int.reduceAdd, Int.reduceSub, Int.reduceMul, Nat.reducePow, Int.reducePow, *])
      refine wpB_loop (fun e H' => ∃ k : Nat, f ≤ k ∧ k ≤ t ∧ e 0 = .yld r ∧ e 1 = .ptr r1 0 0 ∧ e 2 = .ptr r2 0 0 ∧ e 4 = .int .i64 f ∧ e 5 = .int .i64 k ∧ H' = H) (fun e H => t - natOf (e 5)) ?_ ?_
      · exact ⟨f, Nat.le_refl _, by omega, e0, e1, e2, e4, rfl, rfl⟩
      · have o4 := e4
        clear e0 e1 e2 e4
        rintro e H' ⟨k, hk1, hk2, e0, e1, e2, e4, e5, rfl⟩ R' hR'
        have hfl : f < l.length := by omega
        by_cases hkt : k < t
        · have hkl : k < l.length := by omega
          have heq : (l[k].b == l[f].b) = true := by
            have := hs k hk1 hkt
            rw [bAt_get hkl, bAt_get hfl] at this
            simp [this]
          repeat' (first | refine wpB_seq ?_ | refine wpB_regionL rfl ?_ | refine wpB_block ?_ | refine wpB_skip ?_ | refine wpB_exit ?_ | refine wpB_ret ?_ | simp (maxSteps := 1000000) (dsimp := false) (disch := omega) only [go_sem, Nat.reduceEqDiff, Nat.reduceLT, Nat.reduceAdd, Nat.reduceMul, Nat.reduceSub, Nat.reduceBEq, Nat.reduceLeDiff, reduceCtorEq, ↓reduceIte, Int.reduceLT, Int.reduceLE, Int.reduceToNat, Int.reduceEq, Int.reduceNe, Int.reduceNeg, Int.reduceBEq, Int.reduceBNe, Int.reduceAdd, Int.reduceSub, Int.reduceMul, Nat.reducePow, Int.reducePow, *])
          refine wpB_regionXL (by kernel_rfl) rfl ?_; simp (maxSteps := 1000000) (dsimp := false) (disch := omega) only [go_sem, Nat.reduceEqDiff, Nat.reduceLT, Nat.reduceAdd, Nat.reduceMul, Nat.reduceSub, Nat.reduceBEq, Nat.reduceLeDiff, reduceCtorEq, ↓reduceIte, Int.reduceLT, Int.reduceLE, Int.reduceToNat, Int.reduceEq, Int.reduceNe, Int.reduceNeg, Int.reduceBEq, Int.reduceBNe, Int.reduceAdd, Int.reduceSub, Int.reduceMul, Nat.reducePow, Int.reducePow, *]
          repeat' (first | refine wpB_seq ?_ | refine wpB_regionL rfl ?_ | refine wpB_block ?_ | refine wpB_skip ?_ | refine wpB_exit ?_ | refine wpB_ret ?_ | simp (maxSteps := 1000000) (dsimp := false) (disch := omega) only [go_sem, Nat.reduceEqDiff, Nat.reduceLT, Nat.reduceAdd, Nat.reduceMul, Nat.reduceSub, Nat.reduceBEq, Nat.reduceLeDiff, reduceCtorEq, ↓reduceIte, Int.reduceLT, Int.reduceLE, Int.reduceToNat, Int.reduceEq, Int.reduceNe, Int.reduceNeg, Int.reduceBEq, Int.reduceBNe, Int.reduceAdd, Int.reduceSub, Int.reduceMul, Nat.reducePow, Int.reducePow, *])
          refine wpB_cond (by simp (maxSteps := 1000000) (dsimp := false) (disch := omega) only [go_sem, Nat.reduceEqDiff, Nat.reduceLT, Nat.reduceAdd, Nat.reduceMul, Nat.reduceSub, Nat.reduceBEq, Nat.reduceLeDiff, reduceCtorEq, ↓reduceIte, Int.reduceLT, Int.reduceLE, Int.reduceToNat, Int.reduceEq, Int.reduceNe, Int.reduceNeg, Int.reduceBEq, Int.reduceBNe, Int.reduceAdd, Int.reduceSub, Int.reduceMul, Nat.reducePow, Int.reducePow, *]; exact rfl) (fun hb2 => ?_) (fun hb2 => ?_) <;> try simp (maxSteps := 1000000) (dsimp := false) (disch := omega) only [go_sem, Nat.reduceEqDiff, Nat.reduceLT, Nat.reduceAdd, Nat.reduceMul, Nat.reduceSub, Nat.reduceBEq, Nat.reduceLeDiff, reduceCtorEq, ↓reduceIte, Int.reduceLT, Int.reduceLE, Int.reduceToNat, Int.reduceEq, Int.reduceNe, Int.reduceNeg, Int.reduceBEq, Int.reduceBNe, Int.reduceAdd, Int.reduceSub, Int.reduceMul, Nat.reducePow, Int.reducePow, decide_eq_true_eq, decide_eq_false_iff_not, Bool.not_eq_true, Bool.not_eq_false, Int.not_lt, Int.not_le] at hb2
          repeat' (first | refine wpB_seq ?_ | refine wpB_regionL rfl ?_ | refine wpB_block ?_ | refine wpB_skip ?_ | refine wpB_exit ?_ | refine wpB_ret ?_ | simp (maxSteps := 1000000) (dsimp := false) (disch := omega) only [go_sem, Nat.reduceEqDiff, Nat.reduceLT, Nat.reduceAdd, Nat.reduceMul, Nat.reduceSub, Nat.reduceBEq, Nat.reduceLeDiff, reduceCtorEq, ↓reduceIte, Int.reduceLT, Int.reduceLE, Int.reduceToNat, Int.reduceEq, Int.reduceNe, Int.reduceNeg, Int.reduceBEq, Int.reduceBNe, Int.reduceAdd, Int.reduceSub, Int.reduceMul, Nat.reducePow, Int.reducePow, *])
          refine hR' _ _ ⟨k + 1, by omega, by omega, e0, e1, e2, e4, rfl, rfl⟩ ?_
          simp (maxSteps := 1000000) (dsimp := false) (disch := omega) only [go_sem, Nat.reduceEqDiff, Nat.reduceLT, Nat.reduceAdd, Nat.reduceMul, Nat.reduceSub, Nat.reduceBEq, Nat.reduceLeDiff, reduceCtorEq, ↓reduceIte, Int.reduceLT, Int.reduceLE, Int.reduceToNat, Int.reduceEq, Int.reduceNe, Int.reduceNeg, Int.reduceBEq, Int.reduceBNe, Int.reduceAdd, Int.reduceSub, Int.reduceMul, Nat.reducePow, Int.reducePow, *, natOf_int]
        · have hkt : k = t := by omega
          subst hkt
          by_cases htl : k < l.length
          · have heq : (l[k].b == l[f].b) = false := by
              have := hn htl
              rw [bAt_get htl, bAt_get hfl] at this
              simp [this]
            repeat' (first | refine wpB_seq ?_ | refine wpB_regionL rfl ?_ | refine wpB_block ?_ | refine wpB_skip ?_ | refine wpB_exit ?_ | refine wpB_ret ?_ | simp (maxSteps := 1000000) (dsimp := false) (disch := omega) only [go_sem, Nat.reduceEqDiff, Nat.reduceLT, Nat.reduceAdd, Nat.reduceMul, Nat.reduceSub, Nat.reduceBEq, Nat.reduceLeDiff, reduceCtorEq, ↓reduceIte, Int.reduceLT, Int.reduceLE, Int.reduceToNat, Int.reduceEq, Int.reduceNe, Int.reduceNeg, Int.reduceBEq, Int.reduceBNe, Int.reduceAdd, Int.reduceSub, Int.reduceMul, Nat.reducePow, Int.reducePow, *])
            refine wpB_regionXL (by kernel_rfl) rfl ?_; simp (maxSteps := 1000000) (dsimp := false) (disch := omega) only [go_sem, Nat.reduceEqDiff, Nat.reduceLT, Nat.reduceAdd, Nat.reduceMul, Nat.reduceSub, Nat.reduceBEq, Nat.reduceLeDiff, reduceCtorEq, ↓reduceIte, Int.reduceLT, Int.reduceLE, Int.reduceToNat, Int.reduceEq, Int.reduceNe, Int.reduceNeg, Int.reduceBEq, Int.reduceBNe, Int.reduceAdd, Int.reduceSub, Int.reduceMul, Nat.reducePow, Int.reducePow, *]
            refine wpB_cond (by simp (maxSteps := 1000000) (dsimp := false) (disch := omega) only [go_sem, Nat.reduceEqDiff, Nat.reduceLT, Nat.reduceAdd, Nat.reduceMul, Nat.reduceSub, Nat.reduceBEq, Nat.reduceLeDiff, reduceCtorEq, ↓reduceIte, Int.reduceLT, Int.reduceLE, Int.reduceToNat, Int.reduceEq, Int.reduceNe, Int.reduceNeg, Int.reduceBEq, Int.reduceBNe, Int.reduceAdd, Int.reduceSub, Int.reduceMul, Nat.reducePow, Int.reducePow, *]; exact rfl) (fun hb2 => ?_) (fun hb2 => ?_) <;> try simp (maxSteps := 1000000) (dsimp := false) (disch := omega) only [go_sem, Nat.reduceEqDiff, Nat.reduceLT, Nat.reduceAdd, Nat.reduceMul, Nat.reduceSub, Nat.reduceBEq, Nat.reduceLeDiff, reduceCtorEq, ↓reduceIte, Int.reduceLT, Int.reduceLE, Int.reduceToNat, Int.reduceEq, Int.reduceNe, Int.reduceNeg, Int.reduceBEq, Int.reduceBNe, Int.reduceAdd, Int.reduceSub, Int.reduceMul, Nat.reducePow, Int.reducePow, decide_eq_true_eq, decide_eq_false_iff_not, Bool.not_eq_true, Bool.not_eq_false, Int.not_lt, Int.not_le] at hb2
            repeat' (first | refine wpB_seq ?_ | refine wpB_regionL rfl ?_ | refine wpB_block ?_ | refine wpB_skip ?_ | refine wpB_exit ?_ | refine wpB_ret ?_ | simp (maxSteps := 1000000) (dsimp := false) (disch := omega) only [go_sem, Nat.reduceEqDiff, Nat.reduceLT, Nat.reduceAdd, Nat.reduceMul, Nat.reduceSub, Nat.reduceBEq, Nat.reduceLeDiff, reduceCtorEq, ↓reduceIte, Int.reduceLT, Int.reduceLE, Int.reduceToNat, Int.reduceEq, Int.reduceNe, Int.reduceNeg, Int.reduceBEq, Int.reduceBNe, Int.reduceAdd, Int.reduceSub, Int.reduceMul, Nat.reducePow, Int.reducePow, *])
            refine wpB_cond (by simp (maxSteps := 1000000) (dsimp := false) (disch := omega) only [go_sem, Nat.reduceEqDiff, Nat.reduceLT, Nat.reduceAdd, Nat.reduceMul, Nat.reduceSub, Nat.reduceBEq, Nat.reduceLeDiff, reduceCtorEq, ↓reduceIte, Int.reduceLT, Int.reduceLE, Int.reduceToNat, Int.reduceEq, Int.reduceNe, Int.reduceNeg, Int.reduceBEq, Int.reduceBNe, Int.reduceAdd, Int.reduceSub, Int.reduceMul, Nat.reducePow, Int.reducePow, *]; exact rfl) (fun hb3 => ?_) (fun hb3 => ?_) <;> try simp (maxSteps := 1000000) (dsimp := false) (disch := omega) only [go_sem, Nat.reduceEqDiff, Nat.reduceLT, Nat.reduceAdd, Nat.reduceMul, Nat.reduceSub, Nat.reduceBEq, Nat.reduceLeDiff, reduceCtorEq, ↓reduceIte, Int.reduceLT, Int.reduceLE, Int.reduceToNat, Int.reduceEq, Int.reduceNe, Int.reduceNeg, Int.reduceBEq, Int.reduceBNe, Int.reduceAdd, Int.reduceSub, Int.reduceMul, Nat.reducePow, Int.reducePow, decide_eq_true_eq, decide_eq_false_iff_not, Bool.not_eq_true, Bool.not_eq_false, Int.not_lt, Int.not_le] at hb3
            have hq := hJ pre _ suf' _ hps hJp
            simp only [Q.dd, bAt_get hfl, bAt_get htl, if_pos htl] at hq
            repeat' (first | refine wpB_seq ?_ | refine wpB_regionL rfl ?_ | refine wpB_block ?_ | refine wpB_skip ?_ | refine wpB_exit ?_ | refine wpB_ret ?_ | simp (maxSteps := 1000000) (dsimp := false) (disch := omega) only [go_sem, Nat.reduceEqDiff, Nat.reduceLT, Nat.reduceAdd, Nat.reduceMul, Nat.reduceSub, Nat.reduceBEq, Nat.reduceLeDiff, reduceCtorEq, ↓reduceIte, Int.reduceLT, Int.reduceLE, Int.reduceToNat, Int.reduceEq, Int.reduceNe, Int.reduceNeg, Int.reduceBEq, Int.reduceBNe, Int.reduceAdd, Int.reduceSub, Int.reduceMul, Nat.reducePow, Int.reducePow, *])
            refine evFB_use hq ?_ (fun _ _ h => h.elim)
            rintro d H2 ⟨rfl, hJ2⟩
            simp (maxSteps := 1000000) (dsimp := false) (disch := omega) only [go_sem, Nat.reduceEqDiff, Nat.reduceLT, Nat.reduceAdd, Nat.reduceMul, Nat.reduceSub, Nat.reduceBEq, Nat.reduceLeDiff, reduceCtorEq, ↓reduceIte, Int.reduceLT, Int.reduceLE, Int.reduceToNat, Int.reduceEq, Int.reduceNe, Int.reduceNeg, Int.reduceBEq, Int.reduceBNe, Int.reduceAdd, Int.reduceSub, Int.reduceMul, Nat.reducePow, Int.reducePow, *]
            refine wpB_cond (by simp (maxSteps := 1000000) (dsimp := false) (disch := omega) only [go_sem, Nat.reduceEqDiff, Nat.reduceLT, Nat.reduceAdd, Nat.reduceMul, Nat.reduceSub, Nat.reduceBEq, Nat.reduceLeDiff, reduceCtorEq, ↓reduceIte, Int.reduceLT, Int.reduceLE, Int.reduceToNat, Int.reduceEq, Int.reduceNe, Int.reduceNeg, Int.reduceBEq, Int.reduceBNe, Int.reduceAdd, Int.reduceSub, Int.reduceMul, Nat.reducePow, Int.reducePow, *]; exact rfl) (fun hb4 => ?_) (fun hb4 => ?_) <;> try simp (maxSteps := 1000000) (dsimp := false) (disch := omega) only [go_sem, Nat.reduceEqDiff, Nat.reduceLT, Nat.reduceAdd, Nat.reduceMul, Nat.reduceSub, Nat.reduceBEq, Nat.reduceLeDiff, reduceCtorEq, ↓reduceIte, Int.reduceLT, Int.reduceLE, Int.reduceToNat, Int.reduceEq, Int.reduceNe, Int.reduceNeg, Int.reduceBEq, Int.reduceBNe, Int.reduceAdd, Int.reduceSub, Int.reduceMul, Nat.reducePow, Int.reducePow, decide_eq_true_eq, decide_eq_false_iff_not, Bool.not_eq_true, Bool.not_eq_false, Int.not_lt, Int.not_le] at hb4
            repeat' (first | refine wpB_seq ?_ | refine wpB_regionL rfl ?_ | refine wpB_block ?_ | refine wpB_skip ?_ | refine wpB_exit ?_ | refine wpB_ret ?_ | simp (maxSteps := 1000000) (dsimp := false) (disch := omega) only [go_sem, Nat.reduceEqDiff, Nat.reduceLT, Nat.reduceAdd, Nat.reduceMul, Nat.reduceSub, Nat.reduceBEq, Nat.reduceLeDiff, reduceCtorEq, ↓reduceIte, Int.reduceLT, Int.reduceLE, Int.reduceToNat, Int.reduceEq, Int.reduceNe, Int.reduceNeg, Int.reduceBEq, Int.reduceBNe, Int.reduceAdd, Int.reduceSub, Int.reduceMul, Nat.reducePow, Int.reducePow, *])
            refine hR _ _ ⟨k, pre ++ [_], suf', by omega, e0, e1, e2, rfl, by rw [hps]; simp [bAt_get hfl, bAt_get htl, htl], hru', hJ2⟩ ?_
            simp (maxSteps := 1000000) (dsimp := false) (disch := omega) only [go_sem, Nat.reduceEqDiff, Nat.reduceLT, Nat.reduceAdd, Nat.reduceMul, Nat.reduceSub, Nat.reduceBEq, Nat.reduceLeDiff, reduceCtorEq, ↓reduceIte, Int.reduceLT, Int.reduceLE, Int.reduceToNat, Int.reduceEq, Int.reduceNe, Int.reduceNeg, Int.reduceBEq, Int.reduceBNe, Int.reduceAdd, Int.reduceSub, Int.reduceMul, Nat.reducePow, Int.reducePow, *, natOf_int]
          · repeat' (first | refine wpB_seq ?_ | refine wpB_regionL rfl ?_ | refine wpB_block ?_ | refine wpB_skip ?_ | refine wpB_exit ?_ | refine wpB_ret ?_ | simp (maxSteps := 1000000) (dsimp := false) (disch := omega) only [go_sem, Nat.reduceEqDiff, Nat.reduceLT, Nat.reduceAdd, Nat.reduceMul, Nat.reduceSub, Nat.reduceBEq, Nat.reduceLeDiff, reduceCtorEq, ↓reduceIte, Int.reduceLT, Int.reduceLE, Int.reduceToNat, Int.reduceEq, Int.reduceNe, Int.reduceNeg, Int.reduceBEq, Int.reduceBNe, Int.reduceAdd, Int.reduceSub, Int.reduceMul, Nat.reducePow, Int.reducePow, *])
            refine wpB_regionXL (by kernel_rfl) rfl ?_; simp (maxSteps := 1000000) (dsimp := false) (disch := omega) only [go_sem, Nat.reduceEqDiff, Nat.reduceLT, Nat.reduceAdd, Nat.reduceMul, Nat.reduceSub, Nat.reduceBEq, Nat.reduceLeDiff, reduceCtorEq, ↓reduceIte, Int.reduceLT, Int.reduceLE, Int.reduceToNat, Int.reduceEq, Int.reduceNe, Int.reduceNeg, Int.reduceBEq, Int.reduceBNe, Int.reduceAdd, Int.reduceSub, Int.reduceMul, Nat.reducePow, Int.reducePow, *]
            refine wpB_cond (by simp (maxSteps := 1000000) (dsimp := false) (disch := omega) only [go_sem, Nat.reduceEqDiff, Nat.reduceLT, Nat.reduceAdd, Nat.reduceMul, Nat.reduceSub, Nat.reduceBEq, Nat.reduceLeDiff, reduceCtorEq, ↓reduceIte, Int.reduceLT, Int.reduceLE, Int.reduceToNat, Int.reduceEq, Int.reduceNe, Int.reduceNeg, Int.reduceBEq, Int.reduceBNe, Int.reduceAdd, Int.reduceSub, Int.reduceMul, Nat.reducePow, Int.reducePow, *]; exact rfl) (fun hb2 => ?_) (fun hb2 => ?_) <;> try simp (maxSteps := 1000000) (dsimp := false) (disch := omega) only [go_sem, Nat.reduceEqDiff, Nat.reduceLT, Nat.reduceAdd, Nat.reduceMul, Nat.reduceSub, Nat.reduceBEq, Nat.reduceLeDiff, reduceCtorEq, ↓reduceIte, Int.reduceLT, Int.reduceLE, Int.reduceToNat, Int.reduceEq, Int.reduceNe, Int.reduceNeg, Int.reduceBEq, Int.reduceBNe, Int.reduceAdd, Int.reduceSub, Int.reduceMul, Nat.reducePow, Int.reducePow, decide_eq_true_eq, decide_eq_false_iff_not, Bool.not_eq_true, Bool.not_eq_false, Int.not_lt, Int.not_le] at hb2
            repeat' (first | refine wpB_seq ?_ | refine wpB_regionL rfl ?_ | refine wpB_block ?_ | refine wpB_skip ?_ | refine wpB_exit ?_ | refine wpB_ret ?_ | simp (maxSteps := 1000000) (dsimp := false) (disch := omega) only [go_sem, Nat.reduceEqDiff, Nat.reduceLT, Nat.reduceAdd, Nat.reduceMul, Nat.reduceSub, Nat.reduceBEq, Nat.reduceLeDiff, reduceCtorEq, ↓reduceIte, Int.reduceLT, Int.reduceLE, Int.reduceToNat, Int.reduceEq, Int.reduceNe, Int.reduceNeg, Int.reduceBEq, Int.reduceBNe, Int.reduceAdd, Int.reduceSub, Int.reduceMul, Nat.reducePow, Int.reducePow, *])
            refine wpB_cond (by simp (maxSteps := 1000000) (dsimp := false) (disch := omega) only [go_sem, Nat.reduceEqDiff, Nat.reduceLT, Nat.reduceAdd, Nat.reduceMul, Nat.reduceSub, Nat.reduceBEq, Nat.reduceLeDiff, reduceCtorEq, ↓reduceIte, Int.reduceLT, Int.reduceLE, Int.reduceToNat, Int.reduceEq, Int.reduceNe, Int.reduceNeg, Int.reduceBEq, Int.reduceBNe, Int.reduceAdd, Int.reduceSub, Int.reduceMul, Nat.reducePow, Int.reducePow, *]; exact rfl) (fun hb3 => ?_) (fun hb3 => ?_) <;> try simp (maxSteps := 1000000) (dsimp := false) (disch := omega) only [go_sem, Nat.reduceEqDiff, Nat.reduceLT, Nat.reduceAdd, Nat.reduceMul, Nat.reduceSub, Nat.reduceBEq, Nat.reduceLeDiff, reduceCtorEq, ↓reduceIte, Int.reduceLT, Int.reduceLE, Int.reduceToNat, Int.reduceEq, Int.reduceNe, Int.reduceNeg, Int.reduceBEq, Int.reduceBNe, Int.reduceAdd, Int.reduceSub, Int.reduceMul, Nat.reducePow, Int.reducePow, decide_eq_true_eq, decide_eq_false_iff_not, Bool.not_eq_true, Bool.not_eq_false, Int.not_lt, Int.not_le] at hb3
            have hq := hJ pre _ suf' _ hps hJp
            simp only [Q.dd, bAt_get hfl, if_neg htl] at hq
            repeat' (first | refine wpB_seq ?_ | refine wpB_regionL rfl ?_ | refine wpB_block ?_ | refine wpB_skip ?_ | refine wpB_exit ?_ | refine wpB_ret ?_ | simp (maxSteps := 1000000) (dsimp := false) (disch := omega) only [go_sem, Nat.reduceEqDiff, Nat.reduceLT, Nat.reduceAdd, Nat.reduceMul, Nat.reduceSub, Nat.reduceBEq, Nat.reduceLeDiff, reduceCtorEq, ↓reduceIte, Int.reduceLT, Int.reduceLE, Int.reduceToNat, Int.reduceEq, Int.reduceNe, Int.reduceNeg, Int.reduceBEq, Int.reduceBNe, Int.reduceAdd, Int.reduceSub, Int.reduceMul, Nat.reducePow, Int.reducePow, *])
            refine evFB_use hq ?_ (fun _ _ h => h.elim)
            rintro d H2 ⟨rfl, hJ2⟩
            simp (maxSteps := 1000000) (dsimp := false) (disch := omega) only [go_sem, Nat.reduceEqDiff, Nat.reduceLT, Nat.reduceAdd, Nat.reduceMul, Nat.reduceSub, Nat.reduceBEq, Nat.reduceLeDiff, reduceCtorEq, ↓reduceIte, Int.reduceLT, Int.reduceLE, Int.reduceToNat, Int.reduceEq, Int.reduceNe, Int.reduceNeg, Int.reduceBEq, Int.reduceBNe, Int.reduceAdd, Int.reduceSub, Int.reduceMul, Nat.reducePow, Int.reducePow, *]
            refine wpB_cond (by simp (maxSteps := 1000000) (dsimp := false) (disch := omega) only [go_sem, Nat.reduceEqDiff, Nat.reduceLT, Nat.reduceAdd, Nat.reduceMul, Nat.reduceSub, Nat.reduceBEq, Nat.reduceLeDiff, reduceCtorEq, ↓reduceIte, Int.reduceLT, Int.reduceLE, Int.reduceToNat, Int.reduceEq, Int.reduceNe, Int.reduceNeg, Int.reduceBEq, Int.reduceBNe, Int.reduceAdd, Int.reduceSub, Int.reduceMul, Nat.reducePow, Int.reducePow, *]; exact rfl) (fun hb4 => ?_) (fun hb4 => ?_) <;> try simp (maxSteps := 1000000) (dsimp := false) (disch := omega) only [go_sem, Nat.reduceEqDiff, Nat.reduceLT, Nat.reduceAdd, Nat.reduceMul, Nat.reduceSub, Nat.reduceBEq, Nat.reduceLeDiff, reduceCtorEq, ↓reduceIte, Int.reduceLT, Int.reduceLE, Int.reduceToNat, Int.reduceEq, Int.reduceNe, Int.reduceNeg, Int.reduceBEq, Int.reduceBNe, Int.reduceAdd, Int.reduceSub, Int.reduceMul, Nat.reducePow, Int.reducePow, decide_eq_true_eq, decide_eq_false_iff_not, Bool.not_eq_true, Bool.not_eq_false, Int.not_lt, Int.not_le] at hb4
            repeat' (first | refine wpB_seq ?_ | refine wpB_regionL rfl ?_ | refine wpB_block ?_ | refine wpB_skip ?_ | refine wpB_exit ?_ | refine wpB_ret ?_ | simp (maxSteps := 1000000) (dsimp := false) (disch := omega) only [go_sem, Nat.reduceEqDiff, Nat.reduceLT, Nat.reduceAdd, Nat.reduceMul, Nat.reduceSub, Nat.reduceBEq, Nat.reduceLeDiff, reduceCtorEq, ↓reduceIte, Int.reduceLT, Int.reduceLE, Int.reduceToNat, Int.reduceEq, Int.reduceNe, Int.reduceNeg, Int.reduceBEq, Int.reduceBNe, Int.reduceAdd, Int.reduceSub, Int.reduceMul, Nat.reducePow, Int.reducePow, *])
            refine hR _ _ ⟨k, pre ++ [_], suf', by omega, e0, e1, e2, rfl, by rw [hps]; simp [bAt_get hfl, htl], hru', hJ2⟩ ?_
            simp (maxSteps := 1000000) (dsimp := false) (disch := omega) only [go_sem, Nat.reduceEqDiff, Nat.reduceLT, Nat.reduceAdd, Nat.reduceMul, Nat.reduceSub, Nat.reduceBEq, Nat.reduceLeDiff, reduceCtorEq, ↓reduceIte, Int.reduceLT, Int.reduceLE, Int.reduceToNat, Int.reduceEq, Int.reduceNe, Int.reduceNeg, Int.reduceBEq, Int.reduceBNe, Int.reduceAdd, Int.reduceSub, Int.reduceMul, Nat.reducePow, Int.reducePow, *, natOf_int]
    · have := runs_end hru (by omega)
      subst this
      repeat' (first | refine wpB_seq ?_ | refine wpB_regionL rfl ?_ | refine wpB_block ?_ | refine wpB_skip ?_ | refine wpB_exit ?_ | refine wpB_ret ?_ | simp (maxSteps := 1000000) (dsimp := false) (disch := omega) only [go_sem, Nat.reduceEqDiff, Nat.reduceLT, Nat.reduceAdd, Nat.reduceMul, Nat.reduceSub, Nat.reduceBEq, Nat.reduceLeDiff, reduceCtorEq, ↓reduceIte, Int.reduceLT, Int.reduceLE, Int.reduceToNat, Int.reduceEq, Int.reduceNe, Int.reduceNeg, Int.reduceBEq, Int.reduceBNe, Int.reduceAdd, Int.reduceSub, Int.reduceMul, Nat.reducePow, Int.reducePow, *])
      try simpa [hps] using hJp
end Go.Proofs.Wt
end
/- The chapter on watching: all clusters in a list. -/
section
set_option maxHeartbeats 4000000
set_option linter.unusedVariables false
set_option linter.unusedSimpArgs false
namespace Go.Proofs.Wt
open Go Vm Go.Proofs.Zs30
theorem clustersI_ok (l : List Gl) (c : Int) (H : Heap) : EvF Try.prog A 20 [glD l, .int .i64 c] H (fun d H' => d = .fn 29 [.ptr H.length 0 0, .ptr (H.length + 1) 0 0] ∧ H' = H ++ [.arr [glD l], .arr [.int .i64 c]]) (fun _ _ => False) := by
  refine evF_inB (n := 6) (rs := [.tmp 4]) Try.func20 rfl rfl rfl rfl rfl rfl ?_
  repeat' (first | refine wpB_seq ?_ | refine wpB_regionL rfl ?_ | refine wpB_block ?_ | refine wpB_skip ?_ | refine wpB_exit ?_ | refine wpB_ret ?_ | simp (maxSteps := 1000000) (dsimp := false) (disch := omega) only [go_sem, Nat.reduceEqDiff, Nat.reduceLT, Nat.reduceAdd, Nat.reduceMul, Nat.reduceSub, Nat.reduceBEq, Nat.reduceLeDiff, reduceCtorEq, ↓reduceIte, Int.reduceLT, Int.reduceLE, Int.reduceToNat, Int.reduceEq, Int.reduceNe, Int.reduceNeg, Int.reduceBEq, Int.reduceBNe, Int.reduceAdd, Int.reduceSub, Int.reduceMul, Nat.reducePow, Int.reducePow, *])
  simp
/-- what stands while clusters are collected -/
def Jc (l : List Gl) (c : Int) (lp : Lp) (pre : List Q) (H : Heap) : Prop :=
  (∃ d, hget H 0 = .arr [d] ∧ VecAt 4 d H (pre.map Q.dd)) ∧ hget H 1 = .arr [glD l] ∧ hget H 2 = .arr [.int .i64 c] ∧ hget H 3 = .loop lp
/-- all clusters, in a list -/
theorem clusters_ok (l : List Gl) (hl : l.length ≤ 1000) (c : Int) : PureF Try.prog A 12 [glD l, .int .i64 c] (.sl false ((clustersOf l c).map Q.dd)) := by
  refine evF_leaveB (n := 20) (rs := [.tmp 4]) Try.func12 rfl rfl rfl rfl rfl ?_
  repeat' (first | refine wpB_seq ?_ | refine wpB_regionL rfl ?_ | refine wpB_block ?_ | refine wpB_skip ?_ | refine wpB_exit ?_ | refine wpB_ret ?_ | simp (maxSteps := 1000000) (dsimp := false) (disch := omega) only [go_sem, Nat.reduceEqDiff, Nat.reduceLT, Nat.reduceAdd, Nat.reduceMul, Nat.reduceSub, Nat.reduceBEq, Nat.reduceLeDiff, reduceCtorEq, ↓reduceIte, Int.reduceLT, Int.reduceLE, Int.reduceToNat, Int.reduceEq, Int.reduceNe, Int.reduceNeg, Int.reduceBEq, Int.reduceBNe, Int.reduceAdd, Int.reduceSub, Int.reduceMul, Nat.reducePow, Int.reducePow, *])
  refine evB_plain bo10 rfl rfl (strip2 l c) (check_ok l hl c) ?_
  simp (maxSteps := 1000000) (dsimp := false) (disch := omega) only [go_sem, Nat.reduceEqDiff, Nat.reduceLT, Nat.reduceAdd, Nat.reduceMul, Nat.reduceSub, Nat.reduceBEq, Nat.reduceLeDiff, reduceCtorEq, ↓reduceIte, Int.reduceLT, Int.reduceLE, Int.reduceToNat, Int.reduceEq, Int.reduceNe, Int.reduceNeg, Int.reduceBEq, Int.reduceBNe, Int.reduceAdd, Int.reduceSub, Int.reduceMul, Nat.reducePow, Int.reducePow, *]
  refine wpB_cond (by simp (maxSteps := 1000000) (dsimp := false) (disch := omega) only [go_sem, Nat.reduceEqDiff, Nat.reduceLT, Nat.reduceAdd, Nat.reduceMul, Nat.reduceSub, Nat.reduceBEq, Nat.reduceLeDiff, reduceCtorEq, ↓reduceIte, Int.reduceLT, Int.reduceLE, Int.reduceToNat, Int.reduceEq, Int.reduceNe, Int.reduceNeg, Int.reduceBEq, Int.reduceBNe, Int.reduceAdd, Int.reduceSub, Int.reduceMul, Nat.reducePow, Int.reducePow, *]; exact rfl) (fun hb => ?_) (fun hb => ?_) <;> try simp (maxSteps := 1000000) (dsimp := false) (disch := omega) only [go_sem, Nat.reduceEqDiff, Nat.reduceLT, Nat.reduceAdd, Nat.reduceMul, Nat.reduceSub, Nat.reduceBEq, Nat.reduceLeDiff, reduceCtorEq, ↓reduceIte, Int.reduceLT, Int.reduceLE, Int.reduceToNat, Int.reduceEq, Int.reduceNe, Int.reduceNeg, Int.reduceBEq, Int.reduceBNe, Int.reduceAdd, Int.reduceSub, Int.reduceMul, Nat.reducePow, Int.reducePow, decide_eq_true_eq, decide_eq_false_iff_not, Bool.not_eq_true, Bool.not_eq_false, Int.not_lt, Int.not_le] at hb
  · repeat' (first | refine wpB_seq ?_ | refine wpB_regionL rfl ?_ | refine wpB_block ?_ | refine wpB_skip ?_ | refine wpB_exit ?_ | refine wpB_ret ?_ | simp (maxSteps := 1000000) (dsimp := false) (disch := omega) only [go_sem, Nat.reduceEqDiff, Nat.reduceLT, Nat.reduceAdd, Nat.reduceMul, Nat.reduceSub, Nat.reduceBEq, Nat.reduceLeDiff, reduceCtorEq, ↓reduceIte, Int.reduceLT, Int.reduceLE, Int.reduceToNat, Int.reduceEq, Int.reduceNe, Int.reduceNeg, Int.reduceBEq, Int.reduceBNe, Int.reduceAdd, Int.reduceSub, Int.reduceMul, Nat.reducePow, Int.reducePow, *])
    refine leaveQ_marks (.inl rfl) rfl rfl ?_
    simp (maxSteps := 1000000) (dsimp := false) (disch := omega) only [go_sem, Nat.reduceEqDiff, Nat.reduceLT, Nat.reduceAdd, Nat.reduceMul, Nat.reduceSub, Nat.reduceBEq, Nat.reduceLeDiff, reduceCtorEq, ↓reduceIte, Int.reduceLT, Int.reduceLE, Int.reduceToNat, Int.reduceEq, Int.reduceNe, Int.reduceNeg, Int.reduceBEq, Int.reduceBNe, Int.reduceAdd, Int.reduceSub, Int.reduceMul, Nat.reducePow, Int.reducePow, *]
    have hck : ¬ checkOf l c = 0 := by simpa using hb
    rw [clustersOf, if_neg hck]; rfl
  · repeat' (first | refine wpB_seq ?_ | refine wpB_regionL rfl ?_ | refine wpB_block ?_ | refine wpB_skip ?_ | refine wpB_exit ?_ | refine wpB_ret ?_ | simp (maxSteps := 1000000) (dsimp := false) (disch := omega) only [go_sem, Nat.reduceEqDiff, Nat.reduceLT, Nat.reduceAdd, Nat.reduceMul, Nat.reduceSub, Nat.reduceBEq, Nat.reduceLeDiff, reduceCtorEq, ↓reduceIte, Int.reduceLT, Int.reduceLE, Int.reduceToNat, Int.reduceEq, Int.reduceNe, Int.reduceNeg, Int.reduceBEq, Int.reduceBNe, Int.reduceAdd, Int.reduceSub, Int.reduceMul, Nat.reducePow, Int.reducePow, *])
    refine evB_state bo20 rfl rfl (clustersI_ok l c _) ?_ (fun _ _ h => h.elim)
    rintro d H' ⟨rfl, rfl⟩
    simp (maxSteps := 1000000) (dsimp := false) (disch := omega) only [go_sem, Nat.reduceEqDiff, Nat.reduceLT, Nat.reduceAdd, Nat.reduceMul, Nat.reduceSub, Nat.reduceBEq, Nat.reduceLeDiff, reduceCtorEq, ↓reduceIte, Int.reduceLT, Int.reduceLE, Int.reduceToNat, Int.reduceEq, Int.reduceNe, Int.reduceNeg, Int.reduceBEq, Int.reduceBNe, Int.reduceAdd, Int.reduceSub, Int.reduceMul, Nat.reducePow, Int.reducePow, *]
    refine wpB_block ?_
    refine wpB_range rfl (by simp (maxSteps := 1000000) (dsimp := false) (disch := omega) only [go_sem, Nat.reduceEqDiff, Nat.reduceLT, Nat.reduceAdd, Nat.reduceMul, Nat.reduceSub, Nat.reduceBEq, Nat.reduceLeDiff, reduceCtorEq, ↓reduceIte, Int.reduceLT, Int.reduceLE, Int.reduceToNat, Int.reduceEq, Int.reduceNe, Int.reduceNeg, Int.reduceBEq, Int.reduceBNe, Int.reduceAdd, Int.reduceSub, Int.reduceMul, Nat.reducePow, Int.reducePow, *]; rfl) bo29 rfl ?_
    intro lp l1 l2 l3 l4 l5 l6 l7
    refine (clustersF_ok l hl c (J := Jc l c lp) ?_ ?_ ?_ ?_).mono ?_ (fun _ _ h => h.elim)
    · rintro G H ⟨⟨d, h0, hv⟩, h1, h2, h3⟩
      have := hv.1
      exact ⟨by omega, h1, by omega, h2⟩
    · rintro pre q suf H hps ⟨⟨d, h0, hv⟩, h1, h2, h3⟩
      refine evF_round1 h3 l1 l3 l4 l5 l6 l7 (by decide) ?_
      repeat' (first | refine wpB_seq ?_ | refine wpB_regionL rfl ?_ | refine wpB_block ?_ | refine wpB_skip ?_ | refine wpB_exit ?_ | refine wpB_ret ?_ | simp (maxSteps := 1000000) (dsimp := false) (disch := omega) only [go_sem, Nat.reduceEqDiff, Nat.reduceLT, Nat.reduceAdd, Nat.reduceMul, Nat.reduceSub, Nat.reduceBEq, Nat.reduceLeDiff, reduceCtorEq, ↓reduceIte, Int.reduceLT, Int.reduceLE, Int.reduceToNat, Int.reduceEq, Int.reduceNe, Int.reduceNeg, Int.reduceBEq, Int.reduceBNe, Int.reduceAdd, Int.reduceSub, Int.reduceMul, Nat.reducePow, Int.reducePow, *])
      have h4 := hv.1
      refine ⟨rfl, lp, by rw [hget_app_lt (by omega), h3], l1, ?_⟩
      have hq : (pre.map Q.dd).length ≤ 1000 := by
        have := clusters_len l c
        rw [hps] at this; simp at this ⊢; omega
      have hv1 := (hv.app (L := [Ob.arr [q.dd]])).setLow (k := 3) (o := .loop { lp with st := .busy }) (by omega)
      have hs : Same 3 H ((H ++ [Ob.arr [q.dd]]).set 3 (.loop { lp with st := .busy })) := (Same.app (by omega)).trans (Same.set (by omega))
      have k3 : hget ((H ++ [Ob.arr [q.dd]]).set 3 (.loop { lp with st := .busy })) 3 = .loop { lp with st := .busy } := by rw [hget_set_eq (by simp; omega)]
      have k4 : hget ((H ++ [Ob.arr [q.dd]]).set 3 (.loop { lp with st := .busy })) H.length = .arr [q.dd] := by rw [hget_set_ne (by omega), hget_app0]; rfl
      have k0 := (hs.2 0 (by omega)).trans h0
      have k1 := (hs.2 1 (by omega)).trans h1
      have k2 := (hs.2 2 (by omega)).trans h2
      simp only [Q.dd] at k0 k1 k2 k3 k4 hv1
      clear hs
      generalize List.set (H ++ _) 3 _ = H1 at *
      obtain ⟨d', H2, ha, hv2, hk⟩ := VecAt.append el27 sz30 by30 zr30 rfl (by decide) hv1 (q := q.dd) rfl (by simp [Q.dd, strip, stripL]) (hs30 _) (by simp at hq ⊢; omega)
      clear hb h0 h1 h2 h3
      simp only [Q.dd] at ha
      obtain ⟨c1, c2, c3⟩ := hv1.one
      obtain ⟨c4, c5, c6⟩ := hv2.one
      have j0 := (hk.2 0 (by omega)).trans k0
      have j1 := (hk.2 1 (by omega)).trans k1
      have j2 := (hk.2 2 (by omega)).trans k2
      have j3 := hv2.1
      repeat' (first | refine wpB_seq ?_ | refine wpB_regionL rfl ?_ | refine wpB_block ?_ | refine wpB_skip ?_ | refine wpB_exit ?_ | refine wpB_ret ?_ | simp (maxSteps := 1000000) (dsimp := false) (disch := omega) only [go_sem, Nat.reduceEqDiff, Nat.reduceLT, Nat.reduceAdd, Nat.reduceMul, Nat.reduceSub, Nat.reduceBEq, Nat.reduceLeDiff, reduceCtorEq, ↓reduceIte, Int.reduceLT, Int.reduceLE, Int.reduceToNat, Int.reduceEq, Int.reduceNe, Int.reduceNeg, Int.reduceBEq, Int.reduceBNe, Int.reduceAdd, Int.reduceSub, Int.reduceMul, Nat.reducePow, Int.reducePow, *])
      have j3' := (hk.2 3 (by omega)).trans k3
      have hlp : ({ lp with st := .ready, pend := none } : Lp) = lp := by cases lp; simp only at l1 l2; rw [l1, l2]
      refine ⟨none, { lp with st := .busy }, rfl, by rw [hget_set_ne (by omega), j3'], rfl, ?_⟩
      refine ⟨⟨d', ?_, ?_⟩, ?_, ?_, ?_⟩
      · rw [hget_set_ne (by omega), hget_set_eq (by omega)]
      · rw [List.map_append]; exact (hv2.setLow (by omega)).setLow (by omega)
      · rw [hget_set_ne (by omega), hget_set_ne (by omega), j1]
      · rw [hget_set_ne (by omega), hget_set_ne (by omega), j2]
      · rw [hget_set_eq (by simp; omega)]
        exact congrArg Ob.loop hlp
    · simpa using hb
    · exact ⟨⟨_, rfl, .nil (by simp)⟩, rfl, rfl, rfl⟩
    · rintro _ H ⟨⟨d, h0, hv⟩, h1, h2, h3⟩
      refine ⟨lp, h3, by rw [l1]; decide, .inl ⟨l2, ?_⟩⟩
      simp (maxSteps := 1000000) (dsimp := false) (disch := omega) only [go_sem, Nat.reduceEqDiff, Nat.reduceLT, Nat.reduceAdd, Nat.reduceMul, Nat.reduceSub, Nat.reduceBEq, Nat.reduceLeDiff, reduceCtorEq, ↓reduceIte, Int.reduceLT, Int.reduceLE, Int.reduceToNat, Int.reduceEq, Int.reduceNe, Int.reduceNeg, Int.reduceBEq, Int.reduceBNe, Int.reduceAdd, Int.reduceSub, Int.reduceMul, Nat.reducePow, Int.reducePow, *]
      obtain ⟨c1, c2, c3⟩ := hv.one
      repeat' (first | refine wpB_seq ?_ | refine wpB_regionL rfl ?_ | refine wpB_block ?_ | refine wpB_skip ?_ | refine wpB_exit ?_ | refine wpB_ret ?_ | simp (maxSteps := 1000000) (dsimp := false) (disch := omega) only [go_sem, Nat.reduceEqDiff, Nat.reduceLT, Nat.reduceAdd, Nat.reduceMul, Nat.reduceSub, Nat.reduceBEq, Nat.reduceLeDiff, reduceCtorEq, ↓reduceIte, Int.reduceLT, Int.reduceLE, Int.reduceToNat, Int.reduceEq, Int.reduceNe, Int.reduceNeg, Int.reduceBEq, Int.reduceBNe, Int.reduceAdd, Int.reduceSub, Int.reduceMul, Nat.reducePow, Int.reducePow, *])
      refine leaveQ_marks (l := [.mark]) (.inl rfl) rfl rfl ?_
      simp (maxSteps := 1000000) (dsimp := false) (disch := omega) only [go_sem, Nat.reduceEqDiff, Nat.reduceLT, Nat.reduceAdd, Nat.reduceMul, Nat.reduceSub, Nat.reduceBEq, Nat.reduceLeDiff, reduceCtorEq, ↓reduceIte, Int.reduceLT, Int.reduceLE, Int.reduceToNat, Int.reduceEq, Int.reduceNe, Int.reduceNeg, Int.reduceBEq, Int.reduceBNe, Int.reduceAdd, Int.reduceSub, Int.reduceMul, Nat.reducePow, Int.reducePow, *]
      exact (hv.setLow (by omega)).out (strip_q _)
end Go.Proofs.Wt
end
/- The chapter on watching: whom a code is of; lists of numbers compared. -/
section
set_option maxHeartbeats 4000000
set_option linter.unusedVariables false
set_option linter.unusedSimpArgs false
namespace Go.Proofs.Wt
open Go Vm Go.Proofs.Zs30
attribute [-go_sem] glD

def intD (n : Int) : D := .int .i64 n
def isD (l : List Int) : D := .sl false (l.map intD)
theorem strip_is (l : List Int) : stripL (l.map intD) = some (l.map intD) := by
  induction l with
  | nil => rfl
  | cons q r ih => simp [stripL, ih, intD, strip]
theorem owner_ok (l : List Gl) (hl : l.length ≤ 1000) (c i : Int) : PureF Try.prog A 8 [glD l, .int .i64 c, .int .i64 i] (.int .i64 (ownerOf l c i)) := by
  have hgl := clusters_len l c
  refine evF_inB (n := 37) (rs := [.tmp 6]) Try.func8 rfl rfl rfl rfl rfl rfl ?_
  repeat' (first | refine wpB_seq ?_ | refine wpB_regionL rfl ?_ | refine wpB_block ?_ | refine wpB_skip ?_ | refine wpB_exit ?_ | refine wpB_ret ?_ | simp (maxSteps := 1000000) (dsimp := false) (disch := omega) only [go_sem, Nat.reduceEqDiff, Nat.reduceLT, Nat.reduceAdd, Nat.reduceMul, Nat.reduceSub, Nat.reduceBEq, Nat.reduceLeDiff, reduceCtorEq, ↓reduceIte, Int.reduceLT, Int.reduceLE, Int.reduceToNat, Int.reduceEq, Int.reduceNe, Int.reduceNeg, Int.reduceBEq, Int.reduceBNe, Int.reduceAdd, Int.reduceSub, Int.reduceMul, Nat.reducePow, Int.reducePow, *])
  by_cases hi : i < 0
  · simp (maxSteps := 1000000) (dsimp := false) (disch := omega) only [go_sem, Nat.reduceEqDiff, Nat.reduceLT, Nat.reduceAdd, Nat.reduceMul, Nat.reduceSub, Nat.reduceBEq, Nat.reduceLeDiff, reduceCtorEq, ↓reduceIte, Int.reduceLT, Int.reduceLE, Int.reduceToNat, Int.reduceEq, Int.reduceNe, Int.reduceNeg, Int.reduceBEq, Int.reduceBNe, Int.reduceAdd, Int.reduceSub, Int.reduceMul, Nat.reducePow, Int.reducePow, *]
    refine wpB_cond (by simp (maxSteps := 1000000) (dsimp := false) (disch := omega) only [go_sem, Nat.reduceEqDiff, Nat.reduceLT, Nat.reduceAdd, Nat.reduceMul, Nat.reduceSub, Nat.reduceBEq, Nat.reduceLeDiff, reduceCtorEq, ↓reduceIte, Int.reduceLT, Int.reduceLE, Int.reduceToNat, Int.reduceEq, Int.reduceNe, Int.reduceNeg, Int.reduceBEq, Int.reduceBNe, Int.reduceAdd, Int.reduceSub, Int.reduceMul, Nat.reducePow, Int.reducePow, *]; exact rfl) (fun hb => ?_) (fun hb => ?_) <;> try simp (maxSteps := 1000000) (dsimp := false) (disch := omega) only [go_sem, Nat.reduceEqDiff, Nat.reduceLT, Nat.reduceAdd, Nat.reduceMul, Nat.reduceSub, Nat.reduceBEq, Nat.reduceLeDiff, reduceCtorEq, ↓reduceIte, Int.reduceLT, Int.reduceLE, Int.reduceToNat, Int.reduceEq, Int.reduceNe, Int.reduceNeg, Int.reduceBEq, Int.reduceBNe, Int.reduceAdd, Int.reduceSub, Int.reduceMul, Nat.reducePow, Int.reducePow, decide_eq_true_eq, decide_eq_false_iff_not, Bool.not_eq_true, Bool.not_eq_false, Int.not_lt, Int.not_le] at hb
    repeat' (first | refine wpB_seq ?_ | refine wpB_regionL rfl ?_ | refine wpB_block ?_ | refine wpB_skip ?_ | refine wpB_exit ?_ | refine wpB_ret ?_ | simp (maxSteps := 1000000) (dsimp := false) (disch := omega) only [go_sem, Nat.reduceEqDiff, Nat.reduceLT, Nat.reduceAdd, Nat.reduceMul, Nat.reduceSub, Nat.reduceBEq, Nat.reduceLeDiff, reduceCtorEq, ↓reduceIte, Int.reduceLT, Int.reduceLE, Int.reduceToNat, Int.reduceEq, Int.reduceNe, Int.reduceNeg, Int.reduceBEq, Int.reduceBNe, Int.reduceAdd, Int.reduceSub, Int.reduceMul, Nat.reducePow, Int.reducePow, *])
    rw [ownerOf, if_pos (.inr (.inl hi))]
  · simp (maxSteps := 1000000) (dsimp := false) (disch := omega) only [go_sem, Nat.reduceEqDiff, Nat.reduceLT, Nat.reduceAdd, Nat.reduceMul, Nat.reduceSub, Nat.reduceBEq, Nat.reduceLeDiff, reduceCtorEq, ↓reduceIte, Int.reduceLT, Int.reduceLE, Int.reduceToNat, Int.reduceEq, Int.reduceNe, Int.reduceNeg, Int.reduceBEq, Int.reduceBNe, Int.reduceAdd, Int.reduceSub, Int.reduceMul, Nat.reducePow, Int.reducePow, *]
    refine wpB_cond (by simp (maxSteps := 1000000) (dsimp := false) (disch := omega) only [go_sem, Nat.reduceEqDiff, Nat.reduceLT, Nat.reduceAdd, Nat.reduceMul, Nat.reduceSub, Nat.reduceBEq, Nat.reduceLeDiff, reduceCtorEq, ↓reduceIte, Int.reduceLT, Int.reduceLE, Int.reduceToNat, Int.reduceEq, Int.reduceNe, Int.reduceNeg, Int.reduceBEq, Int.reduceBNe, Int.reduceAdd, Int.reduceSub, Int.reduceMul, Nat.reducePow, Int.reducePow, *]; exact rfl) (fun hb => ?_) (fun hb => ?_) <;> try simp (maxSteps := 1000000) (dsimp := false) (disch := omega) only [go_sem, Nat.reduceEqDiff, Nat.reduceLT, Nat.reduceAdd, Nat.reduceMul, Nat.reduceSub, Nat.reduceBEq, Nat.reduceLeDiff, reduceCtorEq, ↓reduceIte, Int.reduceLT, Int.reduceLE, Int.reduceToNat, Int.reduceEq, Int.reduceNe, Int.reduceNeg, Int.reduceBEq, Int.reduceBNe, Int.reduceAdd, Int.reduceSub, Int.reduceMul, Nat.reducePow, Int.reducePow, decide_eq_true_eq, decide_eq_false_iff_not, Bool.not_eq_true, Bool.not_eq_false, Int.not_lt, Int.not_le] at hb
    · repeat' (first | refine wpB_seq ?_ | refine wpB_regionL rfl ?_ | refine wpB_block ?_ | refine wpB_skip ?_ | refine wpB_exit ?_ | refine wpB_ret ?_ | simp (maxSteps := 1000000) (dsimp := false) (disch := omega) only [go_sem, Nat.reduceEqDiff, Nat.reduceLT, Nat.reduceAdd, Nat.reduceMul, Nat.reduceSub, Nat.reduceBEq, Nat.reduceLeDiff, reduceCtorEq, ↓reduceIte, Int.reduceLT, Int.reduceLE, Int.reduceToNat, Int.reduceEq, Int.reduceNe, Int.reduceNeg, Int.reduceBEq, Int.reduceBNe, Int.reduceAdd, Int.reduceSub, Int.reduceMul, Nat.reducePow, Int.reducePow, *])
      rw [ownerOf, if_pos (.inr (.inr (by omega)))]
    · repeat' (first | refine wpB_seq ?_ | refine wpB_regionL rfl ?_ | refine wpB_block ?_ | refine wpB_skip ?_ | refine wpB_exit ?_ | refine wpB_ret ?_ | simp (maxSteps := 1000000) (dsimp := false) (disch := omega) only [go_sem, Nat.reduceEqDiff, Nat.reduceLT, Nat.reduceAdd, Nat.reduceMul, Nat.reduceSub, Nat.reduceBEq, Nat.reduceLeDiff, reduceCtorEq, ↓reduceIte, Int.reduceLT, Int.reduceLE, Int.reduceToNat, Int.reduceEq, Int.reduceNe, Int.reduceNeg, Int.reduceBEq, Int.reduceBNe, Int.reduceAdd, Int.reduceSub, Int.reduceMul, Nat.reducePow, Int.reducePow, *])
      refine evB_plain bo12 rfl rfl (strip2 l c) (clusters_ok l hl c) ?_
      simp (maxSteps := 1000000) (dsimp := false) (disch := omega) only [go_sem, Nat.reduceEqDiff, Nat.reduceLT, Nat.reduceAdd, Nat.reduceMul, Nat.reduceSub, Nat.reduceBEq, Nat.reduceLeDiff, reduceCtorEq, ↓reduceIte, Int.reduceLT, Int.reduceLE, Int.reduceToNat, Int.reduceEq, Int.reduceNe, Int.reduceNeg, Int.reduceBEq, Int.reduceBNe, Int.reduceAdd, Int.reduceSub, Int.reduceMul, Nat.reducePow, Int.reducePow, *]
      repeat' (first | refine wpB_seq ?_ | refine wpB_regionL rfl ?_ | refine wpB_block ?_ | refine wpB_skip ?_ | refine wpB_exit ?_ | refine wpB_ret ?_ | simp (maxSteps := 1000000) (dsimp := false) (disch := omega) only [go_sem, Nat.reduceEqDiff, Nat.reduceLT, Nat.reduceAdd, Nat.reduceMul, Nat.reduceSub, Nat.reduceBEq, Nat.reduceLeDiff, reduceCtorEq, ↓reduceIte, Int.reduceLT, Int.reduceLE, Int.reduceToNat, Int.reduceEq, Int.reduceNe, Int.reduceNeg, Int.reduceBEq, Int.reduceBNe, Int.reduceAdd, Int.reduceSub, Int.reduceMul, Nat.reducePow, Int.reducePow, *])
      have hfi := owner_find l c i (by omega) hb
      refine wpB_loop (fun e H => ∃ (j : Nat), j ≤ (clustersOf l c).length ∧ e 2 = .int .i64 i ∧ e 18 = .sl false ((clustersOf l c).map Q.dd) ∧ e 19 = .int .i64 (clustersOf l c).length ∧ e 20 = .int .i64 j ∧ ownerOf l c i = ((((clustersOf l c).drop j).find? (hasQ i)).map Q.a).getD (-1)) (fun e H => (clustersOf l c).length - natOf (e 20)) ?_ ?_
      · refine ⟨0, Nat.zero_le _, rfl, rfl, ?_, rfl, ?_⟩
        · simp (maxSteps := 1000000) (dsimp := false) (disch := omega) only [go_sem, Nat.reduceEqDiff, Nat.reduceLT, Nat.reduceAdd, Nat.reduceMul, Nat.reduceSub, Nat.reduceBEq, Nat.reduceLeDiff, reduceCtorEq, ↓reduceIte, Int.reduceLT, Int.reduceLE, Int.reduceToNat, Int.reduceEq, Int.reduceNe, Int.reduceNeg, Int.reduceBEq, Int.reduceBNe, Int.reduceAdd, Int.reduceSub, Int.reduceMul, Nat.reducePow, Int.reducePow, *]
        · simpa using hfi
      · clear hfi hb
        rintro e H ⟨j, hj, e2, e18, e19, e20, ho⟩ R hR
        repeat' (first | refine wpB_seq ?_ | refine wpB_regionL rfl ?_ | refine wpB_block ?_ | refine wpB_skip ?_ | refine wpB_exit ?_ | refine wpB_ret ?_ | simp (maxSteps := 1000000) (dsimp := false) (disch := omega) only [go_sem, Nat.reduceEqDiff, Nat.reduceLT, Nat.reduceAdd, Nat.reduceMul, Nat.reduceSub, Nat.reduceBEq, Nat.reduceLeDiff, reduceCtorEq, ↓reduceIte, Int.reduceLT, Int.reduceLE, Int.reduceToNat, Int.reduceEq, Int.reduceNe, Int.reduceNeg, Int.reduceBEq, Int.reduceBNe, Int.reduceAdd, Int.reduceSub, Int.reduceMul, Nat.reducePow, Int.reducePow, *])
        refine wpB_cond (by simp (maxSteps := 1000000) (dsimp := false) (disch := omega) only [go_sem, Nat.reduceEqDiff, Nat.reduceLT, Nat.reduceAdd, Nat.reduceMul, Nat.reduceSub, Nat.reduceBEq, Nat.reduceLeDiff, reduceCtorEq, ↓reduceIte, Int.reduceLT, Int.reduceLE, Int.reduceToNat, Int.reduceEq, Int.reduceNe, Int.reduceNeg, Int.reduceBEq, Int.reduceBNe, Int.reduceAdd, Int.reduceSub, Int.reduceMul, Nat.reducePow, Int.reducePow, *]; exact rfl) (fun hb => ?_) (fun hb => ?_) <;> try simp (maxSteps := 1000000) (dsimp := false) (disch := omega) only [go_sem, Nat.reduceEqDiff, Nat.reduceLT, Nat.reduceAdd, Nat.reduceMul, Nat.reduceSub, Nat.reduceBEq, Nat.reduceLeDiff, reduceCtorEq, ↓reduceIte, Int.reduceLT, Int.reduceLE, Int.reduceToNat, Int.reduceEq, Int.reduceNe, Int.reduceNeg, Int.reduceBEq, Int.reduceBNe, Int.reduceAdd, Int.reduceSub, Int.reduceMul, Nat.reducePow, Int.reducePow, decide_eq_true_eq, decide_eq_false_iff_not, Bool.not_eq_true, Bool.not_eq_false, Int.not_lt, Int.not_le] at hb
        · have hd : (clustersOf l c).drop j = (clustersOf l c)[j] :: (clustersOf l c).drop (j + 1) := List.drop_eq_getElem_cons hb
          rw [hd] at ho
          by_cases hq1 : (clustersOf l c)[j].a ≤ i
          · repeat' (first | refine wpB_seq ?_ | refine wpB_regionL rfl ?_ | refine wpB_block ?_ | refine wpB_skip ?_ | refine wpB_exit ?_ | refine wpB_ret ?_ | simp (maxSteps := 1000000) (dsimp := false) (disch := omega) only [go_sem, Nat.reduceEqDiff, Nat.reduceLT, Nat.reduceAdd, Nat.reduceMul, Nat.reduceSub, Nat.reduceBEq, Nat.reduceLeDiff, reduceCtorEq, ↓reduceIte, Int.reduceLT, Int.reduceLE, Int.reduceToNat, Int.reduceEq, Int.reduceNe, Int.reduceNeg, Int.reduceBEq, Int.reduceBNe, Int.reduceAdd, Int.reduceSub, Int.reduceMul, Nat.reducePow, Int.reducePow, *])
            refine wpB_cond (by simp (maxSteps := 1000000) (dsimp := false) (disch := omega) only [go_sem, Nat.reduceEqDiff, Nat.reduceLT, Nat.reduceAdd, Nat.reduceMul, Nat.reduceSub, Nat.reduceBEq, Nat.reduceLeDiff, reduceCtorEq, ↓reduceIte, Int.reduceLT, Int.reduceLE, Int.reduceToNat, Int.reduceEq, Int.reduceNe, Int.reduceNeg, Int.reduceBEq, Int.reduceBNe, Int.reduceAdd, Int.reduceSub, Int.reduceMul, Nat.reducePow, Int.reducePow, *]; exact rfl) (fun hb2 => ?_) (fun hb2 => ?_) <;> try simp (maxSteps := 1000000) (dsimp := false) (disch := omega) only [go_sem, Nat.reduceEqDiff, Nat.reduceLT, Nat.reduceAdd, Nat.reduceMul, Nat.reduceSub, Nat.reduceBEq, Nat.reduceLeDiff, reduceCtorEq, ↓reduceIte, Int.reduceLT, Int.reduceLE, Int.reduceToNat, Int.reduceEq, Int.reduceNe, Int.reduceNeg, Int.reduceBEq, Int.reduceBNe, Int.reduceAdd, Int.reduceSub, Int.reduceMul, Nat.reducePow, Int.reducePow, decide_eq_true_eq, decide_eq_false_iff_not, Bool.not_eq_true, Bool.not_eq_false, Int.not_lt, Int.not_le] at hb2
            · repeat' (first | refine wpB_seq ?_ | refine wpB_regionL rfl ?_ | refine wpB_block ?_ | refine wpB_skip ?_ | refine wpB_exit ?_ | refine wpB_ret ?_ | simp (maxSteps := 1000000) (dsimp := false) (disch := omega) only [go_sem, Nat.reduceEqDiff, Nat.reduceLT, Nat.reduceAdd, Nat.reduceMul, Nat.reduceSub, Nat.reduceBEq, Nat.reduceLeDiff, reduceCtorEq, ↓reduceIte, Int.reduceLT, Int.reduceLE, Int.reduceToNat, Int.reduceEq, Int.reduceNe, Int.reduceNeg, Int.reduceBEq, Int.reduceBNe, Int.reduceAdd, Int.reduceSub, Int.reduceMul, Nat.reducePow, Int.reducePow, *])
              rw [List.find?_cons, show hasQ i (clustersOf l c)[j] = true by simp [hasQ, hq1, hb2]]
              rfl
            · repeat' (first | refine wpB_seq ?_ | refine wpB_regionL rfl ?_ | refine wpB_block ?_ | refine wpB_skip ?_ | refine wpB_exit ?_ | refine wpB_ret ?_ | simp (maxSteps := 1000000) (dsimp := false) (disch := omega) only [go_sem, Nat.reduceEqDiff, Nat.reduceLT, Nat.reduceAdd, Nat.reduceMul, Nat.reduceSub, Nat.reduceBEq, Nat.reduceLeDiff, reduceCtorEq, ↓reduceIte, Int.reduceLT, Int.reduceLE, Int.reduceToNat, Int.reduceEq, Int.reduceNe, Int.reduceNeg, Int.reduceBEq, Int.reduceBNe, Int.reduceAdd, Int.reduceSub, Int.reduceMul, Nat.reducePow, Int.reducePow, *])
              refine hR _ _ ⟨j + 1, by omega, e2, e18, e19, rfl, ?_⟩ ?_
              · rw [ho, List.find?_cons, show hasQ i (clustersOf l c)[j] = false by simp [hasQ]; omega]
              · simp (maxSteps := 1000000) (dsimp := false) (disch := omega) only [go_sem, Nat.reduceEqDiff, Nat.reduceLT, Nat.reduceAdd, Nat.reduceMul, Nat.reduceSub, Nat.reduceBEq, Nat.reduceLeDiff, reduceCtorEq, ↓reduceIte, Int.reduceLT, Int.reduceLE, Int.reduceToNat, Int.reduceEq, Int.reduceNe, Int.reduceNeg, Int.reduceBEq, Int.reduceBNe, Int.reduceAdd, Int.reduceSub, Int.reduceMul, Nat.reducePow, Int.reducePow, *, natOf_int]
          · repeat' (first | refine wpB_seq ?_ | refine wpB_regionL rfl ?_ | refine wpB_block ?_ | refine wpB_skip ?_ | refine wpB_exit ?_ | refine wpB_ret ?_ | simp (maxSteps := 1000000) (dsimp := false) (disch := omega) only [go_sem, Nat.reduceEqDiff, Nat.reduceLT, Nat.reduceAdd, Nat.reduceMul, Nat.reduceSub, Nat.reduceBEq, Nat.reduceLeDiff, reduceCtorEq, ↓reduceIte, Int.reduceLT, Int.reduceLE, Int.reduceToNat, Int.reduceEq, Int.reduceNe, Int.reduceNeg, Int.reduceBEq, Int.reduceBNe, Int.reduceAdd, Int.reduceSub, Int.reduceMul, Nat.reducePow, Int.reducePow, *])
            refine wpB_cond (by simp (maxSteps := 1000000) (dsimp := false) (disch := omega) only [go_sem, Nat.reduceEqDiff, Nat.reduceLT, Nat.reduceAdd, Nat.reduceMul, Nat.reduceSub, Nat.reduceBEq, Nat.reduceLeDiff, reduceCtorEq, ↓reduceIte, Int.reduceLT, Int.reduceLE, Int.reduceToNat, Int.reduceEq, Int.reduceNe, Int.reduceNeg, Int.reduceBEq, Int.reduceBNe, Int.reduceAdd, Int.reduceSub, Int.reduceMul, Nat.reducePow, Int.reducePow, *]; exact rfl) (fun hb2 => ?_) (fun hb2 => ?_) <;> try simp (maxSteps := 1000000) (dsimp := false) (disch := omega) only [go_sem, Nat.reduceEqDiff, Nat.reduceLT, Nat.reduceAdd, Nat.reduceMul, Nat.reduceSub, Nat.reduceBEq, Nat.reduceLeDiff, reduceCtorEq, ↓reduceIte, Int.reduceLT, Int.reduceLE, Int.reduceToNat, Int.reduceEq, Int.reduceNe, Int.reduceNeg, Int.reduceBEq, Int.reduceBNe, Int.reduceAdd, Int.reduceSub, Int.reduceMul, Nat.reducePow, Int.reducePow, decide_eq_true_eq, decide_eq_false_iff_not, Bool.not_eq_true, Bool.not_eq_false, Int.not_lt, Int.not_le] at hb2
            repeat' (first | refine wpB_seq ?_ | refine wpB_regionL rfl ?_ | refine wpB_block ?_ | refine wpB_skip ?_ | refine wpB_exit ?_ | refine wpB_ret ?_ | simp (maxSteps := 1000000) (dsimp := false) (disch := omega) only [go_sem, Nat.reduceEqDiff, Nat.reduceLT, Nat.reduceAdd, Nat.reduceMul, Nat.reduceSub, Nat.reduceBEq, Nat.reduceLeDiff, reduceCtorEq, ↓reduceIte, Int.reduceLT, Int.reduceLE, Int.reduceToNat, Int.reduceEq, Int.reduceNe, Int.reduceNeg, Int.reduceBEq, Int.reduceBNe, Int.reduceAdd, Int.reduceSub, Int.reduceMul, Nat.reducePow, Int.reducePow, *])
            refine hR _ _ ⟨j + 1, by omega, e2, e18, e19, rfl, ?_⟩ ?_
            · rw [ho, List.find?_cons, show hasQ i (clustersOf l c)[j] = false by simp [hasQ]; omega]
            · simp (maxSteps := 1000000) (dsimp := false) (disch := omega) only [go_sem, Nat.reduceEqDiff, Nat.reduceLT, Nat.reduceAdd, Nat.reduceMul, Nat.reduceSub, Nat.reduceBEq, Nat.reduceLeDiff, reduceCtorEq, ↓reduceIte, Int.reduceLT, Int.reduceLE, Int.reduceToNat, Int.reduceEq, Int.reduceNe, Int.reduceNeg, Int.reduceBEq, Int.reduceBNe, Int.reduceAdd, Int.reduceSub, Int.reduceMul, Nat.reducePow, Int.reducePow, *, natOf_int]
        · repeat' (first | refine wpB_seq ?_ | refine wpB_regionL rfl ?_ | refine wpB_block ?_ | refine wpB_skip ?_ | refine wpB_exit ?_ | refine wpB_ret ?_ | simp (maxSteps := 1000000) (dsimp := false) (disch := omega) only [go_sem, Nat.reduceEqDiff, Nat.reduceLT, Nat.reduceAdd, Nat.reduceMul, Nat.reduceSub, Nat.reduceBEq, Nat.reduceLeDiff, reduceCtorEq, ↓reduceIte, Int.reduceLT, Int.reduceLE, Int.reduceToNat, Int.reduceEq, Int.reduceNe, Int.reduceNeg, Int.reduceBEq, Int.reduceBNe, Int.reduceAdd, Int.reduceSub, Int.reduceMul, Nat.reducePow, Int.reducePow, *])
          rw [List.drop_eq_nil_of_le (by omega)]; rfl
theorem ints_ok (a b : List Int) (ha : a.length ≤ 100000) : PureF Try.prog A 17 [isD a, isD b] (.bool (a == b)) := by
  refine evF_inB (n := 26) (rs := [.tmp 4]) Try.func17 rfl rfl rfl rfl rfl rfl ?_
  repeat' (first | refine wpB_seq ?_ | refine wpB_regionL rfl ?_ | refine wpB_block ?_ | refine wpB_skip ?_ | refine wpB_exit ?_ | refine wpB_ret ?_ | simp (maxSteps := 1000000) (dsimp := false) (disch := omega) only [go_sem, Nat.reduceEqDiff, Nat.reduceLT, Nat.reduceAdd, Nat.reduceMul, Nat.reduceSub, Nat.reduceBEq, Nat.reduceLeDiff, reduceCtorEq, ↓reduceIte, Int.reduceLT, Int.reduceLE, Int.reduceToNat, Int.reduceEq, Int.reduceNe, Int.reduceNeg, Int.reduceBEq, Int.reduceBNe, Int.reduceAdd, Int.reduceSub, Int.reduceMul, Nat.reducePow, Int.reducePow, *, isD])
  refine wpB_cond (by simp (maxSteps := 1000000) (dsimp := false) (disch := omega) only [go_sem, Nat.reduceEqDiff, Nat.reduceLT, Nat.reduceAdd, Nat.reduceMul, Nat.reduceSub, Nat.reduceBEq, Nat.reduceLeDiff, reduceCtorEq, ↓reduceIte, Int.reduceLT, Int.reduceLE, Int.reduceToNat, Int.reduceEq, Int.reduceNe, Int.reduceNeg, Int.reduceBEq, Int.reduceBNe, Int.reduceAdd, Int.reduceSub, Int.reduceMul, Nat.reducePow, Int.reducePow, *]; exact rfl) (fun hb => ?_) (fun hb => ?_) <;> try simp (maxSteps := 1000000) (dsimp := false) (disch := omega) only [go_sem, Nat.reduceEqDiff, Nat.reduceLT, Nat.reduceAdd, Nat.reduceMul, Nat.reduceSub, Nat.reduceBEq, Nat.reduceLeDiff, reduceCtorEq, ↓reduceIte, Int.reduceLT, Int.reduceLE, Int.reduceToNat, Int.reduceEq, Int.reduceNe, Int.reduceNeg, Int.reduceBEq, Int.reduceBNe, Int.reduceAdd, Int.reduceSub, Int.reduceMul, Nat.reducePow, Int.reducePow, decide_eq_true_eq, decide_eq_false_iff_not, Bool.not_eq_true, Bool.not_eq_false, Int.not_lt, Int.not_le] at hb
  · repeat' (first | refine wpB_seq ?_ | refine wpB_regionL rfl ?_ | refine wpB_block ?_ | refine wpB_skip ?_ | refine wpB_exit ?_ | refine wpB_ret ?_ | simp (maxSteps := 1000000) (dsimp := false) (disch := omega) only [go_sem, Nat.reduceEqDiff, Nat.reduceLT, Nat.reduceAdd, Nat.reduceMul, Nat.reduceSub, Nat.reduceBEq, Nat.reduceLeDiff, reduceCtorEq, ↓reduceIte, Int.reduceLT, Int.reduceLE, Int.reduceToNat, Int.reduceEq, Int.reduceNe, Int.reduceNeg, Int.reduceBEq, Int.reduceBNe, Int.reduceAdd, Int.reduceSub, Int.reduceMul, Nat.reducePow, Int.reducePow, *])
    simp at hb
    symm; simpa using fun h => hb (by rw [h])
  · have hab : a.length = b.length := by simp at hb; omega
    repeat' (first | refine wpB_seq ?_ | refine wpB_regionL rfl ?_ | refine wpB_block ?_ | refine wpB_skip ?_ | refine wpB_exit ?_ | refine wpB_ret ?_ | simp (maxSteps := 1000000) (dsimp := false) (disch := omega) only [go_sem, Nat.reduceEqDiff, Nat.reduceLT, Nat.reduceAdd, Nat.reduceMul, Nat.reduceSub, Nat.reduceBEq, Nat.reduceLeDiff, reduceCtorEq, ↓reduceIte, Int.reduceLT, Int.reduceLE, Int.reduceToNat, Int.reduceEq, Int.reduceNe, Int.reduceNeg, Int.reduceBEq, Int.reduceBNe, Int.reduceAdd, Int.reduceSub, Int.reduceMul, Nat.reducePow, Int.reducePow, *])
    refine wpB_loop (fun e H => ∃ (j : Nat), j ≤ a.length ∧ e 0 = isD a ∧ e 1 = isD b ∧ e 5 = .int .i64 j ∧ a.take j = b.take j) (fun e H => a.length - natOf (e 5)) ?_ ?_
    · exact ⟨0, Nat.zero_le _, rfl, rfl, rfl, rfl⟩
    · rintro e H ⟨j, hj, e0, e1, e5, ht⟩ R hR
      repeat' (first | refine wpB_seq ?_ | refine wpB_regionL rfl ?_ | refine wpB_block ?_ | refine wpB_skip ?_ | refine wpB_exit ?_ | refine wpB_ret ?_ | simp (maxSteps := 1000000) (dsimp := false) (disch := omega) only [go_sem, Nat.reduceEqDiff, Nat.reduceLT, Nat.reduceAdd, Nat.reduceMul, Nat.reduceSub, Nat.reduceBEq, Nat.reduceLeDiff, reduceCtorEq, ↓reduceIte, Int.reduceLT, Int.reduceLE, Int.reduceToNat, Int.reduceEq, Int.reduceNe, Int.reduceNeg, Int.reduceBEq, Int.reduceBNe, Int.reduceAdd, Int.reduceSub, Int.reduceMul, Nat.reducePow, Int.reducePow, *, isD])
      refine wpB_cond (by simp (maxSteps := 1000000) (dsimp := false) (disch := omega) only [go_sem, Nat.reduceEqDiff, Nat.reduceLT, Nat.reduceAdd, Nat.reduceMul, Nat.reduceSub, Nat.reduceBEq, Nat.reduceLeDiff, reduceCtorEq, ↓reduceIte, Int.reduceLT, Int.reduceLE, Int.reduceToNat, Int.reduceEq, Int.reduceNe, Int.reduceNeg, Int.reduceBEq, Int.reduceBNe, Int.reduceAdd, Int.reduceSub, Int.reduceMul, Nat.reducePow, Int.reducePow, *]; exact rfl) (fun hb => ?_) (fun hb => ?_) <;> try simp (maxSteps := 1000000) (dsimp := false) (disch := omega) only [go_sem, Nat.reduceEqDiff, Nat.reduceLT, Nat.reduceAdd, Nat.reduceMul, Nat.reduceSub, Nat.reduceBEq, Nat.reduceLeDiff, reduceCtorEq, ↓reduceIte, Int.reduceLT, Int.reduceLE, Int.reduceToNat, Int.reduceEq, Int.reduceNe, Int.reduceNeg, Int.reduceBEq, Int.reduceBNe, Int.reduceAdd, Int.reduceSub, Int.reduceMul, Nat.reducePow, Int.reducePow, decide_eq_true_eq, decide_eq_false_iff_not, Bool.not_eq_true, Bool.not_eq_false, Int.not_lt, Int.not_le] at hb
      · have hjb : j < b.length := by omega
        have hja : j < a.length := by omega
        repeat' (first | refine wpB_seq ?_ | refine wpB_regionL rfl ?_ | refine wpB_block ?_ | refine wpB_skip ?_ | refine wpB_exit ?_ | refine wpB_ret ?_ | simp (maxSteps := 1000000) (dsimp := false) (disch := omega) only [go_sem, Nat.reduceEqDiff, Nat.reduceLT, Nat.reduceAdd, Nat.reduceMul, Nat.reduceSub, Nat.reduceBEq, Nat.reduceLeDiff, reduceCtorEq, ↓reduceIte, Int.reduceLT, Int.reduceLE, Int.reduceToNat, Int.reduceEq, Int.reduceNe, Int.reduceNeg, Int.reduceBEq, Int.reduceBNe, Int.reduceAdd, Int.reduceSub, Int.reduceMul, Nat.reducePow, Int.reducePow, *, isD])
        refine wpB_regionXL (by kernel_rfl) rfl ?_; simp (maxSteps := 1000000) (dsimp := false) (disch := omega) only [go_sem, Nat.reduceEqDiff, Nat.reduceLT, Nat.reduceAdd, Nat.reduceMul, Nat.reduceSub, Nat.reduceBEq, Nat.reduceLeDiff, reduceCtorEq, ↓reduceIte, Int.reduceLT, Int.reduceLE, Int.reduceToNat, Int.reduceEq, Int.reduceNe, Int.reduceNeg, Int.reduceBEq, Int.reduceBNe, Int.reduceAdd, Int.reduceSub, Int.reduceMul, Nat.reducePow, Int.reducePow, *, isD, intD]
        refine wpB_cond (by simp (maxSteps := 1000000) (dsimp := false) (disch := omega) only [go_sem, Nat.reduceEqDiff, Nat.reduceLT, Nat.reduceAdd, Nat.reduceMul, Nat.reduceSub, Nat.reduceBEq, Nat.reduceLeDiff, reduceCtorEq, ↓reduceIte, Int.reduceLT, Int.reduceLE, Int.reduceToNat, Int.reduceEq, Int.reduceNe, Int.reduceNeg, Int.reduceBEq, Int.reduceBNe, Int.reduceAdd, Int.reduceSub, Int.reduceMul, Nat.reducePow, Int.reducePow, *]; exact rfl) (fun hb2 => ?_) (fun hb2 => ?_) <;> try simp (maxSteps := 1000000) (dsimp := false) (disch := omega) only [go_sem, Nat.reduceEqDiff, Nat.reduceLT, Nat.reduceAdd, Nat.reduceMul, Nat.reduceSub, Nat.reduceBEq, Nat.reduceLeDiff, reduceCtorEq, ↓reduceIte, Int.reduceLT, Int.reduceLE, Int.reduceToNat, Int.reduceEq, Int.reduceNe, Int.reduceNeg, Int.reduceBEq, Int.reduceBNe, Int.reduceAdd, Int.reduceSub, Int.reduceMul, Nat.reducePow, Int.reducePow, decide_eq_true_eq, decide_eq_false_iff_not, Bool.not_eq_true, Bool.not_eq_false, Int.not_lt, Int.not_le] at hb2
        · repeat' (first | refine wpB_seq ?_ | refine wpB_regionL rfl ?_ | refine wpB_block ?_ | refine wpB_skip ?_ | refine wpB_exit ?_ | refine wpB_ret ?_ | simp (maxSteps := 1000000) (dsimp := false) (disch := omega) only [go_sem, Nat.reduceEqDiff, Nat.reduceLT, Nat.reduceAdd, Nat.reduceMul, Nat.reduceSub, Nat.reduceBEq, Nat.reduceLeDiff, reduceCtorEq, ↓reduceIte, Int.reduceLT, Int.reduceLE, Int.reduceToNat, Int.reduceEq, Int.reduceNe, Int.reduceNeg, Int.reduceBEq, Int.reduceBNe, Int.reduceAdd, Int.reduceSub, Int.reduceMul, Nat.reducePow, Int.reducePow, *])
          simp only [bne_iff_ne, ne_eq] at hb2
          symm; simp only [beq_eq_false_iff_ne, ne_eq, D.bool.injEq, Option.some.injEq]
          rintro rfl
          exact hb2 rfl
        · repeat' (first | refine wpB_seq ?_ | refine wpB_regionL rfl ?_ | refine wpB_block ?_ | refine wpB_skip ?_ | refine wpB_exit ?_ | refine wpB_ret ?_ | simp (maxSteps := 1000000) (dsimp := false) (disch := omega) only [go_sem, Nat.reduceEqDiff, Nat.reduceLT, Nat.reduceAdd, Nat.reduceMul, Nat.reduceSub, Nat.reduceBEq, Nat.reduceLeDiff, reduceCtorEq, ↓reduceIte, Int.reduceLT, Int.reduceLE, Int.reduceToNat, Int.reduceEq, Int.reduceNe, Int.reduceNeg, Int.reduceBEq, Int.reduceBNe, Int.reduceAdd, Int.reduceSub, Int.reduceMul, Nat.reducePow, Int.reducePow, *])
          refine hR _ _ ⟨j + 1, by omega, e0, e1, rfl, ?_⟩ ?_
          · rw [List.take_add_one, List.take_add_one, ht, List.getElem?_eq_getElem hja, List.getElem?_eq_getElem hjb]
            simp at hb2
            rw [hb2]
          · simp (maxSteps := 1000000) (dsimp := false) (disch := omega) only [go_sem, Nat.reduceEqDiff, Nat.reduceLT, Nat.reduceAdd, Nat.reduceMul, Nat.reduceSub, Nat.reduceBEq, Nat.reduceLeDiff, reduceCtorEq, ↓reduceIte, Int.reduceLT, Int.reduceLE, Int.reduceToNat, Int.reduceEq, Int.reduceNe, Int.reduceNeg, Int.reduceBEq, Int.reduceBNe, Int.reduceAdd, Int.reduceSub, Int.reduceMul, Nat.reducePow, Int.reducePow, *, natOf_int]
      · repeat' (first | refine wpB_seq ?_ | refine wpB_regionL rfl ?_ | refine wpB_block ?_ | refine wpB_skip ?_ | refine wpB_exit ?_ | refine wpB_ret ?_ | simp (maxSteps := 1000000) (dsimp := false) (disch := omega) only [go_sem, Nat.reduceEqDiff, Nat.reduceLT, Nat.reduceAdd, Nat.reduceMul, Nat.reduceSub, Nat.reduceBEq, Nat.reduceLeDiff, reduceCtorEq, ↓reduceIte, Int.reduceLT, Int.reduceLE, Int.reduceToNat, Int.reduceEq, Int.reduceNe, Int.reduceNeg, Int.reduceBEq, Int.reduceBNe, Int.reduceAdd, Int.reduceSub, Int.reduceMul, Nat.reducePow, Int.reducePow, *])
        symm
        rw [List.take_of_length_le (by omega), List.take_of_length_le (by omega)] at ht
        simp [ht]
end Go.Proofs.Wt
end
/- The chapter on watching: how far each code is. -/
section
set_option maxHeartbeats 4000000
set_option linter.unusedVariables false
set_option linter.unusedSimpArgs false
namespace Go.Proofs.Wt
open Go Vm Go.Proofs.Zs30

/-- a code within a cluster -/
def ent (far w k n : Int) : Int := add far (IntKind.i64.wrap ((IntKind.i64.wrap (k * w)).tdiv n))
def part (l : List Gl) (q : Q) : List Gl := (l.take q.d.toNat).drop q.c.toNat
def wideQ (l : List Gl) (q : Q) : Int := wide (part l q) 0
/-- the codes of clusters, one behind the other, and the end -/
def cars (l : List Gl) : List Q → Int → List Int
  | [], far => [far]
  | q :: G, far => ((List.range (q.b - q.a).toNat).map fun k => ent far (wideQ l q) (k : Nat) (q.b - q.a)) ++ cars l G (add far (wideQ l q))
def caretsOf (l : List Gl) (c : Int) : List Int :=
  if checkOf l c ≠ 0 ∨ c < 0 then [] else if l = [] then List.replicate (c + 1).toNat 0 else cars l (clustersOf l c) 0
/-- a cluster's places -/
def okQ (l : List Gl) (c : Int) (q : Q) : Prop := 0 ≤ q.a ∧ q.a < q.b ∧ q.b ≤ c ∧ 0 ≤ q.c ∧ q.c < q.d ∧ q.d ≤ l.length
theorem runs_ok {l : List Gl} {c : Int} (h1 : ∀ j, j + 1 < l.length → bAt l j ≤ bAt l (j + 1)) (h2 : ∀ j, j < l.length → 0 ≤ bAt l j ∧ bAt l j < c) {f : Nat} {G : List Q} (h : Runs l c l.length f G) : ∀ q ∈ G, okQ l c q := by
  induction h with
  | nil => simp
  | cons f t G hft htn hs hn h ih =>
    intro q hq
    rcases List.mem_cons.1 hq with rfl | hq
    · have a1 := h2 f (by omega)
      by_cases ht : t < l.length
      · have := hs (t - 1) (by omega) (by omega)
        have a2 := h1 (t - 1) (by omega)
        rw [show t - 1 + 1 = t by omega] at a2
        have a3 := hn ht
        have a4 := h2 t ht
        simp only [okQ, if_pos ht]
        omega
      · simp only [okQ, if_neg ht]; omega
    · exact ih q hq
theorem clusters_okQ {l : List Gl} {c : Int} (hc : checkOf l c = 0) : ∀ q ∈ clustersOf l c, okQ l c q := by
  obtain ⟨h1, h2, h3⟩ := check_facts hc
  exact runs_ok h2 h3 (clusters_runs hc)
theorem sub_gl {l : List Gl} {a b : Nat} {f : Bool} : strip (D.sl f (((l.map Gl.d1).take b).drop a)) = some (glD ((l.take b).drop a)) := by
  rw [← List.map_take, ← List.map_drop, strip, strip_gls]; rfl
theorem hs6 (l : List Gl) : headSize 6 (l.map Gl.d1) = true := by cases l <;> rfl
theorem hs1 (l : List Int) : headSize 1 (l.map intD) = true := by cases l <;> rfl
theorem app_int {m : Nat} {d : D} {H : Heap} {l : List Int} (h : VecAt m d H (l.map intD)) (x : Int) (hl : l.length ≤ 1000000) : ∃ d' H', appendD Try.prog 31 (H ++ [Ob.arr [.int .i64 x]]) d (.vec H.length 0 1) = some (d', H') ∧ VecAt m d' H' ((l ++ [x]).map intD) ∧ Same m H H' := by
  have := VecAt.append el31 sz3 by3 zr3 rfl (by decide) h (q := intD x) rfl rfl (hs1 l) (by simp; omega)
  simpa [intD] using this
theorem mk_ints {n : Int} {H : Heap} (h0 : 0 < n) (h1 : n ≤ 100000) : makeSliceD Try.prog 31 (.int .i64 n) (.int .i64 n) H = some (.vec H.length 0 n.toNat, H ++ [Ob.arr (List.replicate n.toNat (.int .i64 0))]) := by
  simp only [makeSliceD, el31, sz31, sz3, by3, zr3, Option.bind_some]
  have hcond : 0 ≤ n ∧ n ≤ n ∧ n.toNat * 8 ≤ mostBytes ∧ n < 2 ^ 62 ∧ (D.int .i64 0).cells.length = 1 := ⟨by omega, Int.le_refl _, by simp only [mostBytes]; omega, by omega, rfl⟩
  rw [if_pos hcond, if_neg (by omega)]
theorem carets_ok (l : List Gl) (hl : l.length ≤ 1000) (c : Int) (hc : c ≤ 1000) : PureF Try.prog A 16 [glD l, .int .i64 c] (isD (caretsOf l c)) := by
  have hgl := clusters_len l c
  refine evF_inB (n := 69) (rs := [.tmp 4]) Try.func16 rfl rfl rfl rfl rfl rfl ?_
  repeat' (first | refine wpB_seq ?_ | refine wpB_regionL rfl ?_ | refine wpB_block ?_ | refine wpB_skip ?_ | refine wpB_exit ?_ | refine wpB_ret ?_ | simp (maxSteps := 1000000) (dsimp := false) (disch := omega) only [go_sem, Nat.reduceEqDiff, Nat.reduceLT, Nat.reduceAdd, Nat.reduceMul, Nat.reduceSub, Nat.reduceBEq, Nat.reduceLeDiff, reduceCtorEq, ↓reduceIte, Int.reduceLT, Int.reduceLE, Int.reduceToNat, Int.reduceEq, Int.reduceNe, Int.reduceNeg, Int.reduceBEq, Int.reduceBNe, Int.reduceAdd, Int.reduceSub, Int.reduceMul, Nat.reducePow, Int.reducePow, *])
  refine evB_plain bo10 rfl rfl (strip2 l c) (check_ok l hl c) ?_
  simp (maxSteps := 1000000) (dsimp := false) (disch := omega) only [go_sem, Nat.reduceEqDiff, Nat.reduceLT, Nat.reduceAdd, Nat.reduceMul, Nat.reduceSub, Nat.reduceBEq, Nat.reduceLeDiff, reduceCtorEq, ↓reduceIte, Int.reduceLT, Int.reduceLE, Int.reduceToNat, Int.reduceEq, Int.reduceNe, Int.reduceNeg, Int.reduceBEq, Int.reduceBNe, Int.reduceAdd, Int.reduceSub, Int.reduceMul, Nat.reducePow, Int.reducePow, *]
  by_cases hck : checkOf l c = 0
  · by_cases hc0 : c < 0
    · simp (maxSteps := 1000000) (dsimp := false) (disch := omega) only [go_sem, Nat.reduceEqDiff, Nat.reduceLT, Nat.reduceAdd, Nat.reduceMul, Nat.reduceSub, Nat.reduceBEq, Nat.reduceLeDiff, reduceCtorEq, ↓reduceIte, Int.reduceLT, Int.reduceLE, Int.reduceToNat, Int.reduceEq, Int.reduceNe, Int.reduceNeg, Int.reduceBEq, Int.reduceBNe, Int.reduceAdd, Int.reduceSub, Int.reduceMul, Nat.reducePow, Int.reducePow, *]
      refine wpB_cond (by simp (maxSteps := 1000000) (dsimp := false) (disch := omega) only [go_sem, Nat.reduceEqDiff, Nat.reduceLT, Nat.reduceAdd, Nat.reduceMul, Nat.reduceSub, Nat.reduceBEq, Nat.reduceLeDiff, reduceCtorEq, ↓reduceIte, Int.reduceLT, Int.reduceLE, Int.reduceToNat, Int.reduceEq, Int.reduceNe, Int.reduceNeg, Int.reduceBEq, Int.reduceBNe, Int.reduceAdd, Int.reduceSub, Int.reduceMul, Nat.reducePow, Int.reducePow, *]; exact rfl) (fun hb => ?_) (fun hb => ?_) <;> try simp (maxSteps := 1000000) (dsimp := false) (disch := omega) only [go_sem, Nat.reduceEqDiff, Nat.reduceLT, Nat.reduceAdd, Nat.reduceMul, Nat.reduceSub, Nat.reduceBEq, Nat.reduceLeDiff, reduceCtorEq, ↓reduceIte, Int.reduceLT, Int.reduceLE, Int.reduceToNat, Int.reduceEq, Int.reduceNe, Int.reduceNeg, Int.reduceBEq, Int.reduceBNe, Int.reduceAdd, Int.reduceSub, Int.reduceMul, Nat.reducePow, Int.reducePow, decide_eq_true_eq, decide_eq_false_iff_not, Bool.not_eq_true, Bool.not_eq_false, Int.not_lt, Int.not_le] at hb
      repeat' (first | refine wpB_seq ?_ | refine wpB_regionL rfl ?_ | refine wpB_block ?_ | refine wpB_skip ?_ | refine wpB_exit ?_ | refine wpB_ret ?_ | simp (maxSteps := 1000000) (dsimp := false) (disch := omega) only [go_sem, Nat.reduceEqDiff, Nat.reduceLT, Nat.reduceAdd, Nat.reduceMul, Nat.reduceSub, Nat.reduceBEq, Nat.reduceLeDiff, reduceCtorEq, ↓reduceIte, Int.reduceLT, Int.reduceLE, Int.reduceToNat, Int.reduceEq, Int.reduceNe, Int.reduceNeg, Int.reduceBEq, Int.reduceBNe, Int.reduceAdd, Int.reduceSub, Int.reduceMul, Nat.reducePow, Int.reducePow, *])
      rw [caretsOf, if_pos (.inr hc0)]; rfl
    · simp (maxSteps := 1000000) (dsimp := false) (disch := omega) only [go_sem, Nat.reduceEqDiff, Nat.reduceLT, Nat.reduceAdd, Nat.reduceMul, Nat.reduceSub, Nat.reduceBEq, Nat.reduceLeDiff, reduceCtorEq, ↓reduceIte, Int.reduceLT, Int.reduceLE, Int.reduceToNat, Int.reduceEq, Int.reduceNe, Int.reduceNeg, Int.reduceBEq, Int.reduceBNe, Int.reduceAdd, Int.reduceSub, Int.reduceMul, Nat.reducePow, Int.reducePow, *]
      refine wpB_cond (by simp (maxSteps := 1000000) (dsimp := false) (disch := omega) only [go_sem, Nat.reduceEqDiff, Nat.reduceLT, Nat.reduceAdd, Nat.reduceMul, Nat.reduceSub, Nat.reduceBEq, Nat.reduceLeDiff, reduceCtorEq, ↓reduceIte, Int.reduceLT, Int.reduceLE, Int.reduceToNat, Int.reduceEq, Int.reduceNe, Int.reduceNeg, Int.reduceBEq, Int.reduceBNe, Int.reduceAdd, Int.reduceSub, Int.reduceMul, Nat.reducePow, Int.reducePow, *]; exact rfl) (fun hb => ?_) (fun hb => ?_) <;> try simp (maxSteps := 1000000) (dsimp := false) (disch := omega) only [go_sem, Nat.reduceEqDiff, Nat.reduceLT, Nat.reduceAdd, Nat.reduceMul, Nat.reduceSub, Nat.reduceBEq, Nat.reduceLeDiff, reduceCtorEq, ↓reduceIte, Int.reduceLT, Int.reduceLE, Int.reduceToNat, Int.reduceEq, Int.reduceNe, Int.reduceNeg, Int.reduceBEq, Int.reduceBNe, Int.reduceAdd, Int.reduceSub, Int.reduceMul, Nat.reducePow, Int.reducePow, decide_eq_true_eq, decide_eq_false_iff_not, Bool.not_eq_true, Bool.not_eq_false, Int.not_lt, Int.not_le] at hb
      repeat' (first | refine wpB_seq ?_ | refine wpB_regionL rfl ?_ | refine wpB_block ?_ | refine wpB_skip ?_ | refine wpB_exit ?_ | refine wpB_ret ?_ | simp (maxSteps := 1000000) (dsimp := false) (disch := omega) only [go_sem, Nat.reduceEqDiff, Nat.reduceLT, Nat.reduceAdd, Nat.reduceMul, Nat.reduceSub, Nat.reduceBEq, Nat.reduceLeDiff, reduceCtorEq, ↓reduceIte, Int.reduceLT, Int.reduceLE, Int.reduceToNat, Int.reduceEq, Int.reduceNe, Int.reduceNeg, Int.reduceBEq, Int.reduceBNe, Int.reduceAdd, Int.reduceSub, Int.reduceMul, Nat.reducePow, Int.reducePow, *, glD])
      refine wpB_cond (by simp (maxSteps := 1000000) (dsimp := false) (disch := omega) only [go_sem, Nat.reduceEqDiff, Nat.reduceLT, Nat.reduceAdd, Nat.reduceMul, Nat.reduceSub, Nat.reduceBEq, Nat.reduceLeDiff, reduceCtorEq, ↓reduceIte, Int.reduceLT, Int.reduceLE, Int.reduceToNat, Int.reduceEq, Int.reduceNe, Int.reduceNeg, Int.reduceBEq, Int.reduceBNe, Int.reduceAdd, Int.reduceSub, Int.reduceMul, Nat.reducePow, Int.reducePow, *]; exact rfl) (fun hb2 => ?_) (fun hb2 => ?_) <;> try simp (maxSteps := 1000000) (dsimp := false) (disch := omega) only [go_sem, Nat.reduceEqDiff, Nat.reduceLT, Nat.reduceAdd, Nat.reduceMul, Nat.reduceSub, Nat.reduceBEq, Nat.reduceLeDiff, reduceCtorEq, ↓reduceIte, Int.reduceLT, Int.reduceLE, Int.reduceToNat, Int.reduceEq, Int.reduceNe, Int.reduceNeg, Int.reduceBEq, Int.reduceBNe, Int.reduceAdd, Int.reduceSub, Int.reduceMul, Nat.reducePow, Int.reducePow, decide_eq_true_eq, decide_eq_false_iff_not, Bool.not_eq_true, Bool.not_eq_false, Int.not_lt, Int.not_le] at hb2
      · have hl0 : l = [] := List.length_eq_zero_iff.1 (by simpa using hb2)
        subst hl0
        have hm := mk_ints (n := c + 1) (H := []) (by omega) (by omega)
        repeat' (first | refine wpB_seq ?_ | refine wpB_regionL rfl ?_ | refine wpB_block ?_ | refine wpB_skip ?_ | refine wpB_exit ?_ | refine wpB_ret ?_ | simp (maxSteps := 1000000) (dsimp := false) (disch := omega) only [go_sem, Nat.reduceEqDiff, Nat.reduceLT, Nat.reduceAdd, Nat.reduceMul, Nat.reduceSub, Nat.reduceBEq, Nat.reduceLeDiff, reduceCtorEq, ↓reduceIte, Int.reduceLT, Int.reduceLE, Int.reduceToNat, Int.reduceEq, Int.reduceNe, Int.reduceNeg, Int.reduceBEq, Int.reduceBNe, Int.reduceAdd, Int.reduceSub, Int.reduceMul, Nat.reducePow, Int.reducePow, *])
        rw [caretsOf, if_neg (by simp [hck]; omega), if_pos rfl]
        have := VecIs.out (d := .vec 0 0 (c + 1).toNat) (H := [Ob.arr (List.replicate (c + 1).toNat (.int .i64 0))]) (xs := (List.replicate (c + 1).toNat (0 : Int)).map intD) (.inr ⟨by simp; omega, 0, by simp, by simp [hget, intD], by simp⟩) (strip_is _)
        exact this
      · have hl0 : ¬ l = [] := fun h => by subst h; simp at hb2
        have hcar : caretsOf l c = cars l (clustersOf l c) 0 := by rw [caretsOf, if_neg (by simp [hck]; omega), if_neg hl0]
        have hok := clusters_okQ hck
        have hcl := clusters_ok l hl c
        rw [hcar]
        generalize clustersOf l c = G at hok hgl hcl ⊢
        clear hcar
        have h6 := hs6 l
        repeat' (first | refine wpB_seq ?_ | refine wpB_regionL rfl ?_ | refine wpB_block ?_ | refine wpB_skip ?_ | refine wpB_exit ?_ | refine wpB_ret ?_ | simp (maxSteps := 1000000) (dsimp := false) (disch := omega) only [go_sem, Nat.reduceEqDiff, Nat.reduceLT, Nat.reduceAdd, Nat.reduceMul, Nat.reduceSub, Nat.reduceBEq, Nat.reduceLeDiff, reduceCtorEq, ↓reduceIte, Int.reduceLT, Int.reduceLE, Int.reduceToNat, Int.reduceEq, Int.reduceNe, Int.reduceNeg, Int.reduceBEq, Int.reduceBNe, Int.reduceAdd, Int.reduceSub, Int.reduceMul, Nat.reducePow, Int.reducePow, *])
        refine evB_plain bo12 rfl rfl (strip2 l c) hcl ?_
        simp (maxSteps := 1000000) (dsimp := false) (disch := omega) only [go_sem, Nat.reduceEqDiff, Nat.reduceLT, Nat.reduceAdd, Nat.reduceMul, Nat.reduceSub, Nat.reduceBEq, Nat.reduceLeDiff, reduceCtorEq, ↓reduceIte, Int.reduceLT, Int.reduceLE, Int.reduceToNat, Int.reduceEq, Int.reduceNe, Int.reduceNeg, Int.reduceBEq, Int.reduceBNe, Int.reduceAdd, Int.reduceSub, Int.reduceMul, Nat.reducePow, Int.reducePow, *]
        repeat' (first | refine wpB_seq ?_ | refine wpB_regionL rfl ?_ | refine wpB_block ?_ | refine wpB_skip ?_ | refine wpB_exit ?_ | refine wpB_ret ?_ | simp (maxSteps := 1000000) (dsimp := false) (disch := omega) only [go_sem, Nat.reduceEqDiff, Nat.reduceLT, Nat.reduceAdd, Nat.reduceMul, Nat.reduceSub, Nat.reduceBEq, Nat.reduceLeDiff, reduceCtorEq, ↓reduceIte, Int.reduceLT, Int.reduceLE, Int.reduceToNat, Int.reduceEq, Int.reduceNe, Int.reduceNeg, Int.reduceBEq, Int.reduceBNe, Int.reduceAdd, Int.reduceSub, Int.reduceMul, Nat.reducePow, Int.reducePow, *])
        refine wpB_loop (fun e H => ∃ (j : Nat) (far : Int) (don : List Int), j ≤ G.length ∧ e 0 = glD l ∧ e 28 = .sl false (G.map Q.dd) ∧ e 29 = .int .i64 G.length ∧ e 30 = .int .i64 j ∧ e 6 = .int .i64 far ∧ VecAt 0 (e 5) H (don.map intD) ∧ don ++ cars l (G.drop j) far = cars l G 0 ∧ don.length ≤ 1000 * j) (fun e H => G.length - natOf (e 30)) ?_ ?_
        · refine ⟨0, 0, [], Nat.zero_le _, rfl, rfl, ?_, rfl, rfl, .nil (Nat.zero_le _), rfl, Nat.le_refl _⟩
          simp (maxSteps := 1000000) (dsimp := false) (disch := omega) only [go_sem, Nat.reduceEqDiff, Nat.reduceLT, Nat.reduceAdd, Nat.reduceMul, Nat.reduceSub, Nat.reduceBEq, Nat.reduceLeDiff, reduceCtorEq, ↓reduceIte, Int.reduceLT, Int.reduceLE, Int.reduceToNat, Int.reduceEq, Int.reduceNe, Int.reduceNeg, Int.reduceBEq, Int.reduceBNe, Int.reduceAdd, Int.reduceSub, Int.reduceMul, Nat.reducePow, Int.reducePow, *]
        · clear hb hb2 hcl
          rintro e H ⟨j, far, don, hj, e0, e28, e29, e30, e6, hv, hcars, hdl⟩ R hR
          repeat' (first | refine wpB_seq ?_ | refine wpB_regionL rfl ?_ | refine wpB_block ?_ | refine wpB_skip ?_ | refine wpB_exit ?_ | refine wpB_ret ?_ | simp (maxSteps := 1000000) (dsimp := false) (disch := omega) only [go_sem, Nat.reduceEqDiff, Nat.reduceLT, Nat.reduceAdd, Nat.reduceMul, Nat.reduceSub, Nat.reduceBEq, Nat.reduceLeDiff, reduceCtorEq, ↓reduceIte, Int.reduceLT, Int.reduceLE, Int.reduceToNat, Int.reduceEq, Int.reduceNe, Int.reduceNeg, Int.reduceBEq, Int.reduceBNe, Int.reduceAdd, Int.reduceSub, Int.reduceMul, Nat.reducePow, Int.reducePow, *])
          refine wpB_cond (by simp (maxSteps := 1000000) (dsimp := false) (disch := omega) only [go_sem, Nat.reduceEqDiff, Nat.reduceLT, Nat.reduceAdd, Nat.reduceMul, Nat.reduceSub, Nat.reduceBEq, Nat.reduceLeDiff, reduceCtorEq, ↓reduceIte, Int.reduceLT, Int.reduceLE, Int.reduceToNat, Int.reduceEq, Int.reduceNe, Int.reduceNeg, Int.reduceBEq, Int.reduceBNe, Int.reduceAdd, Int.reduceSub, Int.reduceMul, Nat.reducePow, Int.reducePow, *]; exact rfl) (fun hb => ?_) (fun hb => ?_) <;> try simp (maxSteps := 1000000) (dsimp := false) (disch := omega) only [go_sem, Nat.reduceEqDiff, Nat.reduceLT, Nat.reduceAdd, Nat.reduceMul, Nat.reduceSub, Nat.reduceBEq, Nat.reduceLeDiff, reduceCtorEq, ↓reduceIte, Int.reduceLT, Int.reduceLE, Int.reduceToNat, Int.reduceEq, Int.reduceNe, Int.reduceNeg, Int.reduceBEq, Int.reduceBNe, Int.reduceAdd, Int.reduceSub, Int.reduceMul, Nat.reducePow, Int.reducePow, decide_eq_true_eq, decide_eq_false_iff_not, Bool.not_eq_true, Bool.not_eq_false, Int.not_lt, Int.not_le] at hb
          · have hd : G.drop j = G[j] :: G.drop (j + 1) := List.drop_eq_getElem_cons hb
            obtain ⟨o1, o2, o3, o4, o5, o6⟩ := hok G[j] (List.getElem_mem hb)
            rw [hd] at hcars
            obtain ⟨q, hq⟩ : ∃ q, G[j] = q := ⟨_, rfl⟩
            simp only [hq] at hcars o1 o2 o3 o4 o5 o6
            have hstr : (stripL [D.sl false (((l.map Gl.d1).take q.d.toNat).drop q.c.toNat)]).isSome = true := by
              simp [stripL, sub_gl]
            repeat' (first | refine wpB_seq ?_ | refine wpB_regionL rfl ?_ | refine wpB_block ?_ | refine wpB_skip ?_ | refine wpB_exit ?_ | refine wpB_ret ?_ | simp (maxSteps := 1000000) (dsimp := false) (disch := omega) only [go_sem, Nat.reduceEqDiff, Nat.reduceLT, Nat.reduceAdd, Nat.reduceMul, Nat.reduceSub, Nat.reduceBEq, Nat.reduceLeDiff, reduceCtorEq, ↓reduceIte, Int.reduceLT, Int.reduceLE, Int.reduceToNat, Int.reduceEq, Int.reduceNe, Int.reduceNeg, Int.reduceBEq, Int.reduceBNe, Int.reduceAdd, Int.reduceSub, Int.reduceMul, Nat.reducePow, Int.reducePow, *])
            refine wpB_regionXL (by kernel_rfl) rfl ?_; simp (maxSteps := 1000000) (dsimp := false) (disch := omega) only [go_sem, Nat.reduceEqDiff, Nat.reduceLT, Nat.reduceAdd, Nat.reduceMul, Nat.reduceSub, Nat.reduceBEq, Nat.reduceLeDiff, reduceCtorEq, ↓reduceIte, Int.reduceLT, Int.reduceLE, Int.reduceToNat, Int.reduceEq, Int.reduceNe, Int.reduceNeg, Int.reduceBEq, Int.reduceBNe, Int.reduceAdd, Int.reduceSub, Int.reduceMul, Nat.reducePow, Int.reducePow, *, glD]
            rw [show D.sl false (List.drop q.c.toNat (List.take q.d.toNat (List.map Gl.d1 l))) = glD (part l q) by simp [glD, part]]
            refine evB_plain bo14 rfl rfl (strip1 _) (wide_ok _ (by simp [part]; omega)) ?_
            have hnq : 0 < q.b - q.a ∧ q.b - q.a ≤ 1000 := by omega
            simp (maxSteps := 1000000) (dsimp := false) (disch := omega) only [go_sem, Nat.reduceEqDiff, Nat.reduceLT, Nat.reduceAdd, Nat.reduceMul, Nat.reduceSub, Nat.reduceBEq, Nat.reduceLeDiff, reduceCtorEq, ↓reduceIte, Int.reduceLT, Int.reduceLE, Int.reduceToNat, Int.reduceEq, Int.reduceNe, Int.reduceNeg, Int.reduceBEq, Int.reduceBNe, Int.reduceAdd, Int.reduceSub, Int.reduceMul, Nat.reducePow, Int.reducePow, *]
            repeat' (first | refine wpB_seq ?_ | refine wpB_regionL rfl ?_ | refine wpB_block ?_ | refine wpB_skip ?_ | refine wpB_exit ?_ | refine wpB_ret ?_ | simp (maxSteps := 1000000) (dsimp := false) (disch := omega) only [go_sem, Nat.reduceEqDiff, Nat.reduceLT, Nat.reduceAdd, Nat.reduceMul, Nat.reduceSub, Nat.reduceBEq, Nat.reduceLeDiff, reduceCtorEq, ↓reduceIte, Int.reduceLT, Int.reduceLE, Int.reduceToNat, Int.reduceEq, Int.reduceNe, Int.reduceNeg, Int.reduceBEq, Int.reduceBNe, Int.reduceAdd, Int.reduceSub, Int.reduceMul, Nat.reducePow, Int.reducePow, *])
            refine wpB_loop (fun e H => ∃ k : Nat, (k : Int) ≤ q.b - q.a ∧ e 0 = glD l ∧ e 28 = .sl false (G.map Q.dd) ∧ e 29 = .int .i64 G.length ∧ e 30 = .int .i64 j ∧ e 6 = .int .i64 far ∧ e 9 = .int .i64 (wideQ l q) ∧ e 10 = .int .i64 (q.b - q.a) ∧ e 46 = .int .i64 (q.b - q.a) ∧ e 47 = .int .i64 k ∧
              VecAt 0 (e 5) H ((don ++ (List.range k).map fun k => ent far (wideQ l q) (k : Nat) (q.b - q.a)).map intD)) (fun e H => (q.b - q.a).toNat - natOf (e 47)) ?_ ?_
            · refine ⟨0, by omega, e0, e28, e29, e30, e6, rfl, rfl, rfl, rfl, ?_⟩
              have h := hv.app (L := [Ob.arr [q.dd]])
              simp only [List.range_zero, List.map_nil, List.append_nil]
              exact h
            · have o30 := e30
              clear e0 e28 e29 e30 e6 hv
              rintro e H ⟨k, hk, e0, e28, e29, e30, e6, e9, e10, e46, e47, hv⟩ R' hR'
              repeat' (first | refine wpB_seq ?_ | refine wpB_regionL rfl ?_ | refine wpB_block ?_ | refine wpB_skip ?_ | refine wpB_exit ?_ | refine wpB_ret ?_ | simp (maxSteps := 1000000) (dsimp := false) (disch := omega) only [go_sem, Nat.reduceEqDiff, Nat.reduceLT, Nat.reduceAdd, Nat.reduceMul, Nat.reduceSub, Nat.reduceBEq, Nat.reduceLeDiff, reduceCtorEq, ↓reduceIte, Int.reduceLT, Int.reduceLE, Int.reduceToNat, Int.reduceEq, Int.reduceNe, Int.reduceNeg, Int.reduceBEq, Int.reduceBNe, Int.reduceAdd, Int.reduceSub, Int.reduceMul, Nat.reducePow, Int.reducePow, *])
              refine wpB_cond (by simp (maxSteps := 1000000) (dsimp := false) (disch := omega) only [go_sem, Nat.reduceEqDiff, Nat.reduceLT, Nat.reduceAdd, Nat.reduceMul, Nat.reduceSub, Nat.reduceBEq, Nat.reduceLeDiff, reduceCtorEq, ↓reduceIte, Int.reduceLT, Int.reduceLE, Int.reduceToNat, Int.reduceEq, Int.reduceNe, Int.reduceNeg, Int.reduceBEq, Int.reduceBNe, Int.reduceAdd, Int.reduceSub, Int.reduceMul, Nat.reducePow, Int.reducePow, *]; exact rfl) (fun hb2 => ?_) (fun hb2 => ?_) <;> try simp (maxSteps := 1000000) (dsimp := false) (disch := omega) only [go_sem, Nat.reduceEqDiff, Nat.reduceLT, Nat.reduceAdd, Nat.reduceMul, Nat.reduceSub, Nat.reduceBEq, Nat.reduceLeDiff, reduceCtorEq, ↓reduceIte, Int.reduceLT, Int.reduceLE, Int.reduceToNat, Int.reduceEq, Int.reduceNe, Int.reduceNeg, Int.reduceBEq, Int.reduceBNe, Int.reduceAdd, Int.reduceSub, Int.reduceMul, Nat.reducePow, Int.reducePow, decide_eq_true_eq, decide_eq_false_iff_not, Bool.not_eq_true, Bool.not_eq_false, Int.not_lt, Int.not_le] at hb2
              · obtain ⟨d', H2, ha, hv2, hs2⟩ := app_int hv (ent far (wideQ l q) (k : Nat) (q.b - q.a)) (by simp; omega)
                have hq0 : ¬ q.b - q.a = 0 := by omega
                repeat' (first | refine wpB_seq ?_ | refine wpB_regionL rfl ?_ | refine wpB_block ?_ | refine wpB_skip ?_ | refine wpB_exit ?_ | refine wpB_ret ?_ | simp (maxSteps := 1000000) (dsimp := false) (disch := omega) only [go_sem, Nat.reduceEqDiff, Nat.reduceLT, Nat.reduceAdd, Nat.reduceMul, Nat.reduceSub, Nat.reduceBEq, Nat.reduceLeDiff, reduceCtorEq, ↓reduceIte, Int.reduceLT, Int.reduceLE, Int.reduceToNat, Int.reduceEq, Int.reduceNe, Int.reduceNeg, Int.reduceBEq, Int.reduceBNe, Int.reduceAdd, Int.reduceSub, Int.reduceMul, Nat.reducePow, Int.reducePow, *])
                refine evB_plain bo21 rfl rfl (by simp [stripL, strip]) (add_ok _ _) ?_
                simp only [ent] at ha
                simp (maxSteps := 1000000) (dsimp := false) (disch := omega) only [go_sem, Nat.reduceEqDiff, Nat.reduceLT, Nat.reduceAdd, Nat.reduceMul, Nat.reduceSub, Nat.reduceBEq, Nat.reduceLeDiff, reduceCtorEq, ↓reduceIte, Int.reduceLT, Int.reduceLE, Int.reduceToNat, Int.reduceEq, Int.reduceNe, Int.reduceNeg, Int.reduceBEq, Int.reduceBNe, Int.reduceAdd, Int.reduceSub, Int.reduceMul, Nat.reducePow, Int.reducePow, *]
                repeat' (first | refine wpB_seq ?_ | refine wpB_regionL rfl ?_ | refine wpB_block ?_ | refine wpB_skip ?_ | refine wpB_exit ?_ | refine wpB_ret ?_ | simp (maxSteps := 1000000) (dsimp := false) (disch := omega) only [go_sem, Nat.reduceEqDiff, Nat.reduceLT, Nat.reduceAdd, Nat.reduceMul, Nat.reduceSub, Nat.reduceBEq, Nat.reduceLeDiff, reduceCtorEq, ↓reduceIte, Int.reduceLT, Int.reduceLE, Int.reduceToNat, Int.reduceEq, Int.reduceNe, Int.reduceNeg, Int.reduceBEq, Int.reduceBNe, Int.reduceAdd, Int.reduceSub, Int.reduceMul, Nat.reducePow, Int.reducePow, *])
                refine hR' _ _ ⟨k + 1, by omega, e0, e28, e29, e30, e6, e9, e10, e46, rfl, ?_⟩ ?_
                · have h : (don ++ (List.range (k + 1)).map fun k => ent far (wideQ l q) (k : Nat) (q.b - q.a)).map intD = ((don ++ (List.range k).map fun k => ent far (wideQ l q) (k : Nat) (q.b - q.a)) ++ [ent far (wideQ l q) (k : Nat) (q.b - q.a)]).map intD := by simp [List.range_succ]
                  rw [h]
                  exact hv2
                · simp (maxSteps := 1000000) (dsimp := false) (disch := omega) only [go_sem, Nat.reduceEqDiff, Nat.reduceLT, Nat.reduceAdd, Nat.reduceMul, Nat.reduceSub, Nat.reduceBEq, Nat.reduceLeDiff, reduceCtorEq, ↓reduceIte, Int.reduceLT, Int.reduceLE, Int.reduceToNat, Int.reduceEq, Int.reduceNe, Int.reduceNeg, Int.reduceBEq, Int.reduceBNe, Int.reduceAdd, Int.reduceSub, Int.reduceMul, Nat.reducePow, Int.reducePow, *, natOf_int]
              · repeat' (first | refine wpB_seq ?_ | refine wpB_regionL rfl ?_ | refine wpB_block ?_ | refine wpB_skip ?_ | refine wpB_exit ?_ | refine wpB_ret ?_ | simp (maxSteps := 1000000) (dsimp := false) (disch := omega) only [go_sem, Nat.reduceEqDiff, Nat.reduceLT, Nat.reduceAdd, Nat.reduceMul, Nat.reduceSub, Nat.reduceBEq, Nat.reduceLeDiff, reduceCtorEq, ↓reduceIte, Int.reduceLT, Int.reduceLE, Int.reduceToNat, Int.reduceEq, Int.reduceNe, Int.reduceNeg, Int.reduceBEq, Int.reduceBNe, Int.reduceAdd, Int.reduceSub, Int.reduceMul, Nat.reducePow, Int.reducePow, *])
                refine evB_plain bo21 rfl rfl (by simp [stripL, strip]) (add_ok _ _) ?_
                repeat' (first | refine wpB_seq ?_ | refine wpB_regionL rfl ?_ | refine wpB_block ?_ | refine wpB_skip ?_ | refine wpB_exit ?_ | refine wpB_ret ?_ | simp (maxSteps := 1000000) (dsimp := false) (disch := omega) only [go_sem, Nat.reduceEqDiff, Nat.reduceLT, Nat.reduceAdd, Nat.reduceMul, Nat.reduceSub, Nat.reduceBEq, Nat.reduceLeDiff, reduceCtorEq, ↓reduceIte, Int.reduceLT, Int.reduceLE, Int.reduceToNat, Int.reduceEq, Int.reduceNe, Int.reduceNeg, Int.reduceBEq, Int.reduceBNe, Int.reduceAdd, Int.reduceSub, Int.reduceMul, Nat.reducePow, Int.reducePow, *])
                have hkn : k = (q.b - q.a).toNat := by omega
                refine hR _ _ ⟨j + 1, _, _, by omega, e0, e28, e29, rfl, rfl, hv, ?_, ?_⟩ ?_
                · rw [← hcars, cars, hkn, List.append_assoc]
                · simp; omega
                · simp (maxSteps := 1000000) (dsimp := false) (disch := omega) only [go_sem, Nat.reduceEqDiff, Nat.reduceLT, Nat.reduceAdd, Nat.reduceMul, Nat.reduceSub, Nat.reduceBEq, Nat.reduceLeDiff, reduceCtorEq, ↓reduceIte, Int.reduceLT, Int.reduceLE, Int.reduceToNat, Int.reduceEq, Int.reduceNe, Int.reduceNeg, Int.reduceBEq, Int.reduceBNe, Int.reduceAdd, Int.reduceSub, Int.reduceMul, Nat.reducePow, Int.reducePow, *, natOf_int]
          · obtain ⟨d', H2, ha, hv2, hs2⟩ := app_int hv far (by omega)
            repeat' (first | refine wpB_seq ?_ | refine wpB_regionL rfl ?_ | refine wpB_block ?_ | refine wpB_skip ?_ | refine wpB_exit ?_ | refine wpB_ret ?_ | simp (maxSteps := 1000000) (dsimp := false) (disch := omega) only [go_sem, Nat.reduceEqDiff, Nat.reduceLT, Nat.reduceAdd, Nat.reduceMul, Nat.reduceSub, Nat.reduceBEq, Nat.reduceLeDiff, reduceCtorEq, ↓reduceIte, Int.reduceLT, Int.reduceLE, Int.reduceToNat, Int.reduceEq, Int.reduceNe, Int.reduceNeg, Int.reduceBEq, Int.reduceBNe, Int.reduceAdd, Int.reduceSub, Int.reduceMul, Nat.reducePow, Int.reducePow, *])
            rw [List.drop_eq_nil_of_le (by omega), cars] at hcars
            rw [← hcars]
            exact hv2.out (strip_is _)
  · simp (maxSteps := 1000000) (dsimp := false) (disch := omega) only [go_sem, Nat.reduceEqDiff, Nat.reduceLT, Nat.reduceAdd, Nat.reduceMul, Nat.reduceSub, Nat.reduceBEq, Nat.reduceLeDiff, reduceCtorEq, ↓reduceIte, Int.reduceLT, Int.reduceLE, Int.reduceToNat, Int.reduceEq, Int.reduceNe, Int.reduceNeg, Int.reduceBEq, Int.reduceBNe, Int.reduceAdd, Int.reduceSub, Int.reduceMul, Nat.reducePow, Int.reducePow, *]
    refine wpB_cond (by simp (maxSteps := 1000000) (dsimp := false) (disch := omega) only [go_sem, Nat.reduceEqDiff, Nat.reduceLT, Nat.reduceAdd, Nat.reduceMul, Nat.reduceSub, Nat.reduceBEq, Nat.reduceLeDiff, reduceCtorEq, ↓reduceIte, Int.reduceLT, Int.reduceLE, Int.reduceToNat, Int.reduceEq, Int.reduceNe, Int.reduceNeg, Int.reduceBEq, Int.reduceBNe, Int.reduceAdd, Int.reduceSub, Int.reduceMul, Nat.reducePow, Int.reducePow, *]; exact rfl) (fun hb => ?_) (fun hb => ?_) <;> try simp (maxSteps := 1000000) (dsimp := false) (disch := omega) only [go_sem, Nat.reduceEqDiff, Nat.reduceLT, Nat.reduceAdd, Nat.reduceMul, Nat.reduceSub, Nat.reduceBEq, Nat.reduceLeDiff, reduceCtorEq, ↓reduceIte, Int.reduceLT, Int.reduceLE, Int.reduceToNat, Int.reduceEq, Int.reduceNe, Int.reduceNeg, Int.reduceBEq, Int.reduceBNe, Int.reduceAdd, Int.reduceSub, Int.reduceMul, Nat.reducePow, Int.reducePow, decide_eq_true_eq, decide_eq_false_iff_not, Bool.not_eq_true, Bool.not_eq_false, Int.not_lt, Int.not_le] at hb
    repeat' (first | refine wpB_seq ?_ | refine wpB_regionL rfl ?_ | refine wpB_block ?_ | refine wpB_skip ?_ | refine wpB_exit ?_ | refine wpB_ret ?_ | simp (maxSteps := 1000000) (dsimp := false) (disch := omega) only [go_sem, Nat.reduceEqDiff, Nat.reduceLT, Nat.reduceAdd, Nat.reduceMul, Nat.reduceSub, Nat.reduceBEq, Nat.reduceLeDiff, reduceCtorEq, ↓reduceIte, Int.reduceLT, Int.reduceLE, Int.reduceToNat, Int.reduceEq, Int.reduceNe, Int.reduceNeg, Int.reduceBEq, Int.reduceBNe, Int.reduceAdd, Int.reduceSub, Int.reduceMul, Nat.reducePow, Int.reducePow, *])
    rw [caretsOf, if_pos (.inl hck)]; rfl
end Go.Proofs.Wt
end
/- The chapter on watching: the document's carets. -/
section
set_option maxHeartbeats 4000000
set_option linter.unusedVariables false
set_option linter.unusedSimpArgs false
namespace Go.Proofs.Wt
open Go Vm Go.Proofs.Zs30

theorem w32_eq (a : Int) : IntKind.i32.wrap a = (a + 2147483648) % 4294967296 - 2147483648 := by rw [IntKind.wrap_i32]
theorem add_eq2 (a b : Int) : add a b = (a + b + 2147483648) % 4294967296 - 2147483648 := by
  rw [add_eq]; simp only [w32_eq]; omega
def fits (a : Int) : Prop := -2147483648 ≤ a ∧ a < 2147483648
theorem add_fits (a b : Int) : fits (add a b) := by rw [add_eq2]; unfold fits; omega
theorem add_assoc3 (a b x : Int) : add a (add b x) = add (add a b) x := by simp only [add_eq2]; omega
theorem add_zero32 {a : Int} (h : fits a) : add a 0 = a := by rw [add_eq2]; unfold fits at h; omega
theorem wide_fits {xs : List Gl} : ∀ {a : Int}, fits a → fits (wide xs a) := by
  induction xs with
  | nil => exact fun h => h
  | cons g r ih => exact fun h => ih (add_fits _ _)
theorem add_wide {xs : List Gl} : ∀ {a b : Int}, add a (wide xs b) = wide xs (add a b) := by
  induction xs with
  | nil => exact rfl
  | cons g r ih => intro a b; simp only [wide]; rw [ih, add_assoc3]
theorem wide_app (xs ys : List Gl) : ∀ a : Int, wide (xs ++ ys) a = wide ys (wide xs a) := by
  induction xs with
  | nil => exact fun _ => rfl
  | cons g r ih => intro a; simp only [List.cons_append, wide]; exact ih _
/-- what the document reckons for a code, cluster by cluster -/
def rstep (l : List Gl) (i own : Int) (q : Q) (far : Int) : Int :=
  let f1 := if q.a < own then add far (wideQ l q) else far
  if q.a = own then add f1 (IntKind.i64.wrap ((IntKind.i64.wrap (IntKind.i64.wrap (i - own) * wideQ l q)).tdiv (IntKind.i64.wrap (q.b - own)))) else f1
def rfold (l : List Gl) (i own : Int) : List Q → Int → Int
  | [], far => far
  | q :: G, far => rfold l i own G (rstep l i own q far)
theorem rfold_take {l : List Gl} {i own : Int} {G : List Q} {j : Nat} {q : Q} : ∀ {far : Int}, G[j]? = some q → rfold l i own (G.take (j + 1)) far = rstep l i own q (rfold l i own (G.take j) far) := by
  induction G generalizing j with
  | nil => intro far h; simp at h
  | cons x G ih =>
    intro far h
    cases j with
    | zero => simp at h; subst h; simp [rfold]
    | succ j => simp only [List.take_succ_cons, rfold]; exact ih (by simpa using h)
theorem rfold_above {l : List Gl} {i own : Int} {G : List Q} : ∀ {far : Int}, (∀ q ∈ G, own < q.a) → rfold l i own G far = far := by
  induction G with
  | nil => exact fun _ => rfl
  | cons q G ih =>
    intro far h
    have := h q (by simp)
    have e : rstep l i own q far = far := by simp only [rstep]; rw [if_neg (by omega), if_neg (by omega)]
    simp only [rfold, e]
    exact ih fun p hp => h p (by simp [hp])
theorem runs_ge {l : List Gl} {c : Int} (h1 : ∀ j, j + 1 < l.length → bAt l j ≤ bAt l (j + 1)) {f : Nat} {G : List Q} (h : Runs l c l.length f G) : ∀ q ∈ G, bAt l f ≤ q.a := by
  induction h with
  | nil => simp
  | cons f t G hft htn hs hn h ih =>
    intro q hq
    rcases List.mem_cons.1 hq with rfl | hq
    · exact Int.le_refl _
    · have := ih q hq
      by_cases ht : t < l.length
      · exact Int.le_trans (mono_le h1 (by omega) ht) this
      · rw [runs_end h ht] at hq
        exact absurd hq (by simp)
theorem part_drop {l : List Gl} {f t : Nat} {x : Int} {far : Int} (hft : f ≤ t) (htl : t ≤ l.length) (hff : fits far) : wide (l.drop f) far = wide (l.drop t) (add far (wideQ l ⟨x, x, f, t⟩)) := by
  have : l.drop f = (l.take t).drop f ++ l.drop t := by
    conv => lhs; rw [← List.take_append_drop t l]
    rw [List.drop_append, show f - (l.take t).length = 0 by simp; omega, List.drop_zero]
  rw [this, wide_app, wideQ, part]
  simp only [Int.toNat_natCast]
  rw [add_wide, add_zero32 hff]
theorem wideQ_congr {l : List Gl} {q p : Q} (h1 : q.c = p.c) (h2 : q.d = p.d) : wideQ l q = wideQ l p := by simp [wideQ, part, h1, h2]
/-- what stands for a code; how many there are; what the last one is -/
theorem cars_at {l : List Gl} {c : Int} (h1 : ∀ j, j + 1 < l.length → bAt l j ≤ bAt l (j + 1)) (h2 : ∀ j, j < l.length → 0 ≤ bAt l j ∧ bAt l j < c) (hc : c ≤ 1000) {f : Nat} {G : List Q} (h : Runs l c l.length f G) :
    ∀ far, f < l.length → fits far → (∀ i, bAt l f ≤ i → i < c → (cars l G far)[(i - bAt l f).toNat]? = some (rfold l i (((G.find? (hasQ i)).map Q.a).getD (-1)) G far)) ∧
      (cars l G far).length = (c - bAt l f).toNat + 1 ∧ (cars l G far)[(c - bAt l f).toNat]? = some (wide (l.drop f) far) := by
  induction h with
  | nil => intro far hf; omega
  | cons f t G hft htn hs hn h ih =>
    intro far hf hff
    have a1 := h2 f hf
    obtain ⟨q, hq⟩ : ∃ q : Q, (⟨bAt l f, if t < l.length then bAt l t else c, f, t⟩ : Q) = q := ⟨_, rfl⟩
    have ha : q.a = bAt l f := by rw [← hq]
    have hb : q.b = if t < l.length then bAt l t else c := by rw [← hq]
    have hqw : wideQ l q = wideQ l ⟨f, f, f, t⟩ := wideQ_congr (by rw [← hq]) (by rw [← hq])
    rw [hq]
    have hok : q.a < q.b ∧ q.b ≤ c := by
      have := runs_ok h1 h2 (Runs.cons f t G hft htn hs hn h) _ (List.mem_cons_self ..)
      rw [hq] at this
      exact ⟨this.2.1, this.2.2.1⟩
    have hlen1 : ((List.range (q.b - q.a).toNat).map fun k => ent far (wideQ l q) (k : Nat) (q.b - q.a)).length = (q.b - q.a).toNat := by simp
    have inq : ∀ i, bAt l f ≤ i → i < q.b → (cars l (q :: G) far)[(i - bAt l f).toNat]? = some (rfold l i ((((q :: G).find? (hasQ i)).map Q.a).getD (-1)) (q :: G) far) := by
      intro i hi1 hi2
      have hh : hasQ i q = true := by simp [hasQ, ha, hi1, hi2]
      rw [List.find?_cons, hh]
      simp only [Option.map_some, Option.getD_some, rfold, cars]
      rw [List.getElem?_append_left (by rw [hlen1]; omega), List.getElem?_map, List.getElem?_range (by omega)]
      simp only [Option.map_some, Option.some.injEq]
      rw [rfold_above]
      · simp only [rstep, Int.lt_irrefl, if_false, if_true, ent]
        rw [wi64 (n := i - q.a) (by omega) (by omega), wi64 (n := q.b - q.a) (by omega) (by omega)]
        rw [show (((i - bAt l f).toNat : Nat) : Int) = i - q.a by omega]
      · intro p hp
        by_cases ht : t < l.length
        · have := runs_ge h1 h p hp
          rw [if_pos ht] at hb
          omega
        · cases h with
          | nil => cases hp
          | cons _ t' G' hft' htn' => omega
    by_cases ht : t < l.length
    · rw [if_pos ht] at hb
      obtain ⟨ih1, ih2, ih3⟩ := ih (add far (wideQ l q)) ht (add_fits _ _)
      refine ⟨fun i hi1 hi2 => ?_, ?_, ?_⟩
      · by_cases hib : i < q.b
        · exact inq i hi1 hib
        · have hh : hasQ i q = false := by simp [hasQ]; omega
          rw [List.find?_cons, hh]
          simp only [rfold, cars]
          rw [List.getElem?_append_right (by rw [hlen1]; omega), hlen1, show (i - bAt l f).toNat - (q.b - q.a).toNat = (i - bAt l t).toNat by omega, ih1 i (by omega) hi2]
          have hex := (runs_find h1 h hi2).2 ht (by omega)
          obtain ⟨p, hp⟩ := Option.isSome_iff_exists.1 hex
          have hpa := runs_ge h1 h p (List.mem_of_find?_eq_some hp)
          rw [hp]
          simp only [Option.map_some, Option.getD_some]
          have e : rstep l i p.a q far = add far (wideQ l q) := by simp only [rstep, if_pos (show q.a < p.a by omega), if_neg (show ¬ q.a = p.a by omega)]
          rw [e]
      · simp only [cars, List.length_append, hlen1, ih2]; omega
      · simp only [cars]
        rw [List.getElem?_append_right (by rw [hlen1]; omega), hlen1, show (c - bAt l f).toNat - (q.b - q.a).toNat = (c - bAt l t).toNat by omega, ih3, part_drop (x := f) (t := t) (by omega) (by omega) hff, hqw]
    · rw [if_neg ht] at hb
      have hte : t = l.length := by omega
      have hG : G = [] := runs_end h ht
      subst hG
      refine ⟨fun i hi1 hi2 => inq i hi1 (by omega), ?_, ?_⟩
      · simp only [cars, List.length_append, hlen1, List.length_cons, List.length_nil]; omega
      · simp only [cars]
        rw [List.getElem?_append_right (by rw [hlen1]; omega), hlen1, show (c - bAt l f).toNat - (q.b - q.a).toNat = 0 by omega, part_drop (x := f) (t := t) (by omega) (by omega) hff, hqw, List.drop_eq_nil_of_le (by omega)]
        rfl
end Go.Proofs.Wt
end
