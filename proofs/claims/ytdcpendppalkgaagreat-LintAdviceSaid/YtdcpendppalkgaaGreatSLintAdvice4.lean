/- What the functions that the statement reaches do: their contracts; and what follows of it. -/
import Derived.Test.YtdcpendppalkgaaGreatSLintAdvice3
/- Which instructions there may be: the document's answer, path by path. PRINTED BY one.py, a program of this work. -/
namespace Go.Proofs
open Go Go.RowKit Go.Am

set_option maxRecDepth 20000 in
set_option maxHeartbeats 4000000 in
theorem refOne1 (x : Inst) (args : Int) (o : x.op = 1) : Run Tryz.prog false [.c c65] (retQ [.t 4] fun r' _ => wk r' = .bool (oneInst x args)) (slots0 [.agg (encInst x), .int .i64 args]) H.nil := by
  simp -implicitDefEqProofs [encInst, o]
  by_cases a1 : x.a < 0
  · simp -implicitDefEqProofs [oneInst, isReg, keyNone, o, a1]
  · simp -implicitDefEqProofs [encInst, o, a1]
    by_cases a2 : 3 < x.a
    · simp -implicitDefEqProofs [oneInst, isReg, keyNone, o, a1, a2]
    · simp -implicitDefEqProofs [encInst, o, a1, a2]
      by_cases x1 : x.x = 0
      · simp -implicitDefEqProofs [encInst, o, a1, a2, x1]
        by_cases b1 : x.b = 0
        · simp -implicitDefEqProofs [encInst, o, a1, a2, x1, b1]
          by_cases b2 : x.c = 0
          · simp -implicitDefEqProofs [encInst, o, a1, a2, x1, b1, b2]
            by_cases l1 : x.l.arg = 0
            · simp -implicitDefEqProofs [l1]
              by_cases l2 : x.l.base = 0
              · simp -implicitDefEqProofs [encInst, o, a1, a2, x1, b1, b2, l1, l2]
                refine callQ_p (refMayKey_ok x.k args) (by simp [encKeyT]) ?_
                cases hk : mayKey x.k args
                · simp -implicitDefEqProofs [oneInst, isReg, keyNone, hk, o, a1, a2, x1, b1, b2, l1, l2]
                · simp -implicitDefEqProofs [oneInst, isReg, keyNone, hk, o, a1, a2, x1, b1, b2, l1, l2]
              · simp -implicitDefEqProofs [oneInst, isReg, keyNone, o, a1, a2, x1, b1, b2, l1, l2]
            · simp -implicitDefEqProofs [oneInst, isReg, keyNone, o, a1, a2, x1, b1, b2, l1]
          · simp -implicitDefEqProofs [oneInst, isReg, keyNone, o, a1, a2, x1, b1, b2]
        · simp -implicitDefEqProofs [oneInst, isReg, keyNone, o, a1, a2, x1, b1]
      · simp -implicitDefEqProofs [oneInst, isReg, keyNone, o, a1, a2, x1]
set_option maxRecDepth 20000 in
set_option maxHeartbeats 4000000 in
theorem refOne2 (x : Inst) (args : Int) (o : x.op = 2) : Run Tryz.prog false [.c c65] (retQ [.t 4] fun r' _ => wk r' = .bool (oneInst x args)) (slots0 [.agg (encInst x), .int .i64 args]) H.nil := by
  simp -implicitDefEqProofs [encInst, o]
  by_cases a1 : x.a < 0
  · simp -implicitDefEqProofs [oneInst, isReg, keyNone, o, a1]
  · simp -implicitDefEqProofs [encInst, o, a1]
    by_cases a2 : 3 < x.a
    · simp -implicitDefEqProofs [oneInst, isReg, keyNone, o, a1, a2]
    · simp -implicitDefEqProofs [encInst, o, a1, a2]
      by_cases x1 : x.x = 0
      · simp -implicitDefEqProofs [encInst, o, a1, a2, x1]
        by_cases b1 : x.b = 0
        · simp -implicitDefEqProofs [encInst, o, a1, a2, x1, b1]
          by_cases b2 : x.c = 0
          · simp -implicitDefEqProofs [encInst, o, a1, a2, x1, b1, b2]
            by_cases l1 : x.l.arg = 0
            · simp -implicitDefEqProofs [l1]
              by_cases l2 : x.l.base = 0
              · simp -implicitDefEqProofs [encInst, o, a1, a2, x1, b1, b2, l1, l2]
                refine callQ_p (refMayKey_ok x.k args) (by simp [encKeyT]) ?_
                cases hk : mayKey x.k args
                · simp -implicitDefEqProofs [oneInst, isReg, keyNone, hk, o, a1, a2, x1, b1, b2, l1, l2]
                · simp -implicitDefEqProofs [oneInst, isReg, keyNone, hk, o, a1, a2, x1, b1, b2, l1, l2]
              · simp -implicitDefEqProofs [oneInst, isReg, keyNone, o, a1, a2, x1, b1, b2, l1, l2]
            · simp -implicitDefEqProofs [oneInst, isReg, keyNone, o, a1, a2, x1, b1, b2, l1]
          · simp -implicitDefEqProofs [oneInst, isReg, keyNone, o, a1, a2, x1, b1, b2]
        · simp -implicitDefEqProofs [oneInst, isReg, keyNone, o, a1, a2, x1, b1]
      · simp -implicitDefEqProofs [oneInst, isReg, keyNone, o, a1, a2, x1]
set_option maxRecDepth 20000 in
set_option maxHeartbeats 4000000 in
theorem refOne3 (x : Inst) (args : Int) (o : x.op = 3) : Run Tryz.prog false [.c c65] (retQ [.t 4] fun r' _ => wk r' = .bool (oneInst x args)) (slots0 [.agg (encInst x), .int .i64 args]) H.nil := by
  simp -implicitDefEqProofs [encInst, o]
  by_cases a1 : x.a < 0
  · simp -implicitDefEqProofs [oneInst, keyNone, o, a1]
    intro h; omega
  · simp -implicitDefEqProofs [encInst, o, a1]
    by_cases a2 : 3 < x.a
    · simp -implicitDefEqProofs [oneInst, keyNone, o, a1, a2]
      intro h; omega
    · simp -implicitDefEqProofs [encInst, o, a1, a2]
      by_cases a3 : x.a = 0
      · simp -implicitDefEqProofs [encInst, o, a3]
        by_cases x1 : x.x = 0
        · simp -implicitDefEqProofs [encInst, o, a3, x1]
          by_cases b1 : x.b = 0
          · simp -implicitDefEqProofs [encInst, o, a3, x1, b1]
            by_cases b2 : x.c = 0
            · simp -implicitDefEqProofs [encInst, o, a3, x1, b1, b2]
              by_cases l1 : x.l.arg = 0
              · simp -implicitDefEqProofs [l1]
                by_cases l2 : x.l.base = 0
                · simp -implicitDefEqProofs [encInst, o, a3, x1, b1, b2, l1, l2]
                  refine callQ_p (refMayKey_ok x.k args) (by simp [encKeyT]) ?_
                  cases hk : mayKey x.k args
                  · simp -implicitDefEqProofs [oneInst, keyNone, hk, o, a3, x1, b1, b2, l1, l2]
                  · simp -implicitDefEqProofs [oneInst, keyNone, hk, o, a3, x1, b1, b2, l1, l2]
                · simp -implicitDefEqProofs [oneInst, keyNone, o, a3, x1, b1, b2, l1, l2]
              · simp -implicitDefEqProofs [oneInst, keyNone, o, a3, x1, b1, b2, l1]
            · simp -implicitDefEqProofs [oneInst, keyNone, o, a3, x1, b1, b2]
          · simp -implicitDefEqProofs [oneInst, keyNone, o, a3, x1, b1]
        · simp -implicitDefEqProofs [oneInst, keyNone, o, a3, x1]
      · simp -implicitDefEqProofs [oneInst, keyNone, o, a1, a2, a3]
set_option maxRecDepth 20000 in
set_option maxHeartbeats 4000000 in
theorem refOne4 (x : Inst) (args : Int) (o : x.op = 4) : Run Tryz.prog false [.c c65] (retQ [.t 4] fun r' _ => wk r' = .bool (oneInst x args)) (slots0 [.agg (encInst x), .int .i64 args]) H.nil := by
  simp -implicitDefEqProofs [encInst, o]
  by_cases a1 : x.a < 0
  · simp -implicitDefEqProofs [oneInst, isReg, o, a1]
  · simp -implicitDefEqProofs [encInst, o, a1]
    by_cases a2 : 3 < x.a
    · simp -implicitDefEqProofs [oneInst, isReg, o, a1, a2]
    · simp -implicitDefEqProofs [encInst, o, a1, a2]
      by_cases x1 : x.x = 0
      · simp -implicitDefEqProofs [encInst, o, a1, a2, x1]
        by_cases b1 : x.b = 0
        · simp -implicitDefEqProofs [encInst, o, a1, a2, x1, b1]
          by_cases b2 : x.c = 0
          · simp -implicitDefEqProofs [encInst, o, a1, a2, x1, b1, b2]
            refine callQ_p (refMayKey_ok x.k args) (by simp [encKeyT]) ?_
            cases hk : mayKey x.k args
            · simp -implicitDefEqProofs [oneInst, isReg, hk, o, a1, a2, x1, b1, b2]
            · simp -implicitDefEqProofs [encInst, o, a1, a2, x1, b1, b2]
              refine callQ_p (refMayKey_ok x.l args) (by simp [encKeyT]) ?_
              simp -implicitDefEqProofs [oneInst, isReg, hk, o, a1, a2, x1, b1, b2]
          · simp -implicitDefEqProofs [oneInst, isReg, o, a1, a2, x1, b1, b2]
        · simp -implicitDefEqProofs [oneInst, isReg, o, a1, a2, x1, b1]
      · simp -implicitDefEqProofs [oneInst, isReg, o, a1, a2, x1]
set_option maxRecDepth 20000 in
set_option maxHeartbeats 4000000 in
theorem refOne5 (x : Inst) (args : Int) (o : x.op = 5) : Run Tryz.prog false [.c c65] (retQ [.t 4] fun r' _ => wk r' = .bool (oneInst x args)) (slots0 [.agg (encInst x), .int .i64 args]) H.nil := by
  simp -implicitDefEqProofs [encInst, o]
  by_cases a1 : x.a < 0
  · simp -implicitDefEqProofs [oneInst, isReg, keyNone, o, a1]
  · simp -implicitDefEqProofs [encInst, o, a1]
    by_cases a2 : 3 < x.a
    · simp -implicitDefEqProofs [oneInst, isReg, keyNone, o, a1, a2]
    · simp -implicitDefEqProofs [encInst, o, a1, a2]
      by_cases b1 : x.b = 0
      · simp -implicitDefEqProofs [encInst, o, a1, a2, b1]
        by_cases b2 : x.c = 0
        · simp -implicitDefEqProofs [encInst, o, a1, a2, b1, b2]
          by_cases k1 : x.k.arg = 0
          · simp -implicitDefEqProofs [k1]
            by_cases k2 : x.k.base = 0
            · simp -implicitDefEqProofs [encInst, o, a1, a2, b1, b2, k1, k2]
              by_cases l1 : x.l.arg = 0
              · simp -implicitDefEqProofs [l1]
                by_cases l2 : x.l.base = 0
                · simp -implicitDefEqProofs [oneInst, isReg, keyNone, o, a1, a2, b1, b2, k1, k2, l1, l2]
                · simp -implicitDefEqProofs [oneInst, isReg, keyNone, o, a1, a2, b1, b2, k1, k2, l1, l2]
              · simp -implicitDefEqProofs [oneInst, isReg, keyNone, o, a1, a2, b1, b2, k1, k2, l1]
            · simp -implicitDefEqProofs [oneInst, isReg, keyNone, o, a1, a2, b1, b2, k1, k2]
          · simp -implicitDefEqProofs [oneInst, isReg, keyNone, o, a1, a2, b1, b2, k1]
        · simp -implicitDefEqProofs [oneInst, isReg, keyNone, o, a1, a2, b1, b2]
      · simp -implicitDefEqProofs [oneInst, isReg, keyNone, o, a1, a2, b1]
set_option maxRecDepth 20000 in
set_option maxHeartbeats 4000000 in
theorem refOne6 (x : Inst) (args : Int) (o : x.op = 6) : Run Tryz.prog false [.c c65] (retQ [.t 4] fun r' _ => wk r' = .bool (oneInst x args)) (slots0 [.agg (encInst x), .int .i64 args]) H.nil := by
  simp -implicitDefEqProofs [encInst, o]
  by_cases a1 : x.a < 0
  · simp -implicitDefEqProofs [oneInst, isReg, keyNone, o, a1]
  · simp -implicitDefEqProofs [encInst, o, a1]
    by_cases a2 : 3 < x.a
    · simp -implicitDefEqProofs [oneInst, isReg, keyNone, o, a1, a2]
    · simp -implicitDefEqProofs [encInst, o, a1, a2]
      by_cases x1 : x.x = 0
      · simp -implicitDefEqProofs [encInst, o, a1, a2, x1]
        by_cases k1 : x.k.arg = 0
        · simp -implicitDefEqProofs [k1]
          by_cases k2 : x.k.base = 0
          · simp -implicitDefEqProofs [encInst, o, a1, a2, x1, k1, k2]
            by_cases l1 : x.l.arg = 0
            · simp -implicitDefEqProofs [l1]
              by_cases l2 : x.l.base = 0
              · simp -implicitDefEqProofs [encInst, o, a1, a2, x1, k1, k2, l1, l2]
                by_cases r1 : x.b < 0
                · simp -implicitDefEqProofs [oneInst, isReg, keyNone, o, a1, a2, x1, k1, k2, l1, l2, r1]
                · simp -implicitDefEqProofs [encInst, o, a1, a2, x1, k1, k2, l1, l2, r1]
                  by_cases r2 : 3 < x.b
                  · simp -implicitDefEqProofs [oneInst, isReg, keyNone, o, a1, a2, x1, k1, k2, l1, l2, r1, r2]
                  · simp -implicitDefEqProofs [encInst, o, a1, a2, x1, k1, k2, l1, l2, r1, r2]
                    by_cases r3 : x.c < 0
                    · simp -implicitDefEqProofs [oneInst, isReg, keyNone, o, a1, a2, x1, k1, k2, l1, l2, r1, r2, r3]
                    · simp -implicitDefEqProofs [encInst, o, a1, a2, x1, k1, k2, l1, l2, r1, r2, r3]
                      by_cases r4 : 3 < x.c
                      · simp -implicitDefEqProofs [oneInst, isReg, keyNone, o, a1, a2, x1, k1, k2, l1, l2, r1, r2, r3, r4]
                      · simp -implicitDefEqProofs [oneInst, isReg, keyNone, o, a1, a2, x1, k1, k2, l1, l2, r1, r2, r3, r4]
              · simp -implicitDefEqProofs [oneInst, isReg, keyNone, o, a1, a2, x1, k1, k2, l1, l2]
            · simp -implicitDefEqProofs [oneInst, isReg, keyNone, o, a1, a2, x1, k1, k2, l1]
          · simp -implicitDefEqProofs [oneInst, isReg, keyNone, o, a1, a2, x1, k1, k2]
        · simp -implicitDefEqProofs [oneInst, isReg, keyNone, o, a1, a2, x1, k1]
      · simp -implicitDefEqProofs [oneInst, isReg, keyNone, o, a1, a2, x1]
set_option maxRecDepth 20000 in
set_option maxHeartbeats 4000000 in
theorem refOne7 (x : Inst) (args : Int) (o : x.op = 7) : Run Tryz.prog false [.c c65] (retQ [.t 4] fun r' _ => wk r' = .bool (oneInst x args)) (slots0 [.agg (encInst x), .int .i64 args]) H.nil := by
  simp -implicitDefEqProofs [encInst, o]
  by_cases a1 : x.a < 0
  · simp -implicitDefEqProofs [oneInst, isReg, keyNone, o, a1]
  · simp -implicitDefEqProofs [encInst, o, a1]
    by_cases a2 : 3 < x.a
    · simp -implicitDefEqProofs [oneInst, isReg, keyNone, o, a1, a2]
    · simp -implicitDefEqProofs [encInst, o, a1, a2]
      by_cases x1 : x.x = 0
      · simp -implicitDefEqProofs [encInst, o, a1, a2, x1]
        by_cases k1 : x.k.arg = 0
        · simp -implicitDefEqProofs [k1]
          by_cases k2 : x.k.base = 0
          · simp -implicitDefEqProofs [encInst, o, a1, a2, x1, k1, k2]
            by_cases l1 : x.l.arg = 0
            · simp -implicitDefEqProofs [l1]
              by_cases l2 : x.l.base = 0
              · simp -implicitDefEqProofs [encInst, o, a1, a2, x1, k1, k2, l1, l2]
                by_cases r1 : x.b < 0
                · simp -implicitDefEqProofs [oneInst, isReg, keyNone, o, a1, a2, x1, k1, k2, l1, l2, r1]
                · simp -implicitDefEqProofs [encInst, o, a1, a2, x1, k1, k2, l1, l2, r1]
                  by_cases r2 : 3 < x.b
                  · simp -implicitDefEqProofs [oneInst, isReg, keyNone, o, a1, a2, x1, k1, k2, l1, l2, r1, r2]
                  · simp -implicitDefEqProofs [encInst, o, a1, a2, x1, k1, k2, l1, l2, r1, r2]
                    by_cases r3 : x.c < 0
                    · simp -implicitDefEqProofs [oneInst, isReg, keyNone, o, a1, a2, x1, k1, k2, l1, l2, r1, r2, r3]
                    · simp -implicitDefEqProofs [encInst, o, a1, a2, x1, k1, k2, l1, l2, r1, r2, r3]
                      by_cases r4 : 3 < x.c
                      · simp -implicitDefEqProofs [oneInst, isReg, keyNone, o, a1, a2, x1, k1, k2, l1, l2, r1, r2, r3, r4]
                      · simp -implicitDefEqProofs [oneInst, isReg, keyNone, o, a1, a2, x1, k1, k2, l1, l2, r1, r2, r3, r4]
              · simp -implicitDefEqProofs [oneInst, isReg, keyNone, o, a1, a2, x1, k1, k2, l1, l2]
            · simp -implicitDefEqProofs [oneInst, isReg, keyNone, o, a1, a2, x1, k1, k2, l1]
          · simp -implicitDefEqProofs [oneInst, isReg, keyNone, o, a1, a2, x1, k1, k2]
        · simp -implicitDefEqProofs [oneInst, isReg, keyNone, o, a1, a2, x1, k1]
      · simp -implicitDefEqProofs [oneInst, isReg, keyNone, o, a1, a2, x1]
set_option maxRecDepth 20000 in
set_option maxHeartbeats 4000000 in
theorem refOne8 (x : Inst) (args : Int) (o : x.op = 8) : Run Tryz.prog false [.c c65] (retQ [.t 4] fun r' _ => wk r' = .bool (oneInst x args)) (slots0 [.agg (encInst x), .int .i64 args]) H.nil := by
  simp -implicitDefEqProofs [encInst, o]
  by_cases a1 : x.a < 0
  · simp -implicitDefEqProofs [oneInst, isReg, keyNone, o, a1]
  · simp -implicitDefEqProofs [encInst, o, a1]
    by_cases a2 : 3 < x.a
    · simp -implicitDefEqProofs [oneInst, isReg, keyNone, o, a1, a2]
    · simp -implicitDefEqProofs [encInst, o, a1, a2]
      by_cases b1 : x.b = 0
      · simp -implicitDefEqProofs [encInst, o, a1, a2, b1]
        by_cases b2 : x.c = 0
        · simp -implicitDefEqProofs [encInst, o, a1, a2, b1, b2]
          by_cases k1 : x.k.arg = 0
          · simp -implicitDefEqProofs [k1]
            by_cases k2 : x.k.base = 0
            · simp -implicitDefEqProofs [encInst, o, a1, a2, b1, b2, k1, k2]
              by_cases l1 : x.l.arg = 0
              · simp -implicitDefEqProofs [l1]
                by_cases l2 : x.l.base = 0
                · simp -implicitDefEqProofs [oneInst, isReg, keyNone, o, a1, a2, b1, b2, k1, k2, l1, l2]
                · simp -implicitDefEqProofs [oneInst, isReg, keyNone, o, a1, a2, b1, b2, k1, k2, l1, l2]
              · simp -implicitDefEqProofs [oneInst, isReg, keyNone, o, a1, a2, b1, b2, k1, k2, l1]
            · simp -implicitDefEqProofs [oneInst, isReg, keyNone, o, a1, a2, b1, b2, k1, k2]
          · simp -implicitDefEqProofs [oneInst, isReg, keyNone, o, a1, a2, b1, b2, k1]
        · simp -implicitDefEqProofs [oneInst, isReg, keyNone, o, a1, a2, b1, b2]
      · simp -implicitDefEqProofs [oneInst, isReg, keyNone, o, a1, a2, b1]

theorem refOne_ok (x : Inst) (args : Int) : PCall Tryz.prog 65 [.agg (encInst x), .int .i64 args] (.bool (oneInst x args)) := by
  refine PCall.run hb65 ok65 (by simp) (pures_cons (pureInst x) (pures1 (.int _ _))) (.bool _) ?_
  by_cases o1 : x.op = 1
  · exact refOne1 x args o1
  by_cases o2 : x.op = 2
  · exact refOne2 x args o2
  by_cases o3 : x.op = 3
  · exact refOne3 x args o3
  by_cases o4 : x.op = 4
  · exact refOne4 x args o4
  by_cases o5 : x.op = 5
  · exact refOne5 x args o5
  by_cases o6 : x.op = 6
  · exact refOne6 x args o6
  by_cases o7 : x.op = 7
  · exact refOne7 x args o7
  by_cases o8 : x.op = 8
  · exact refOne8 x args o8
  have hf : oneInst x args = false := by simp [oneInst, o1, o2, o3, o4, o5, o6, o7, o8]
  by_cases u1 : x.op < 1
  · simp -implicitDefEqProofs [encInst, u1, hf]
  · have u2 : 8 < x.op := by omega
    simp -implicitDefEqProofs [encInst, u1, u2, hf]
end Go.Proofs
