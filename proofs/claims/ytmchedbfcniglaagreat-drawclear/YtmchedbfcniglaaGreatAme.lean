/- Part 5 of the proof that 'DrawClear' holds. Conditions: as each part says. -/
import Derived.Shelf.SlSortCmp.NoneTotal
import Derived.Test.YtmchedbfcniglaaGreatAmb
import Derived.Test.YtmchedbfcniglaaGreatAmd
set_option linter.unusedSimpArgs false
set_option linter.unusedVariables false
set_option linter.unusedSectionVars false
set_option linter.unnecessarySimpa false
section
/- Points in a list, two graphs alike, one's own copy. Conditions: lists shorter than 2^43. -/
namespace Go.AM.Zd
set_option maxHeartbeats 8000000
variable {F : Tr AFunc} {orc : Orc}
theorem Index_spec (B : TB F orc) (p : Pt) (L : List Pt) (ps : AV) (h : AH) (ok : h.ok) (s : SlAt h 2 ps (L.map pr)) (hL : L.length ≤ 70368744177664) :
    WF F orc 45 [ps, .agg (pr p)] h (fun v h' => (∃ r : Int, v = .i .i64 r ∧ decide (0 ≤ r) = decide (p ∈ L)) ∧ Ext h h') := by
  refine WF.enter B.o45 B.f45 rfl ?_
  have hl := s.len
  rw [List.length_map] at hl
  have fl : AV.flat ps = [ps] := s.flat
  simp (maxSteps := 1000000) (disch := first | decide | assumption | omega | (simp only [AH.add_n, AH.put_n, AH.mark_n, zcq, AH.back_n] <;> omega) | (repeat (first | assumption | exact zca.eq_1 _ | (refine zfc ?_ ?_; (first | omega | (simp only [AH.add_n, AH.put_n, AH.mark_n, zcq, AH.back_n] <;> omega))) | refine AH.ok.add ?_ _ | refine AH.ok.mark ?_ | (refine AH.ok_put1 ?_ ?_; (first | omega | (simp only [AH.add_n, AH.put_n, AH.mark_n, zcq, AH.back_n] <;> omega))) | refine AH.has_put ?_ _ _ | refine AH.has_mark ?_ | (refine AH.has_new1 ?_ ?_; (first | omega | (simp only [AH.add_n, AH.put_n, AH.mark_n, zcq, AH.back_n] <;> omega))) | refine AH.has_add ?_ _ ?_ | (apply AH.has_of; assumption)))) only [qdv, zdx, zbm, zcg, zdz, zaf, qbx, zfa, qez, zeo, qeh, zey, qfb, qav, qco, zdn, qdf, zbp, zbd, List.length_cons, List.length_nil, qer, Nat.zero_add, true_and, g45, hl, pr]
  refine WC.up L.length (fun i t hh => tget t s003 = .ptr h.n 0 ∧ tget t s000 = ps ∧ tget t s007 = .i .i64 L.length ∧ tget t s010 = .i .i64 i ∧ Ext h hh ∧ hh.get h.n = some (.cells true [.i .i64 p.1, .i .i64 p.2]) ∧ p ∉ L.take i) ?_ 0 _ _ (Nat.zero_le _) ?_
  · intro i t hh hi ⟨t3, t0, t7, t10, e, g, hs⟩
    have ok' := e.ok ok
    have s' := s.ext ok e
    have ln := ok'.lt g
    by_cases hlt : i < L.length
    · have hlt' : (i : Int) < (L.length : Int) := by omega
      obtain ⟨id, off, p1, p2, p3, p4, lt⟩ := s'.pair ok' hlt
      by_cases c : p.1 = L[i].1 ∧ p.2 = L[i].2
      · simp (maxSteps := 1000000) (disch := first | decide | assumption | omega | (simp only [AH.add_n, AH.put_n, AH.mark_n, zcq, AH.back_n] <;> omega) | (repeat (first | assumption | exact zca.eq_1 _ | (refine zfc ?_ ?_; (first | omega | (simp only [AH.add_n, AH.put_n, AH.mark_n, zcq, AH.back_n] <;> omega))) | refine AH.ok.add ?_ _ | refine AH.ok.mark ?_ | (refine AH.ok_put1 ?_ ?_; (first | omega | (simp only [AH.add_n, AH.put_n, AH.mark_n, zcq, AH.back_n] <;> omega))) | refine AH.has_put ?_ _ _ | refine AH.has_mark ?_ | (refine AH.has_new1 ?_ ?_; (first | omega | (simp only [AH.add_n, AH.put_n, AH.mark_n, zcq, AH.back_n] <;> omega))) | refine AH.has_add ?_ _ ?_ | (apply AH.has_of; assumption)))) only [qdb, qdv, zdx, zcp, zdl, qcs, zbm, zcg, zdz, qch, zef, zaw, qah, zaf, qbh, qaj, qcf, qbx, zfa, qey, qdm, zde, zdc, qds, qdo, qbp, Bool.or_true, Bool.or_false, cond_false, qez, zcy, zer, zeh, qfa, qee, zey, qav, qco, qdf, zbd, qaq, qac, zdg, zal, zag, qag, AH.mark_get, AH.get_loose, qal, qab, List.append_nil, Option.bind_some, Option.map_some, zes, zdi, decide_true, Bool.not_true, qec, qbe, qdd, qei, AH.mark_mark, AH.mark_n, t0, t3, t7, t10, g, hlt', p1, p2, eq_true c]
        refine ⟨⟨(i : Int), rfl, ?_⟩, e.mark⟩
        have : p = L[i] := Prod.ext c.1 c.2
        have hm : p ∈ L := this ▸ List.getElem_mem hlt
        simp [hm]
      · simp (maxSteps := 1000000) (disch := first | decide | assumption | omega | (simp only [AH.add_n, AH.put_n, AH.mark_n, zcq, AH.back_n] <;> omega) | (repeat (first | assumption | exact zca.eq_1 _ | (refine zfc ?_ ?_; (first | omega | (simp only [AH.add_n, AH.put_n, AH.mark_n, zcq, AH.back_n] <;> omega))) | refine AH.ok.add ?_ _ | refine AH.ok.mark ?_ | (refine AH.ok_put1 ?_ ?_; (first | omega | (simp only [AH.add_n, AH.put_n, AH.mark_n, zcq, AH.back_n] <;> omega))) | refine AH.has_put ?_ _ _ | refine AH.has_mark ?_ | (refine AH.has_new1 ?_ ?_; (first | omega | (simp only [AH.add_n, AH.put_n, AH.mark_n, zcq, AH.back_n] <;> omega))) | refine AH.has_add ?_ _ ?_ | (apply AH.has_of; assumption)))) only [qdb, qdv, zdx, zcp, qcs, zbm, zcg, zdz, qch, zef, zaw, qah, zaf, qaa, qak, qau, qbx, zfa, qey, qdm, zde, zdc, qds, qdo, qbp, Bool.or_true, Bool.or_false, cond_false, qez, zcy, zcj, zer, zeh, qfa, qee, zey, qfb, qav, qco, qdf, zbd, qaq, qac, zdg, zal, zag, qag, AH.mark_get, AH.get_loose, qal, qab, List.append_nil, Option.bind_some, Option.map_some, qeq, zes, zdi, decide_true, decide_false, Bool.not_false, qby, AH.mark_mark, true_and, AH.mark_n, t0, t3, t7, t10, g, hlt, hlt', p1, p2, c]
        refine ⟨e.mark, ?_⟩
        rw [← List.take_append_getElem hlt]
        intro hm
        rcases List.mem_append.mp hm with hm | hm
        · exact hs hm
        · have : p = L[i] := by simpa using hm
          exact c ⟨by rw [this], by rw [this]⟩
    · have hlt' : ¬ (i : Int) < (L.length : Int) := by omega
      have hie : i = L.length := by omega
      rw [hie, List.take_length] at hs
      simp (maxSteps := 1000000) (disch := first | decide | assumption | omega | (simp only [AH.add_n, AH.put_n, AH.mark_n, zcq, AH.back_n] <;> omega) | (repeat (first | assumption | exact zca.eq_1 _ | (refine zfc ?_ ?_; (first | omega | (simp only [AH.add_n, AH.put_n, AH.mark_n, zcq, AH.back_n] <;> omega))) | refine AH.ok.add ?_ _ | refine AH.ok.mark ?_ | (refine AH.ok_put1 ?_ ?_; (first | omega | (simp only [AH.add_n, AH.put_n, AH.mark_n, zcq, AH.back_n] <;> omega))) | refine AH.has_put ?_ _ _ | refine AH.has_mark ?_ | (refine AH.has_new1 ?_ ?_; (first | omega | (simp only [AH.add_n, AH.put_n, AH.mark_n, zcq, AH.back_n] <;> omega))) | refine AH.has_add ?_ _ ?_ | (apply AH.has_of; assumption)))) only [qdb, qdv, zdx, zdl, zcl, zcg, zdz, zaf, zat, zad, qbz, qbx, zfa, qez, zcj, zeh, zey, qfb, qav, qdf, zbd, Option.map_some, zes, decide_false, qec, qbe, qdd, qei, t7, t10, hlt']
      exact ⟨⟨-1, rfl, by simp [hs]⟩, e⟩
  · simp (maxSteps := 1000000) (disch := first | decide | assumption | omega | (simp only [AH.add_n, AH.put_n, AH.mark_n, zcq, AH.back_n] <;> omega) | (repeat (first | assumption | exact zca.eq_1 _ | (refine zfc ?_ ?_; (first | omega | (simp only [AH.add_n, AH.put_n, AH.mark_n, zcq, AH.back_n] <;> omega))) | refine AH.ok.add ?_ _ | refine AH.ok.mark ?_ | (refine AH.ok_put1 ?_ ?_; (first | omega | (simp only [AH.add_n, AH.put_n, AH.mark_n, zcq, AH.back_n] <;> omega))) | refine AH.has_put ?_ _ _ | refine AH.has_mark ?_ | (refine AH.has_new1 ?_ ?_; (first | omega | (simp only [AH.add_n, AH.put_n, AH.mark_n, zcq, AH.back_n] <;> omega))) | refine AH.has_add ?_ _ ?_ | (apply AH.has_of; assumption)))) only [Int.natCast_zero, qav, qco, AH.get_new, true_and]
    exact ⟨(Ext.refl h).add _, by simp⟩
theorem Contains_spec (B : TB F orc) (p : Pt) (L : List Pt) (ps : AV) (h : AH) (ok : h.ok) (s : SlAt h 2 ps (L.map pr)) (hL : L.length ≤ 70368744177664) :
    WF F orc 30 [ps, .agg (pr p)] h (fun v h' => v = .b (decide (p ∈ L)) ∧ Ext h h') := by
  refine WF.enter B.o30 B.f30 rfl ?_
  have fl : AV.flat ps = [ps] := s.flat
  simp (maxSteps := 1000000) (disch := first | decide | assumption | omega | (simp only [AH.add_n, AH.put_n, AH.mark_n, zcq, AH.back_n] <;> omega) | (repeat (first | assumption | exact zca.eq_1 _ | (refine zfc ?_ ?_; (first | omega | (simp only [AH.add_n, AH.put_n, AH.mark_n, zcq, AH.back_n] <;> omega))) | refine AH.ok.add ?_ _ | refine AH.ok.mark ?_ | (refine AH.ok_put1 ?_ ?_; (first | omega | (simp only [AH.add_n, AH.put_n, AH.mark_n, zcq, AH.back_n] <;> omega))) | refine AH.has_put ?_ _ _ | refine AH.has_mark ?_ | (refine AH.has_new1 ?_ ?_; (first | omega | (simp only [AH.add_n, AH.put_n, AH.mark_n, zcq, AH.back_n] <;> omega))) | refine AH.has_add ?_ _ ?_ | (apply AH.has_of; assumption)))) only [qdv, zdx, zcg, zdz, zaf, qbx, zfa, qez, zeo, zer, zey, qfb, qcg, zbi, qav, qco, zdn, qdf, zbp, zbd, qaq, qac, zdg, zal, zag, qag, AH.get_new, List.length_cons, List.length_nil, Option.bind_some, Option.map_some, qer, Nat.zero_add, zbn, true_and, g30, pr]
  refine (Index_spec B p L ps _ (ok.add _) (s.ext ok ((Ext.refl h).add _)) hL).mono ?_
  rintro v h' ⟨⟨r, rfl, hr⟩, e⟩
  simp (maxSteps := 1000000) (disch := first | decide | assumption | omega | (simp only [AH.add_n, AH.put_n, AH.mark_n, zcq, AH.back_n] <;> omega) | (repeat (first | assumption | exact zca.eq_1 _ | (refine zfc ?_ ?_; (first | omega | (simp only [AH.add_n, AH.put_n, AH.mark_n, zcq, AH.back_n] <;> omega))) | refine AH.ok.add ?_ _ | refine AH.ok.mark ?_ | (refine AH.ok_put1 ?_ ?_; (first | omega | (simp only [AH.add_n, AH.put_n, AH.mark_n, zcq, AH.back_n] <;> omega))) | refine AH.has_put ?_ _ _ | refine AH.has_mark ?_ | (refine AH.has_new1 ?_ ?_; (first | omega | (simp only [AH.add_n, AH.put_n, AH.mark_n, zcq, AH.back_n] <;> omega))) | refine AH.has_add ?_ _ ?_ | (apply AH.has_of; assumption)))) only [zdl, zcg, zdz, zaf, qbx, zfa, qez, zeh, zey, qfb, qav, qdf, zbd, Option.map_some, qet, qec, qbe, qdd, qei, true_and, hr]
  exact ((Ext.refl h).add _).trans e
theorem Same_spec (B : TB F orc) (N : Int) (E : List (Int × Int)) (es fs : AV) (h : AH) (ok : h.ok) (s1 : SlAt h 2 es (E.map pr)) (s2 : SlAt h 2 fs (E.map pr)) (hE : E.length ≤ 70368744177664) :
    WF F orc 23 [.agg [.i .i64 N, es], .agg [.i .i64 N, fs]] h (fun v h' => v = .b true ∧ Ext h h') := by
  refine WF.enter B.o23 B.f23 rfl ?_
  have hl1 := s1.len
  rw [List.length_map] at hl1
  have hl2 := s2.len
  rw [List.length_map] at hl2
  have fl1 : AV.flat es = [es] := s1.flat
  have fl2 : AV.flat fs = [fs] := s2.flat
  have ex : ∀ x y, Ext h ((h.add x).add y) := fun x y => ((Ext.refl h).add _).add _
  have q1 : (N = N) = True := eq_true rfl
  have q2 : ((E.length : Int) = (E.length : Int)) = True := eq_true rfl
  simp (maxSteps := 1000000) (disch := first | decide | assumption | omega | (simp only [AH.add_n, AH.put_n, AH.mark_n, zcq, AH.back_n] <;> omega) | (repeat (first | assumption | exact zca.eq_1 _ | (refine zfc ?_ ?_; (first | omega | (simp only [AH.add_n, AH.put_n, AH.mark_n, zcq, AH.back_n] <;> omega))) | refine AH.ok.add ?_ _ | refine AH.ok.mark ?_ | (refine AH.ok_put1 ?_ ?_; (first | omega | (simp only [AH.add_n, AH.put_n, AH.mark_n, zcq, AH.back_n] <;> omega))) | refine AH.has_put ?_ _ _ | refine AH.has_mark ?_ | (refine AH.has_new1 ?_ ?_; (first | omega | (simp only [AH.add_n, AH.put_n, AH.mark_n, zcq, AH.back_n] <;> omega))) | refine AH.has_add ?_ _ ?_ | (apply AH.has_of; assumption)))) only [qdb, qdv, zdx, qcs, zbm, zcg, zdz, zbt, qaw, zaf, qbx, zfa, cond_true, qez, qea, zcj, zeo, zez, qfa, qdj, zbg, qeh, zey, qfb, qav, qco, zdn, qdf, zbp, zbd, qcb, qaq, qac, zdg, zal, zan, zag, qag, AH.get_new, AH.get_add_old, List.length_cons, List.length_nil, Option.bind_some, Option.map_some, qeo, decide_true, Bool.not_true, qer, Nat.zero_add, Nat.add_zero, true_and, AH.add_n, g23, hl1, hl2]
  refine WC.up E.length (fun i t hh => tget t s002 = .ptr h.n 0 ∧ tget t s003 = .ptr (h.n + 1) 0 ∧ tget t s005 = .i .i64 i ∧ Ext h hh ∧ hh.get h.n = some (.cells true [.i .i64 N, es]) ∧ hh.get (h.n + 1) = some (.cells true [.i .i64 N, fs])) ?_ 0 _ _ (Nat.zero_le _) ?_
  · intro i t hh hi ⟨t2, t3, t5, e, g1, g2⟩
    have ok' := e.ok ok
    have s1' := s1.ext ok e
    have s2' := s2.ext ok e
    have ln := ok'.lt g2
    by_cases hlt : i < E.length
    · have hlt' : (i : Int) < (E.length : Int) := by omega
      obtain ⟨id, off, p1, p2, p3, p4, lt⟩ := s1'.pair ok' hlt
      obtain ⟨id', off', p1', p2', p3', p4', lt'⟩ := s2'.pair ok' hlt
      have c : (E[i].1 = E[i].1 ∧ E[i].2 = E[i].2) = True := eq_true ⟨rfl, rfl⟩
      simp (maxSteps := 1000000) (disch := first | decide | assumption | omega | (simp only [AH.add_n, AH.put_n, AH.mark_n, zcq, AH.back_n] <;> omega) | (repeat (first | assumption | exact zca.eq_1 _ | (refine zfc ?_ ?_; (first | omega | (simp only [AH.add_n, AH.put_n, AH.mark_n, zcq, AH.back_n] <;> omega))) | refine AH.ok.add ?_ _ | refine AH.ok.mark ?_ | (refine AH.ok_put1 ?_ ?_; (first | omega | (simp only [AH.add_n, AH.put_n, AH.mark_n, zcq, AH.back_n] <;> omega))) | refine AH.has_put ?_ _ _ | refine AH.has_mark ?_ | (refine AH.has_new1 ?_ ?_; (first | omega | (simp only [AH.add_n, AH.put_n, AH.mark_n, zcq, AH.back_n] <;> omega))) | refine AH.has_add ?_ _ ?_ | (apply AH.has_of; assumption)))) only [qdb, qdv, zdx, zcp, qcs, zbm, zcg, zdz, qch, zef, zaw, qah, zaf, qaa, qak, qau, qbx, zfa, qey, qdm, zea, zdr, zet, zde, zdc, qds, qdo, zbq, qbp, Bool.or_true, Bool.or_false, cond_true, cond_false, qez, zcy, zcj, zez, zer, zeh, qfa, qdj, zbg, qee, qeh, zey, qfb, qav, qco, qdf, zbd, qcb, qaq, qac, zdg, zal, zan, zag, qag, AH.mark_get, AH.get_loose, qal, zap, qab, List.nil_append, List.cons_append, List.append_nil, Option.bind_some, Option.map_some, qeq, zes, zdi, decide_true, Bool.not_true, qby, Nat.zero_add, AH.mark_mark, and_true, true_and, AH.mark_n, t2, t3, t5, g1, g2, hl1, hlt, hlt', p1, p2, p1', p2']
      exact e.mark
    · have hlt' : ¬ (i : Int) < (E.length : Int) := by omega
      simp (maxSteps := 1000000) (disch := first | decide | assumption | omega | (simp only [AH.add_n, AH.put_n, AH.mark_n, zcq, AH.back_n] <;> omega) | (repeat (first | assumption | exact zca.eq_1 _ | (refine zfc ?_ ?_; (first | omega | (simp only [AH.add_n, AH.put_n, AH.mark_n, zcq, AH.back_n] <;> omega))) | refine AH.ok.add ?_ _ | refine AH.ok.mark ?_ | (refine AH.ok_put1 ?_ ?_; (first | omega | (simp only [AH.add_n, AH.put_n, AH.mark_n, zcq, AH.back_n] <;> omega))) | refine AH.has_put ?_ _ _ | refine AH.has_mark ?_ | (refine AH.has_new1 ?_ ?_; (first | omega | (simp only [AH.add_n, AH.put_n, AH.mark_n, zcq, AH.back_n] <;> omega))) | refine AH.has_add ?_ _ ?_ | (apply AH.has_of; assumption)))) only [qdb, qdv, zdx, zdl, zcl, zcg, zdz, zaf, zat, zad, qbz, qbx, zfa, qez, zcj, zez, zeh, qdj, zbg, qeh, zey, qfb, qav, qco, qdf, zbd, qcb, qaq, qac, zdg, zal, zan, zag, qag, Option.bind_some, Option.map_some, zes, decide_false, qec, qbe, qdd, qei, Nat.zero_add, true_and, t2, t5, g1, hl1, hlt']
      exact e
  · simp (maxSteps := 1000000) (disch := first | decide | assumption | omega | (simp only [AH.add_n, AH.put_n, AH.mark_n, zcq, AH.back_n] <;> omega) | (repeat (first | assumption | exact zca.eq_1 _ | (refine zfc ?_ ?_; (first | omega | (simp only [AH.add_n, AH.put_n, AH.mark_n, zcq, AH.back_n] <;> omega))) | refine AH.ok.add ?_ _ | refine AH.ok.mark ?_ | (refine AH.ok_put1 ?_ ?_; (first | omega | (simp only [AH.add_n, AH.put_n, AH.mark_n, zcq, AH.back_n] <;> omega))) | refine AH.has_put ?_ _ _ | refine AH.has_mark ?_ | (refine AH.has_new1 ?_ ?_; (first | omega | (simp only [AH.add_n, AH.put_n, AH.mark_n, zcq, AH.back_n] <;> omega))) | refine AH.has_add ?_ _ ?_ | (apply AH.has_of; assumption)))) only [Int.natCast_zero, qav, qco, AH.get_new, AH.get_add_old, and_true, true_and]
    exact ex _ _
theorem kept_spec (B : TB F orc) (N : Int) (E : List (Int × Int)) (es fs : AV) (h : AH) (ok : h.ok) (s1 : SlAt h 2 es (E.map pr)) (s2 : SlAt h 2 fs (E.map pr)) (hE : E.length ≤ 70368744177664) :
    WF F orc 9 [.agg [.i .i64 N, es], .agg [.i .i64 N, fs]] h (fun v h' => v = .b true ∧ Ext h h') := by
  refine WF.enter B.o9 B.f9 rfl ?_
  have fl1 : AV.flat es = [es] := s1.flat
  have fl2 : AV.flat fs = [fs] := s2.flat
  have ex : ∀ x y, Ext h ((h.add x).add y) := fun x y => ((Ext.refl h).add _).add _
  simp (maxSteps := 1000000) (disch := first | decide | assumption | omega | (simp only [AH.add_n, AH.put_n, AH.mark_n, zcq, AH.back_n] <;> omega) | (repeat (first | assumption | exact zca.eq_1 _ | (refine zfc ?_ ?_; (first | omega | (simp only [AH.add_n, AH.put_n, AH.mark_n, zcq, AH.back_n] <;> omega))) | refine AH.ok.add ?_ _ | refine AH.ok.mark ?_ | (refine AH.ok_put1 ?_ ?_; (first | omega | (simp only [AH.add_n, AH.put_n, AH.mark_n, zcq, AH.back_n] <;> omega))) | refine AH.has_put ?_ _ _ | refine AH.has_mark ?_ | (refine AH.has_new1 ?_ ?_; (first | omega | (simp only [AH.add_n, AH.put_n, AH.mark_n, zcq, AH.back_n] <;> omega))) | refine AH.has_add ?_ _ ?_ | (apply AH.has_of; assumption)))) only [qdv, zdx, zcg, zdz, zaf, qbx, zfa, qez, zeo, zer, zey, qfb, qcg, zbi, qav, qco, zdn, qdf, zbp, zbd, qaq, qac, zdg, zal, zag, qag, AH.get_new, AH.get_add_old, List.length_cons, List.length_nil, Option.bind_some, Option.map_some, qer, Nat.zero_add, zbn, true_and, AH.add_n, g9]
  refine WF.val (Same_spec B N E es fs _ ((ex _ _).ok ok) (s1.ext ok (ex _ _)) (s2.ext ok (ex _ _)) hE) fun H eH => ?_
  simp (maxSteps := 1000000) (disch := first | decide | assumption | omega | (simp only [AH.add_n, AH.put_n, AH.mark_n, zcq, AH.back_n] <;> omega) | (repeat (first | assumption | exact zca.eq_1 _ | (refine zfc ?_ ?_; (first | omega | (simp only [AH.add_n, AH.put_n, AH.mark_n, zcq, AH.back_n] <;> omega))) | refine AH.ok.add ?_ _ | refine AH.ok.mark ?_ | (refine AH.ok_put1 ?_ ?_; (first | omega | (simp only [AH.add_n, AH.put_n, AH.mark_n, zcq, AH.back_n] <;> omega))) | refine AH.has_put ?_ _ _ | refine AH.has_mark ?_ | (refine AH.has_new1 ?_ ?_; (first | omega | (simp only [AH.add_n, AH.put_n, AH.mark_n, zcq, AH.back_n] <;> omega))) | refine AH.has_add ?_ _ ?_ | (apply AH.has_of; assumption)))) only [zdl, zcg, zdz, zaf, qbx, zfa, qez, zey, qav, qdf, zbd, Option.map_some, qec, qbe, qdd, qei, true_and]
  exact (ex _ _).trans eH
theorem Own_spec (B : TB F orc) (N : Int) (E : List (Int × Int)) (es : AV) (h : AH) (ok : h.ok) (s : SlAt h 2 es (E.map pr)) (hE : E.length ≤ 8796093022208) :
    WF F orc 5 [.agg [.i .i64 N, es]] h (fun v h' => (∃ es', v = .agg [.i .i64 N, es'] ∧ OwnAt h.n h' 2 es' (E.map pr)) ∧ Ext h h') := by
  refine WF.enter B.o5 B.f5 rfl ?_
  have fl : AV.flat es = [es] := s.flat
  have ex : ∀ x y, Ext h ((h.add x).add y).mark := fun x y => (((Ext.refl h).add _).add _).mark
  have sl : ∀ x y, SlAt (((h.add x).add y).mark.loose []) 2 es (E.map pr) := fun x y => (s.ext ok (ex x y)).loose fun _ _ _ _ _ _ => rfl
  have key : ∀ x y, (E = [] ∧ aAppend (((h.add x).add y).mark.loose []) 2 16 .nils es = some (.nils, .same)) ∨ (E ≠ [] ∧ aAppend (((h.add x).add y).mark.loose []) 2 16 .nils es = some (.sl (h.n + 1 + 1) 0 E.length none 2, .add (.cells true (E.map pr).flatten))) := fun x y => by
    have := app_nils (bytes := 16) (sl x y) (by rw [List.length_map]; omega) (by rw [List.length_map]; omega)
    simp only [List.length_map, ne_eq, List.map_eq_nil_iff] at this
    exact this
  rcases key (.cells true [.i .i64 N, es]) (.cells true [.i .i64 0, .nils]) with ⟨h0, hap⟩ | ⟨h0, hap⟩
  · simp (maxSteps := 1000000) (disch := first | decide | assumption | omega | (simp only [AH.add_n, AH.put_n, AH.mark_n, zcq, AH.back_n] <;> omega) | (repeat (first | assumption | exact zca.eq_1 _ | (refine zfc ?_ ?_; (first | omega | (simp only [AH.add_n, AH.put_n, AH.mark_n, zcq, AH.back_n] <;> omega))) | refine AH.ok.add ?_ _ | refine AH.ok.mark ?_ | (refine AH.ok_put1 ?_ ?_; (first | omega | (simp only [AH.add_n, AH.put_n, AH.mark_n, zcq, AH.back_n] <;> omega))) | refine AH.has_put ?_ _ _ | refine AH.has_mark ?_ | (refine AH.has_new1 ?_ ?_; (first | omega | (simp only [AH.add_n, AH.put_n, AH.mark_n, zcq, AH.back_n] <;> omega))) | refine AH.has_add ?_ _ ?_ | (apply AH.has_of; assumption)))) only [qdv, zdx, zcp, zdl, zcg, zdz, qch, zef, zaw, qah, zaf, qbx, zcb, zfa, qey, zbe, zea, zdr, zet, zdo, zbq, zch, zcs, zdy, zau, Bool.or_true, Bool.or_false, cond_false, zei, zeo, qcl, zez, zfb, qdj, zbg, zey, qfb, qav, qco, zdn, qdf, zej, qdi, zax, zak, zbl, if_true, qdp, zbp, qba, qaf, zae, qad, qcx, qay, zbd, qcb, qaq, qac, zdg, zal, zan, zag, qag, AH.get_new, AH.get_add_old, AH.put_same, AH.mark_get, AH.get_loose, qal, zap, qab, List.nil_append, List.cons_append, List.append_nil, List.length_cons, List.length_nil, Option.bind_some, Option.map_some, qec, qbe, qae, qei, qeu, Nat.zero_add, Nat.add_zero, AH.mark_mark, true_and, AH.add_n, AH.mark_n, g5, hap, dp_some]
    refine ⟨⟨.nils, rfl, by rw [h0]; exact OwnAt.nil _ _ _⟩, ?_⟩
    refine Ext.put (ex _ _) _ ?_ ?_ <;> first | omega | (simp only [AH.mark_n, AH.add_n] <;> omega)
  · simp (maxSteps := 1000000) (disch := first | decide | assumption | omega | (simp only [AH.add_n, AH.put_n, AH.mark_n, zcq, AH.back_n] <;> omega) | (repeat (first | assumption | exact zca.eq_1 _ | (refine zfc ?_ ?_; (first | omega | (simp only [AH.add_n, AH.put_n, AH.mark_n, zcq, AH.back_n] <;> omega))) | refine AH.ok.add ?_ _ | refine AH.ok.mark ?_ | (refine AH.ok_put1 ?_ ?_; (first | omega | (simp only [AH.add_n, AH.put_n, AH.mark_n, zcq, AH.back_n] <;> omega))) | refine AH.has_put ?_ _ _ | refine AH.has_mark ?_ | (refine AH.has_new1 ?_ ?_; (first | omega | (simp only [AH.add_n, AH.put_n, AH.mark_n, zcq, AH.back_n] <;> omega))) | refine AH.has_add ?_ _ ?_ | (apply AH.has_of; assumption)))) only [qdv, zdx, zcp, zdl, zcg, zdz, qch, zef, zaw, qah, zaf, qbx, zcb, zfa, qey, zbe, zea, zdr, zet, zdo, zbq, zch, zcs, zdy, zau, Bool.or_true, Bool.or_false, cond_false, zei, zeo, qcl, zez, zfb, qdj, zbg, zey, qfb, qav, qco, zdn, qdf, zej, qdi, zax, zak, zbl, if_true, qdp, zbp, qcy, qaf, zae, qad, qcx, qay, zbd, qcb, qaq, qac, zdg, zal, zan, zag, qag, AH.get_new, AH.get_add_old, AH.put_same, AH.mark_get, AH.get_loose, qal, zap, qab, List.nil_append, List.cons_append, List.append_nil, List.length_cons, List.length_nil, Option.bind_some, Option.map_some, qec, qbe, qae, qei, qeu, Nat.zero_add, Nat.add_zero, AH.mark_mark, true_and, AH.add_n, AH.mark_n, g5, hap, dp_some]
    refine ⟨⟨_, rfl, ?_⟩, ?_⟩
    · have o : OwnAt h.n ((((h.add (.cells true [.i .i64 N, es])).add (.cells true [.i .i64 0, .nils])).mark.add (.cells true (E.map pr).flatten)).mark.put (h.n + 1) (.cells true [.i .i64 N, .sl (h.n + 1 + 1) 0 E.length none 2])) 2 (.sl (h.n + 1 + 1) 0 E.length none 2) (E.map pr) := by
        refine ⟨fun l hl => ?_, .inr ⟨h.n + 1 + 1, by rw [List.length_map], ?_, by omega⟩⟩
        · obtain ⟨e, _, rfl⟩ := List.mem_map.mp hl; rfl
        · simp (maxSteps := 1000000) (disch := first | decide | assumption | omega | (simp only [AH.add_n, AH.put_n, AH.mark_n, zcq, AH.back_n] <;> omega) | (repeat (first | assumption | exact zca.eq_1 _ | (refine zfc ?_ ?_; (first | omega | (simp only [AH.add_n, AH.put_n, AH.mark_n, zcq, AH.back_n] <;> omega))) | refine AH.ok.add ?_ _ | refine AH.ok.mark ?_ | (refine AH.ok_put1 ?_ ?_; (first | omega | (simp only [AH.add_n, AH.put_n, AH.mark_n, zcq, AH.back_n] <;> omega))) | refine AH.has_put ?_ _ _ | refine AH.has_mark ?_ | (refine AH.has_new1 ?_ ?_; (first | omega | (simp only [AH.add_n, AH.put_n, AH.mark_n, zcq, AH.back_n] <;> omega))) | refine AH.has_add ?_ _ ?_ | (apply AH.has_of; assumption)))) only [AH.get_new, AH.get_put_other, AH.mark_get]
      exact o
    · refine Ext.put ((ex _ _).add _).mark _ ?_ ?_ <;> first | omega | (simp only [AH.mark_n, AH.add_n] <;> omega)
end Go.AM.Zd
end
section
/- The order of edges. No condition. -/
namespace Go.AM.Zd
set_option maxHeartbeats 8000000
variable {F : Tr AFunc} {orc : Orc}
def cmpI (x y : Int) : Int := if x < y then -1 else if y < x then 1 else 0
def cfO (x y : Int × Int) : Int := if cmpI x.1 y.1 = 0 then cmpI x.2 y.2 else cmpI x.1 y.1
theorem NaN_spec (B : TC F orc) (a : Int) (h : AH) : WF F orc 85 [.i .i64 a] h (fun v h' => v = .b false ∧ h' = h) := by
  refine WF.enter B.o85 B.f85 rfl ?_
  simp (maxSteps := 1000000) (disch := first | decide | assumption | omega | (simp only [AH.add_n, AH.put_n, AH.mark_n, zcq, AH.back_n] <;> omega) | (repeat (first | assumption | exact zca.eq_1 _ | (refine zfc ?_ ?_; (first | omega | (simp only [AH.add_n, AH.put_n, AH.mark_n, zcq, AH.back_n] <;> omega))) | refine AH.ok.add ?_ _ | refine AH.ok.mark ?_ | (refine AH.ok_put1 ?_ ?_; (first | omega | (simp only [AH.add_n, AH.put_n, AH.mark_n, zcq, AH.back_n] <;> omega))) | refine AH.has_put ?_ _ _ | refine AH.has_mark ?_ | (refine AH.has_new1 ?_ ?_; (first | omega | (simp only [AH.add_n, AH.put_n, AH.mark_n, zcq, AH.back_n] <;> omega))) | refine AH.has_add ?_ _ ?_ | (apply AH.has_of; assumption)))) only [qdv, zdx, zdl, zcg, zdz, zaf, qbx, zfa, cond_true, qez, qfa, zey, qfb, qav, qco, qdf, zbd, Option.map_some, qeo, decide_true, Bool.not_true, qec, qbe, qdd, qei, qeu, and_true, g85]
theorem Compare_spec (B : TC F orc) (a b : Int) (h : AH) : WF F orc 64 [.i .i64 a, .i .i64 b] h (fun v h' => v = .i .i64 (cmpI a b) ∧ h' = h) := by
  refine WF.enter B.o64 B.f64 rfl ?_
  simp (maxSteps := 1000000) (disch := first | decide | assumption | omega | (simp only [AH.add_n, AH.put_n, AH.mark_n, zcq, AH.back_n] <;> omega) | (repeat (first | assumption | exact zca.eq_1 _ | (refine zfc ?_ ?_; (first | omega | (simp only [AH.add_n, AH.put_n, AH.mark_n, zcq, AH.back_n] <;> omega))) | refine AH.ok.add ?_ _ | refine AH.ok.mark ?_ | (refine AH.ok_put1 ?_ ?_; (first | omega | (simp only [AH.add_n, AH.put_n, AH.mark_n, zcq, AH.back_n] <;> omega))) | refine AH.has_put ?_ _ _ | refine AH.has_mark ?_ | (refine AH.has_new1 ?_ ?_; (first | omega | (simp only [AH.add_n, AH.put_n, AH.mark_n, zcq, AH.back_n] <;> omega))) | refine AH.has_add ?_ _ ?_ | (apply AH.has_of; assumption)))) only [qdv, zdx, zcg, zdz, zaf, qbx, zfa, qez, zey, qfb, qcg, zbi, qav, qco, qdf, qer, zbn, g64]
  refine (NaN_spec B _ _).mono ?_
  rintro v h' ⟨rfl, rfl⟩
  simp (maxSteps := 1000000) (disch := first | decide | assumption | omega | (simp only [AH.add_n, AH.put_n, AH.mark_n, zcq, AH.back_n] <;> omega) | (repeat (first | assumption | exact zca.eq_1 _ | (refine zfc ?_ ?_; (first | omega | (simp only [AH.add_n, AH.put_n, AH.mark_n, zcq, AH.back_n] <;> omega))) | refine AH.ok.add ?_ _ | refine AH.ok.mark ?_ | (refine AH.ok_put1 ?_ ?_; (first | omega | (simp only [AH.add_n, AH.put_n, AH.mark_n, zcq, AH.back_n] <;> omega))) | refine AH.has_put ?_ _ _ | refine AH.has_mark ?_ | (refine AH.has_new1 ?_ ?_; (first | omega | (simp only [AH.add_n, AH.put_n, AH.mark_n, zcq, AH.back_n] <;> omega))) | refine AH.has_add ?_ _ ?_ | (apply AH.has_of; assumption)))) only [qdv, zdx, zcg, zdz, zaf, qbx, zfa, qez, zey, qcg, zbi, qav, qco, qdf, zbn]
  refine (NaN_spec B _ _).mono ?_
  rintro v h' ⟨rfl, rfl⟩
  by_cases c1 : a < b
  · simp (maxSteps := 1000000) (disch := first | decide | assumption | omega | (simp only [AH.add_n, AH.put_n, AH.mark_n, zcq, AH.back_n] <;> omega) | (repeat (first | assumption | exact zca.eq_1 _ | (refine zfc ?_ ?_; (first | omega | (simp only [AH.add_n, AH.put_n, AH.mark_n, zcq, AH.back_n] <;> omega))) | refine AH.ok.add ?_ _ | refine AH.ok.mark ?_ | (refine AH.ok_put1 ?_ ?_; (first | omega | (simp only [AH.add_n, AH.put_n, AH.mark_n, zcq, AH.back_n] <;> omega))) | refine AH.has_put ?_ _ _ | refine AH.has_mark ?_ | (refine AH.has_new1 ?_ ?_; (first | omega | (simp only [AH.add_n, AH.put_n, AH.mark_n, zcq, AH.back_n] <;> omega))) | refine AH.has_add ?_ _ ?_ | (apply AH.has_of; assumption)))) only [qdb, qdv, zdx, zdl, qcs, zcg, zdz, zaf, qbh, qbx, zfa, qez, zcy, zcj, zeh, zey, qfb, qav, qco, qdf, if_true, zbd, Option.map_some, zes, decide_true, qec, qbe, qdd, qei, and_true, c1, cmpI]
  · by_cases c2 : b < a
    · simp (maxSteps := 1000000) (disch := first | decide | assumption | omega | (simp only [AH.add_n, AH.put_n, AH.mark_n, zcq, AH.back_n] <;> omega) | (repeat (first | assumption | exact zca.eq_1 _ | (refine zfc ?_ ?_; (first | omega | (simp only [AH.add_n, AH.put_n, AH.mark_n, zcq, AH.back_n] <;> omega))) | refine AH.ok.add ?_ _ | refine AH.ok.mark ?_ | (refine AH.ok_put1 ?_ ?_; (first | omega | (simp only [AH.add_n, AH.put_n, AH.mark_n, zcq, AH.back_n] <;> omega))) | refine AH.has_put ?_ _ _ | refine AH.has_mark ?_ | (refine AH.has_new1 ?_ ?_; (first | omega | (simp only [AH.add_n, AH.put_n, AH.mark_n, zcq, AH.back_n] <;> omega))) | refine AH.has_add ?_ _ ?_ | (apply AH.has_of; assumption)))) only [qdb, qdv, zdx, zdl, qcs, zcg, zdz, zaf, qbh, qbx, zfa, qez, zcy, zcj, zeh, zey, qfb, qav, qco, qdf, if_true, if_false, zbd, Option.map_some, zes, qek, decide_true, decide_false, qec, qbe, qdd, qei, and_true, c1, c2, cmpI]
    · simp (maxSteps := 1000000) (disch := first | decide | assumption | omega | (simp only [AH.add_n, AH.put_n, AH.mark_n, zcq, AH.back_n] <;> omega) | (repeat (first | assumption | exact zca.eq_1 _ | (refine zfc ?_ ?_; (first | omega | (simp only [AH.add_n, AH.put_n, AH.mark_n, zcq, AH.back_n] <;> omega))) | refine AH.ok.add ?_ _ | refine AH.ok.mark ?_ | (refine AH.ok_put1 ?_ ?_; (first | omega | (simp only [AH.add_n, AH.put_n, AH.mark_n, zcq, AH.back_n] <;> omega))) | refine AH.has_put ?_ _ _ | refine AH.has_mark ?_ | (refine AH.has_new1 ?_ ?_; (first | omega | (simp only [AH.add_n, AH.put_n, AH.mark_n, zcq, AH.back_n] <;> omega))) | refine AH.has_add ?_ _ ?_ | (apply AH.has_of; assumption)))) only [qdb, qdv, zdx, zdl, qcs, zcg, zdz, zaf, qbx, zfa, qez, zcj, zeh, zey, qfb, qav, qco, qdf, if_false, zbd, Option.map_some, zes, qek, decide_false, qec, qbe, qdd, qei, and_true, c1, c2, cmpI]
theorem Or_spec (B : TC F orc) (a b : Int) (id : Nat) (h : AH) (g : h.get id = some (.cells true [.i .i64 a, .i .i64 b])) :
    WF F orc 63 [.sl id 0 2 (some 2) 1] h (fun v h' => v = .i .i64 (if a = 0 then b else a) ∧ h' = h) := by
  refine WF.enter B.o63 B.f63 rfl ?_
  have l1 : (0 : Int) < 0 + 1 + 1 := by decide
  have l2 : (1 : Int) < 0 + 1 + 1 := by decide
  have l3 : ¬ (2 : Int) < 0 + 1 + 1 := by decide
  have l4 : (1 : Int).toNat = 1 := by decide
  have w1 : IntKind.i64.wrap (0 + 1) = 1 := by decide
  have w2 : IntKind.i64.wrap (1 + 1) = 2 := by decide
  by_cases c1 : a = 0
  · simp (maxSteps := 1000000) (disch := first | decide | assumption | omega | (simp only [AH.add_n, AH.put_n, AH.mark_n, zcq, AH.back_n] <;> omega) | (repeat (first | assumption | exact zca.eq_1 _ | (refine zfc ?_ ?_; (first | omega | (simp only [AH.add_n, AH.put_n, AH.mark_n, zcq, AH.back_n] <;> omega))) | refine AH.ok.add ?_ _ | refine AH.ok.mark ?_ | (refine AH.ok_put1 ?_ ?_; (first | omega | (simp only [AH.add_n, AH.put_n, AH.mark_n, zcq, AH.back_n] <;> omega))) | refine AH.has_put ?_ _ _ | refine AH.has_mark ?_ | (refine AH.has_new1 ?_ ?_; (first | omega | (simp only [AH.add_n, AH.put_n, AH.mark_n, zcq, AH.back_n] <;> omega))) | refine AH.has_add ?_ _ ?_ | (apply AH.has_of; assumption)))) only [qdv, zdx, zbm, zcg, zdz, zaf, qau, Int.natCast_zero, qbx, zfa, qez, qeh, qcd, zey, qfb, qav, qco, qdf, zbd, qeu, g63]
    rw [wc_loop]
    simp (maxSteps := 1000000) (disch := first | decide | assumption | omega | (simp only [AH.add_n, AH.put_n, AH.mark_n, zcq, AH.back_n] <;> omega) | (repeat (first | assumption | exact zca.eq_1 _ | (refine zfc ?_ ?_; (first | omega | (simp only [AH.add_n, AH.put_n, AH.mark_n, zcq, AH.back_n] <;> omega))) | refine AH.ok.add ?_ _ | refine AH.ok.mark ?_ | (refine AH.ok_put1 ?_ ?_; (first | omega | (simp only [AH.add_n, AH.put_n, AH.mark_n, zcq, AH.back_n] <;> omega))) | refine AH.has_put ?_ _ _ | refine AH.has_mark ?_ | (refine AH.has_new1 ?_ ?_; (first | omega | (simp only [AH.add_n, AH.put_n, AH.mark_n, zcq, AH.back_n] <;> omega))) | refine AH.has_add ?_ _ ?_ | (apply AH.has_of; assumption)))) only [qdb, qdv, zdx, qcs, zbm, zcg, zdz, zaf, qaa, qbx, zfa, cond_true, qez, zcy, zcj, zez, zeh, qfa, qee, qbw, zey, qfb, qav, qco, qdf, if_true, zbd, qcb, qaq, qac, zdg, zal, zag, qag, Option.bind_some, Option.map_some, qeq, zes, qeo, decide_true, Bool.not_true, Nat.add_zero, Nat.mul_one, Int.toNat_zero, l1, eq_true c1, g, w1]
    rw [loopK_normal, wc_loop]
    by_cases c2 : b = 0
    · simp (maxSteps := 1000000) (disch := first | decide | assumption | omega | (simp only [AH.add_n, AH.put_n, AH.mark_n, zcq, AH.back_n] <;> omega) | (repeat (first | assumption | exact zca.eq_1 _ | (refine zfc ?_ ?_; (first | omega | (simp only [AH.add_n, AH.put_n, AH.mark_n, zcq, AH.back_n] <;> omega))) | refine AH.ok.add ?_ _ | refine AH.ok.mark ?_ | (refine AH.ok_put1 ?_ ?_; (first | omega | (simp only [AH.add_n, AH.put_n, AH.mark_n, zcq, AH.back_n] <;> omega))) | refine AH.has_put ?_ _ _ | refine AH.has_mark ?_ | (refine AH.has_new1 ?_ ?_; (first | omega | (simp only [AH.add_n, AH.put_n, AH.mark_n, zcq, AH.back_n] <;> omega))) | refine AH.has_add ?_ _ ?_ | (apply AH.has_of; assumption)))) only [qdb, qdv, zdx, qcs, zbm, zcg, zdz, zaf, qaa, qbx, zfa, cond_true, qez, zcy, zcj, zez, zeh, qfa, qee, qbw, zey, qfb, qav, qco, qdf, zbd, qcb, qaq, qac, zdg, zal, zan, zag, qag, Option.bind_some, Option.map_some, qeq, zes, qeo, decide_true, Bool.not_true, Nat.zero_add, Nat.mul_one, l2, eq_true c2, g, l4, w2]
      rw [loopK_normal, wc_loop]
      simp (maxSteps := 1000000) (disch := first | decide | assumption | omega | (simp only [AH.add_n, AH.put_n, AH.mark_n, zcq, AH.back_n] <;> omega) | (repeat (first | assumption | exact zca.eq_1 _ | (refine zfc ?_ ?_; (first | omega | (simp only [AH.add_n, AH.put_n, AH.mark_n, zcq, AH.back_n] <;> omega))) | refine AH.ok.add ?_ _ | refine AH.ok.mark ?_ | (refine AH.ok_put1 ?_ ?_; (first | omega | (simp only [AH.add_n, AH.put_n, AH.mark_n, zcq, AH.back_n] <;> omega))) | refine AH.has_put ?_ _ _ | refine AH.has_mark ?_ | (refine AH.has_new1 ?_ ?_; (first | omega | (simp only [AH.add_n, AH.put_n, AH.mark_n, zcq, AH.back_n] <;> omega))) | refine AH.has_add ?_ _ ?_ | (apply AH.has_of; assumption)))) only [qdb, qdv, zdx, zdl, zcl, zcg, zdz, zaf, zat, zah, zad, qbx, zfa, qez, zcj, zeh, zey, qav, qco, qdf, zbd, Option.map_some, zes, decide_false, qec, qbe, qdd, qei, and_true, l3, c2]
    · simp (maxSteps := 1000000) (disch := first | decide | assumption | omega | (simp only [AH.add_n, AH.put_n, AH.mark_n, zcq, AH.back_n] <;> omega) | (repeat (first | assumption | exact zca.eq_1 _ | (refine zfc ?_ ?_; (first | omega | (simp only [AH.add_n, AH.put_n, AH.mark_n, zcq, AH.back_n] <;> omega))) | refine AH.ok.add ?_ _ | refine AH.ok.mark ?_ | (refine AH.ok_put1 ?_ ?_; (first | omega | (simp only [AH.add_n, AH.put_n, AH.mark_n, zcq, AH.back_n] <;> omega))) | refine AH.has_put ?_ _ _ | refine AH.has_mark ?_ | (refine AH.has_new1 ?_ ?_; (first | omega | (simp only [AH.add_n, AH.put_n, AH.mark_n, zcq, AH.back_n] <;> omega))) | refine AH.has_add ?_ _ ?_ | (apply AH.has_of; assumption)))) only [qdb, qdv, zdx, zdl, qcs, zbm, zcg, zdz, zaf, qbh, qbd, qaj, qbx, zfa, cond_true, qez, zcy, zez, zeh, qfa, qee, qbw, zey, qav, qco, qdf, zbd, qcb, qaq, qac, zdg, zal, zan, zag, qag, Option.bind_some, Option.map_some, zes, qeo, decide_true, decide_false, Bool.not_false, qec, qbe, qdd, qei, Nat.zero_add, Nat.mul_one, and_true, l2, c2, g, l4]
  · simp (maxSteps := 1000000) (disch := first | decide | assumption | omega | (simp only [AH.add_n, AH.put_n, AH.mark_n, zcq, AH.back_n] <;> omega) | (repeat (first | assumption | exact zca.eq_1 _ | (refine zfc ?_ ?_; (first | omega | (simp only [AH.add_n, AH.put_n, AH.mark_n, zcq, AH.back_n] <;> omega))) | refine AH.ok.add ?_ _ | refine AH.ok.mark ?_ | (refine AH.ok_put1 ?_ ?_; (first | omega | (simp only [AH.add_n, AH.put_n, AH.mark_n, zcq, AH.back_n] <;> omega))) | refine AH.has_put ?_ _ _ | refine AH.has_mark ?_ | (refine AH.has_new1 ?_ ?_; (first | omega | (simp only [AH.add_n, AH.put_n, AH.mark_n, zcq, AH.back_n] <;> omega))) | refine AH.has_add ?_ _ ?_ | (apply AH.has_of; assumption)))) only [qdv, zdx, zbm, zcg, zdz, zaf, qau, Int.natCast_zero, qbx, zfa, qez, qeh, qcd, zey, qfb, qav, qco, qdf, zbd, qeu, g63]
    rw [wc_loop]
    simp (maxSteps := 1000000) (disch := first | decide | assumption | omega | (simp only [AH.add_n, AH.put_n, AH.mark_n, zcq, AH.back_n] <;> omega) | (repeat (first | assumption | exact zca.eq_1 _ | (refine zfc ?_ ?_; (first | omega | (simp only [AH.add_n, AH.put_n, AH.mark_n, zcq, AH.back_n] <;> omega))) | refine AH.ok.add ?_ _ | refine AH.ok.mark ?_ | (refine AH.ok_put1 ?_ ?_; (first | omega | (simp only [AH.add_n, AH.put_n, AH.mark_n, zcq, AH.back_n] <;> omega))) | refine AH.has_put ?_ _ _ | refine AH.has_mark ?_ | (refine AH.has_new1 ?_ ?_; (first | omega | (simp only [AH.add_n, AH.put_n, AH.mark_n, zcq, AH.back_n] <;> omega))) | refine AH.has_add ?_ _ ?_ | (apply AH.has_of; assumption)))) only [qdb, qdv, zdx, zdl, qcs, zbm, zcg, zdz, zaf, qbh, qbd, qaj, qbx, zfa, cond_true, qez, zcy, zez, zeh, qfa, qee, qbw, zey, qav, qco, qdf, if_false, zbd, qcb, qaq, qac, zdg, zal, zag, qag, Option.bind_some, Option.map_some, zes, qeo, decide_true, decide_false, Bool.not_false, qec, qbe, qdd, qei, Nat.add_zero, Nat.mul_one, Int.toNat_zero, and_true, l1, c1, g]
theorem order_spec (B : TC F orc) (x y : Int × Int) (h : AH) (ok : h.ok) : WF F orc 49 [.agg (pr x), .agg (pr y)] h (fun v h' => v = .i .i64 (cfO x y) ∧ Ext h h') := by
  refine WF.enter B.o49 B.f49 rfl ?_
  have ex : ∀ x y, Ext h ((h.add x).add y) := fun x y => ((Ext.refl h).add _).add _
  simp (maxSteps := 1000000) (disch := first | decide | assumption | omega | (simp only [AH.add_n, AH.put_n, AH.mark_n, zcq, AH.back_n] <;> omega) | (repeat (first | assumption | exact zca.eq_1 _ | (refine zfc ?_ ?_; (first | omega | (simp only [AH.add_n, AH.put_n, AH.mark_n, zcq, AH.back_n] <;> omega))) | refine AH.ok.add ?_ _ | refine AH.ok.mark ?_ | (refine AH.ok_put1 ?_ ?_; (first | omega | (simp only [AH.add_n, AH.put_n, AH.mark_n, zcq, AH.back_n] <;> omega))) | refine AH.has_put ?_ _ _ | refine AH.has_mark ?_ | (refine AH.has_new1 ?_ ?_; (first | omega | (simp only [AH.add_n, AH.put_n, AH.mark_n, zcq, AH.back_n] <;> omega))) | refine AH.has_add ?_ _ ?_ | (apply AH.has_of; assumption)))) only [qdv, zdx, zcp, zcg, zdz, qch, zaw, qah, zaf, qbx, zfa, qey, zea, zdr, zet, zbk, qca, zcw, Bool.or_true, Bool.or_false, cond_false, qez, zeo, zez, qeb, zao, zey, qfb, qcg, zbi, qav, qco, zdn, qdf, zbp, zbd, qcb, qaq, qac, zdg, zal, zag, qag, AH.get_new, AH.get_add_old, AH.mark_get, AH.get_loose, qal, zap, qab, List.append_nil, List.length_cons, List.length_nil, Option.bind_some, Option.map_some, qer, Nat.zero_add, Nat.add_zero, Nat.mul_one, Int.toNat_zero, zbh, AH.mark_mark, true_and, AH.add_n, AH.mark_n, g49, pr]
  refine WLF.val ((Compare_spec B _ _ _).mono fun v h' ⟨a, b⟩ => ⟨a, b ▸ Ext.refl _⟩) fun h1 e1 => ?_
  have x1 := (ex _ _).mark.trans e1
  have k1 := x1.ok ok
  have n1 := e1.n
  simp only [AH.add_n, AH.mark_n] at n1
  simp (maxSteps := 1000000) (disch := first | decide | assumption | omega | (simp only [AH.add_n, AH.put_n, AH.mark_n, zcq, AH.back_n] <;> omega) | (repeat (first | assumption | exact zca.eq_1 _ | (refine zfc ?_ ?_; (first | omega | (simp only [AH.add_n, AH.put_n, AH.mark_n, zcq, AH.back_n] <;> omega))) | refine AH.ok.add ?_ _ | refine AH.ok.mark ?_ | (refine AH.ok_put1 ?_ ?_; (first | omega | (simp only [AH.add_n, AH.put_n, AH.mark_n, zcq, AH.back_n] <;> omega))) | refine AH.has_put ?_ _ _ | refine AH.has_mark ?_ | (refine AH.has_new1 ?_ ?_; (first | omega | (simp only [AH.add_n, AH.put_n, AH.mark_n, zcq, AH.back_n] <;> omega))) | refine AH.has_add ?_ _ ?_ | (apply AH.has_of; assumption)))) only [qch, zaw, qah, qbx, zfa, qey, zea, zdr, zet, zbk, qca, Bool.or_true, Bool.or_false, cond_false, zez, qeb, zao, zey, qfb, qcg, zbi, qav, qco, qdf, zbd, qcb, qaq, qac, zdg, zal, zan, zag, qag, AH.get_new, AH.get_add_old, AH.mark_get, AH.get_loose, qal, qab, List.nil_append, List.cons_append, List.append_nil, Option.bind_some, Option.map_some, Nat.zero_add, Nat.mul_one, Int.toNat_one, zbn, AH.mark_mark, AH.mark_n, e1.get]
  refine (Compare_spec B _ _ _).mono ?_
  rintro v h' ⟨rfl, rfl⟩
  simp (maxSteps := 1000000) (disch := first | decide | assumption | omega | (simp only [AH.add_n, AH.put_n, AH.mark_n, zcq, AH.back_n] <;> omega) | (repeat (first | assumption | exact zca.eq_1 _ | (refine zfc ?_ ?_; (first | omega | (simp only [AH.add_n, AH.put_n, AH.mark_n, zcq, AH.back_n] <;> omega))) | refine AH.ok.add ?_ _ | refine AH.ok.mark ?_ | (refine AH.ok_put1 ?_ ?_; (first | omega | (simp only [AH.add_n, AH.put_n, AH.mark_n, zcq, AH.back_n] <;> omega))) | refine AH.has_put ?_ _ _ | refine AH.has_mark ?_ | (refine AH.has_new1 ?_ ?_; (first | omega | (simp only [AH.add_n, AH.put_n, AH.mark_n, zcq, AH.back_n] <;> omega))) | refine AH.has_add ?_ _ ?_ | (apply AH.has_of; assumption)))) only [qch, zaw, qbx, zfa, zce, qca, Bool.or_false, qen, zey, qcg, zbi, qav, qco, zdn, zax, zak, zbl, if_true, qdp, qaf, zae, qad, zbd, List.length_cons, List.length_nil, Option.bind_some, Option.map_some, Nat.zero_add, zbn, AH.mark_n]
  refine (Or_spec B (cmpI x.1 y.1) (cmpI x.2 y.2) _ _ (by simp (maxSteps := 1000000) (disch := first | decide | assumption | omega | (simp only [AH.add_n, AH.put_n, AH.mark_n, zcq, AH.back_n] <;> omega) | (repeat (first | assumption | exact zca.eq_1 _ | (refine zfc ?_ ?_; (first | omega | (simp only [AH.add_n, AH.put_n, AH.mark_n, zcq, AH.back_n] <;> omega))) | refine AH.ok.add ?_ _ | refine AH.ok.mark ?_ | (refine AH.ok_put1 ?_ ?_; (first | omega | (simp only [AH.add_n, AH.put_n, AH.mark_n, zcq, AH.back_n] <;> omega))) | refine AH.has_put ?_ _ _ | refine AH.has_mark ?_ | (refine AH.has_new1 ?_ ?_; (first | omega | (simp only [AH.add_n, AH.put_n, AH.mark_n, zcq, AH.back_n] <;> omega))) | refine AH.has_add ?_ _ ?_ | (apply AH.has_of; assumption)))) only [AH.get_new])).mono ?_
  rintro v h' ⟨rfl, rfl⟩
  simp (maxSteps := 1000000) (disch := first | decide | assumption | omega | (simp only [AH.add_n, AH.put_n, AH.mark_n, zcq, AH.back_n] <;> omega) | (repeat (first | assumption | exact zca.eq_1 _ | (refine zfc ?_ ?_; (first | omega | (simp only [AH.add_n, AH.put_n, AH.mark_n, zcq, AH.back_n] <;> omega))) | refine AH.ok.add ?_ _ | refine AH.ok.mark ?_ | (refine AH.ok_put1 ?_ ?_; (first | omega | (simp only [AH.add_n, AH.put_n, AH.mark_n, zcq, AH.back_n] <;> omega))) | refine AH.has_put ?_ _ _ | refine AH.has_mark ?_ | (refine AH.has_new1 ?_ ?_; (first | omega | (simp only [AH.add_n, AH.put_n, AH.mark_n, zcq, AH.back_n] <;> omega))) | refine AH.has_add ?_ _ ?_ | (apply AH.has_of; assumption)))) only [zdl, qch, zef, zaw, zaf, qbx, zfa, qdm, Bool.or_true, qez, zey, qav, qdf, zbd, Option.map_some, qec, qbe, qdd, qei, true_and, cfO]
  exact x1.mark.add _
end Go.AM.Zd
end
section
/- slices.SortFunc over pairs, answered from outside by the shelf's contract. Conditions: the comparison parts whatever two pairs that are not one. -/
namespace Go.AM
open Go.Sort Go.Proofs

def encP (x : Int × Int) : List Value := [.int .i64 x.1, .int .i64 x.2]
def pairsOf : List AV → Option (List (Int × Int))
  | [] => some []
  | .i .i64 a :: .i .i64 b :: r => (pairsOf r).map ((a, b) :: ·)
  | _ => none
theorem pairsOf_flat : ∀ L : List (Int × Int), pairsOf (L.flatMap pr) = some L
  | [] => rfl
  | (a, b) :: r => by
    rw [List.flatMap_cons]
    show (pairsOf (r.flatMap pr)).map _ = _
    rw [pairsOf_flat r]; rfl
theorem pairsOf_inv : ∀ {vs : List AV} {L : List (Int × Int)}, pairsOf vs = some L → vs = L.flatMap pr := by
  intro vs
  induction vs using pairsOf.induct with
  | case1 => intro L h; cases h; rfl
  | case2 a b r ih =>
    intro L h
    simp only [pairsOf] at h
    cases hr : pairsOf r with
    | none => rw [hr] at h; cases h
    | some l => rw [hr] at h; cases h; rw [ih hr]; rfl
  | case3 vs h1 h2 => intro L h; rw [pairsOf] at h; · cases h
                      · exact h1
                      · exact h2
def srt (cf : Int × Int → Int × Int → Int) (L : List (Int × Int)) : List (Int × Int) := L.mergeSort fun x y => !(ltOf cf) y x
def orcSort (gc : Nat) (cf : Int × Int → Int × Int → Int) : List AV → AH → Option (AV × AH)
  | [.nils, .fn g []], h => if g = gc then some (.tup [], h) else none
  | [.sl id 0 n none 2, .fn g []], h => if g = gc then (match h.get id with
    | some (.cells true vs) => match pairsOf vs with
      | some L => if L.length = n ∧ n < 4611686018427387904 then some (.tup [], h.put id (.cells true ((srt cf L).flatMap pr))) else none
      | none => none
    | _ => none) else none
  | _, _ => none

theorem flat_get (L : List (Int × Int)) (j : Nat) : (L.flatMap pr)[j]? = (L[j / 2]?).map fun p => .i .i64 (if j % 2 = 0 then p.1 else p.2) := by
  induction L generalizing j with
  | nil => simp
  | cons p r ih =>
    rw [List.flatMap_cons]
    match j with
    | 0 => simp [pr]
    | 1 => simp [pr]
    | j + 2 =>
      have e1 : (j + 2) / 2 = j / 2 + 1 := by omega
      have e2 : (j + 2) % 2 = j % 2 := by omega
      rw [e1, e2, List.getElem?_cons_succ, ← ih j]; rfl
theorem flat_len (L : List (Int × Int)) : (L.flatMap pr).length = L.length * 2 := by
  induction L with
  | nil => rfl
  | cons p r ih => rw [List.flatMap_cons, List.length_append, ih, List.length_cons]; simp [pr]; omega

section
variable {ren : FuncId → Option Nat} {P : Program}
/-- New blocks beside those that were. -/
theorem Post.grow {ρ : Rho} {B0 : Nat} {h : AH} {w w' : World} (hr : HR ren ρ B0 h w) (h1 : w'.os = w.os) (h2 : w'.tape = w.tape) (h3 : w'.output = w.output) (h4 : w.drawn ≤ w'.drawn) (h5 : w.heap.size ≤ w'.heap.size)
    (h6 : ∀ b, b < w.heap.size → w'.heap[b]? = w.heap[b]?) : Post ren ρ B0 h w ρ h w' :=
  { le := ρ.le_refl, dom := fun i hi => absurd rfl hi, n := Nat.le_refl _, hid := rfl, wm := Nat.le_refl _, keep := fun _ _ _ => rfl, old := fun i o _ hg hw => ⟨o, hg, hw⟩
    rel := ⟨Nat.le_trans hr.base h5, fun i o hg hl => let ⟨e, he, ho⟩ := hr.obj i o hg hl; ⟨e, he, ho.of_block (Rho.le_refl ρ) (h6 _ (ho.blk_lt hl))⟩, hr.dist⟩
    os := h1, tape := h2, output := h3, drw := h4, size := h5, frame := fun b hb _ => h6 b hb
    new := fun i o _ hg hw => by
      obtain ⟨e, he, _⟩ := hr.obj i o hg (AO.live_of_wr hw)
      exact ⟨e, he, .inr ⟨i, o, e, hg, hw, he, rfl⟩⟩ }
end

theorem orcSort_kp (gc : Nat) (cf : Int × Int → Int × Int → Int) {l : List AV} {h h' : AH} {v : AV} (hr : orcSort gc cf l h = some (v, h')) : Kp h h' := by
  unfold orcSort at hr
  split at hr
  · split at hr
    · cases hr; exact Kp.refl _
    · cases hr
  · split at hr
    · split at hr
      · rename_i hg
        split at hr
        · split at hr
          · cases hr; exact Kp.put _ hg (.inl rfl)
          · cases hr
        · cases hr
      · cases hr
    · cases hr
  · cases hr

section
variable {P : Program} {rho : Go.Shelf.Ren}
theorem orcSort_ok (L : SlLaysF0.n6 P rho) (gs gc : Nat) (hgs : rho.f 6 = gs) (hfn : ∃ fn, P.funcs[gs]? = some fn ∧ (fn.name == "runtime.NumGoroutine") = false ∧ fn.body.isNone = false)
    (aE : ∀ w, (isAgg (rho.t 24)).run P w = .ok true w) (zE : ∀ w, (Go.sizeOf (rho.t 24)).run P w = .ok 2 w) (cf : Int × Int → Int × Int → Int) (hO : SWO (ltOf cf))
    (hT : ∀ x y, (ltOf cf) x y = false → (ltOf cf) y x = false → x = y) (eg : ∀ args w, (callFunc gc args).run P w = .ok (.enter gc args) w)
    (hcmp : ∀ (x y : Int × Int) (W : World), Calls P gc #[.agg (encP x).toArray, .agg (encP y).toArray] W fun e w' => e = .returned (.int .i64 (cf x y)) ∧ ∃ q os', w' = Go.Sort.grow (W.drewN q) os') :
    CallOk some P (fun g' l h => if g' = gs then orcSort gc cf l h else none) := by
  intro g l h v h' hr hwf f hf
  injection hf with hf
  subst hf
  simp only at hr
  by_cases hg : f = gs
  rotate_left
  · rw [if_neg hg] at hr; cases hr
  rw [if_pos hg] at hr
  subst hg
  refine ⟨hfn, fun ρ B0 w cl hHR hV _ => ?_⟩
  have tup0 : ∀ ρ : Rho, VR some ρ (.tup []) (.tuple #[]) := fun ρ => .tup rfl (by intro j x y hx; simp at hx)
  unfold orcSort at hr
  split at hr
  · rename_i g
    split at hr
    rotate_left
    · cases hr
    cases hr
    rename_i hgc
    obtain ⟨y1, a1, e1, v1, hV⟩ := hV.cons_inv
    obtain ⟨y2, a2, e2, v2, hV⟩ := hV.cons_inv
    have e3 : a2 = [] := by have := hV.1; simpa using this.symm
    subst e3; subst e2
    have : cl = #[y1, y2] := by apply Array.toList_inj.mp; simpa using e1
    subst this
    cases v1
    rw [← hgs]
    exact (AnyF.slices_SortFunc_none L none 0 y2 w).mono fun e w' ⟨k1, k2⟩ => ⟨_, ρ, k1, tup0 ρ, by rw [k2]; exact Post.refl hHR⟩
  · rename_i idn n g
    split at hr
    rotate_left
    · cases hr
    rename_i hgc
    subst hgc
    split at hr
    rotate_left
    · cases hr
    rename_i vs hget
    split at hr
    rotate_left
    · cases hr
    rename_i Ls hp
    split at hr
    rotate_left
    · cases hr
    rename_i hn
    cases hr
    obtain ⟨hn1, hn2⟩ := hn
    have hvs := pairsOf_inv hp
    obtain ⟨y1, a1, e1, v1, hV⟩ := hV.cons_inv
    obtain ⟨y2, a2, e2, v2, hV⟩ := hV.cons_inv
    have e3 : a2 = [] := by have := hV.1; simpa using this.symm
    subst e3; subst e2
    have : cl = #[y1, y2] := by apply Array.toList_inj.mp; simpa using e1
    subst this
    have hy2 : y2 = .func (.func g) #[] #[] := by
      cases v2 with
      | fn hf hl h => injection hf with hf; subst hf; rw [Array.eq_empty_of_size_eq_zero hl.symm]
    cases v1 with
    | slo he hl hz ho =>
      rename_i c o e
      obtain ⟨e', he', hor⟩ := hHR.obj idn _ hget rfl
      rw [he] at he'; cases he'
      obtain ⟨ca, el, fz, hb, hsz, hle, hcell, hw⟩ := hor
      obtain ⟨rfl, hB⟩ := hw rfl
      by_cases h0 : n = 0
      · subst h0
        have hL0 : Ls = [] := List.length_eq_zero_iff.mp hn1
        subst hL0
        rw [← hgs]
        refine (AnyF.slices_SortFunc_none L _ c y2 w).mono fun e w' ⟨k1, k2⟩ => ⟨_, ρ, k1, tup0 ρ, ?_⟩
        rw [k2]
        exact Post.put hHR hget rfl he rfl rfl ⟨rfl, rfl⟩ rfl (fun _ _ => rfl) ⟨ca, el, (0, 0), hb, hsz, by rw [show (srt cf []).flatMap pr = [] by simp [srt]]; simp; omega, fun j x hx => by rw [show (srt cf []).flatMap pr = [] by simp [srt]] at hx; simp at hx, fun _ => ⟨rfl, hB⟩⟩
      · have ho : o = e.sh := by rcases ho with ho | ho <;> omega
        subst ho
        have hblk : e.blk < w.heap.size := (Array.getElem?_eq_some_iff.1 hb).1
        have hcv : ∀ j, j < n * 2 → ca[e.sh + j]? = some (.int .i64 (if j % 2 = 0 then (Ls[j / 2]!).1 else (Ls[j / 2]!).2)) := fun j hj => by
          have hj2 : j / 2 < Ls.length := by omega
          have := flat_get Ls j
          rw [← hvs, List.getElem?_eq_getElem hj2] at this
          obtain ⟨y, k1, k2, _⟩ := hcell j _ this
          rw [k1, k2.int_inv]
          simp [hj2]
        have hH : HoldsK encP 2 w e.blk e.sh Ls.toArray := by
          intro j hj
          have hj' : j < Ls.toArray.size * 2 := by simpa using hj
          have hj2 : j < n * 2 := by simpa [hn1] using hj'
          have hj3 : j / 2 < Ls.length := by omega
          constructor
          · simp only [World.cell?, hb]
            simp only [Option.isSome_none, Bool.false_eq_true, if_false]
            rw [hcv j hj2, get_flatK _ _ _ j hj']
            simp only [id]
            have : Ls.toArray[j / 2]! = Ls[j / 2]! := by simp [hj3]
            rw [this]
            rcases Nat.mod_two_eq_zero_or_one j with e0 | e0 <;> simp [e0, encP]
          · simp only [World.frozen?, hb]; simp
        have hcl : CmpLays P g #[] encP 2 cf e.blk e.sh Ls.toArray.size w := fun m os dk _ x y => hcmp x y _
        have hcon := AnyQ.slices_SortFunc_total L 2 aE zE encP (fun _ => rfl) (fun x v hv => by simp [encP] at hv; rcases hv with rfl | rfl <;> rfl) cf hO g #[] e.blk e.sh c Ls.toArray w eg hcl hH hblk (by simpa [hn1] using hn2) hT
        rw [hgs] at hcon
        have hsize : Ls.toArray.size = n := by simpa using hn1
        rw [hsize] at hcon
        rw [hy2]
        refine hcon.mono fun ee w' ⟨k1, q, os, k2⟩ => ⟨_, ρ, k1, tup0 ρ, ?_⟩
        have hms : (Ls.toArray.toList.mergeSort fun x y => !(ltOf cf) y x) = srt cf Ls := by simp [srt]
        rw [hms] at k2
        have hlen : (srt cf Ls).length = n := by simp [srt, hn1]
        -- the row is laid, then blocks grow
        have hP0 : Post some ρ B0 h w ρ h (Go.Sort.ahead w q) := Post.grow hHR rfl rfl rfl (by show w.drawn ≤ w.drawn + q; omega) (Nat.le_refl _) (fun _ _ => rfl)
        have hHR1 : HR some ρ B0 h (Go.Sort.ahead w q) := hP0.rel
        have hblock : (putRowK encP 2 (Go.Sort.ahead w q) e.blk e.sh (srt cf Ls).toArray).heap[e.blk]? = some (.cells (putCells id e.sh (flatK encP 2 (srt cf Ls).toArray) ca) el (0, 0)) := by
          show ((Go.Sort.ahead w q).heap.modify e.blk _)[e.blk]? = _
          rw [Array.getElem?_modify, if_pos rfl]
          show (w.heap[e.blk]?).map _ = _
          rw [hb]; rfl
        have hP1 : Post some ρ B0 h (Go.Sort.ahead w q) ρ (h.put idn (.cells true ((srt cf Ls).flatMap pr))) (putRowK encP 2 (Go.Sort.ahead w q) e.blk e.sh (srt cf Ls).toArray) := by
          refine Post.put hHR1 hget rfl he rfl rfl ⟨rfl, rfl⟩ ?_ ?_ ⟨putCells id e.sh (flatK encP 2 (srt cf Ls).toArray) ca, el, (0, 0), hblock, ?_, ?_, fun j x hx => ?_, fun _ => ⟨rfl, hB⟩⟩
          · show ((Go.Sort.ahead w q).heap.modify e.blk _).size = _
            rw [Array.size_modify]
          · intro b hb'
            show ((Go.Sort.ahead w q).heap.modify e.blk _)[b]? = _
            rw [Array.getElem?_modify, if_neg (fun e => hb' e.symm)]
          · simp only [putCells, Array.size_mapIdx]; exact hsz
          · rw [flat_len, hlen]; rw [hvs, flat_len, hn1] at hle; exact hle
          · have hj : j < n * 2 := by
              have := (List.getElem?_eq_some_iff.1 hx).1
              rw [flat_len, hlen] at this; exact this
            have hj2 : j / 2 < (srt cf Ls).length := by omega
            rw [flat_get, List.getElem?_eq_getElem hj2] at hx
            simp only [Option.map_some] at hx
            injection hx with hx
            subst hx
            refine ⟨.int .i64 (if j % 2 = 0 then (srt cf Ls)[j / 2].1 else (srt cf Ls)[j / 2].2), ?_, .i _ _, rfl⟩
            have hca : e.sh + j < ca.size := by
              have := hcv j hj
              exact (Array.getElem?_eq_some_iff.1 this).1
            simp only [putCells, Array.getElem?_mapIdx]
            rw [Array.getElem?_eq_getElem hca]
            simp only [Option.map_some]
            have hsz2 : (flatK encP 2 (srt cf Ls).toArray).size = n * 2 := by simp [hlen]
            rw [if_pos ⟨by omega, by rw [hsz2]; omega⟩]
            have : e.sh + j - e.sh = j := by omega
            rw [this, get_flatK _ _ _ j (by simpa [hlen] using hj)]
            have : (srt cf Ls).toArray[j / 2]! = (srt cf Ls)[j / 2] := by simp [hj2]
            rw [this]
            simp only [id]
            rcases Nat.mod_two_eq_zero_or_one j with e0 | e0 <;> simp [e0, encP]
        have hsz3 : (putRowK encP 2 (Go.Sort.ahead w q) e.blk e.sh (srt cf Ls).toArray).heap.size ≤ w'.heap.size := by
          rw [k2]; show _ ≤ (_ ++ os).size; simp
        have hP2 : Post some ρ B0 _ (putRowK encP 2 (Go.Sort.ahead w q) e.blk e.sh (srt cf Ls).toArray) ρ _ w' := Post.grow hP1.rel (by rw [k2]; rfl) (by rw [k2]; rfl) (by rw [k2]; rfl) (by rw [k2]; exact Nat.le_refl _) hsz3 (fun b hb' => by
          rw [k2]
          show (_ ++ os)[b]? = _
          rw [Array.getElem?_append_left hb'])
        exact (hP0.trans hP1).trans hP2
  · cases hr
end
end Go.AM
end
section
/- Edges in form. Conditions: lists no longer than 2^43. -/
namespace Go.AM.Zd
set_option maxHeartbeats 8000000
variable {F : Tr AFunc} {orc : Orc}
theorem WF_orc {g : Nat} {o : List AV → AH → Option (AV × AH)} (ho : orc g = some o) {l : List AV} {h : AH} {v : AV} {h' : AH} (hr : o l h = some (v, h')) {Q : AV → AH → Prop} (q : Q v h') : WF F orc g l h Q :=
  ⟨0, v, h', by unfold arunG callG; rw [ho]; exact hr, q⟩
/-- All edges in form, in order. -/
def form (E : List (Int × Int)) : List (Int × Int) := srt cfO (E.map nm)
theorem flat_pr (L : List (Int × Int)) : (L.map pr).flatten = L.flatMap pr := by rw [List.flatMap_def]
theorem Make_spec (B : TB F orc) (hs : orc 48 = some (orcSort 49 cfO)) (N : Int) (E : List (Int × Int)) (es : AV) (h : AH) (ok : h.ok) (s : SlAt h 2 es (E.map pr)) (hE : E.length ≤ 8796093022207) :
    WF F orc 34 [.i .i64 N, es] h (fun v h' => (∃ fs, v = .agg [.i .i64 N, fs] ∧ OwnAt h.n h' 2 fs ((form E).map pr)) ∧ Ext h h') := by
  refine WF.enter B.o34 B.f34 rfl ?_
  have hl := s.len
  rw [List.length_map] at hl
  simp (maxSteps := 1000000) (disch := first | decide | assumption | omega | (simp only [AH.add_n, AH.put_n, AH.mark_n, zcq, AH.back_n] <;> omega) | (repeat (first | assumption | exact zca.eq_1 _ | (refine zfc ?_ ?_; (first | omega | (simp only [AH.add_n, AH.put_n, AH.mark_n, zcq, AH.back_n] <;> omega))) | refine AH.ok.add ?_ _ | refine AH.ok.mark ?_ | (refine AH.ok_put1 ?_ ?_; (first | omega | (simp only [AH.add_n, AH.put_n, AH.mark_n, zcq, AH.back_n] <;> omega))) | refine AH.has_put ?_ _ _ | refine AH.has_mark ?_ | (refine AH.has_new1 ?_ ?_; (first | omega | (simp only [AH.add_n, AH.put_n, AH.mark_n, zcq, AH.back_n] <;> omega))) | refine AH.has_add ?_ _ ?_ | (apply AH.has_of; assumption)))) only [qdv, zdx, zbm, zcg, zdz, zaf, qbx, zcb, zfa, qez, zei, qcl, zfb, qeh, zey, qfb, qav, qco, zdn, qdf, qdi, zax, zak, zbl, if_true, qdp, zbp, qaf, zae, qcx, qay, zbd, AH.get_new, List.length_cons, List.length_nil, Option.bind_some, Option.map_some, qer, Nat.zero_add, true_and, AH.add_n, g34, hl]
  refine WC.up E.length (fun i t hh => tget t s004 = .ptr h.n 0 ∧ tget t s005 = .ptr (h.n + 1) 0 ∧ tget t s012 = es ∧ tget t s013 = .i .i64 E.length ∧ tget t s014 = .i .i64 i ∧ Ext h hh ∧ hh.get h.n = some (.cells true [.i .i64 0, .nils]) ∧ ∃ fs, hh.get (h.n + 1) = some (.cells true [.i .i64 N, fs]) ∧ OwnAt (h.n + 1 + 1) hh 2 fs (((E.take i).map nm).map pr)) ?_ 0 _ _ (Nat.zero_le _) ?_
  · intro i t hh hi ⟨t4, t5, t12, t13, t14, e, g1, fs, g2, o⟩
    have ok' := e.ok ok
    have s' := s.ext ok e
    have ln := ok'.lt g2
    have ff : AV.flat fs = [fs] := o.flat
    by_cases hlt : i < E.length
    · have hlt' : (i : Int) < (E.length : Int) := by omega
      obtain ⟨id, off, p1, p2, p3, p4, lt⟩ := s'.pair ok' hlt
      -- memory when the new edge is laid
      have nx : ∀ x y z, Ext h (((hh.add x).put hh.n y).add z) := fun x y z => (((e.add _).put _ e.n (Nat.lt_succ_self _)).add _)
      have o2 : ∀ x y z, OwnAt (h.n + 1 + 1) (((hh.add x).put hh.n y).add z) 2 fs (((E.take i).map nm).map pr) := fun x y z => o.keep fun j w hj hw => by
        have := ok'.lt hw
        simp (maxSteps := 1000000) (disch := first | decide | assumption | omega | (simp only [AH.add_n, AH.put_n, AH.mark_n, zcq, AH.back_n] <;> omega) | (repeat (first | assumption | exact zca.eq_1 _ | (refine zfc ?_ ?_; (first | omega | (simp only [AH.add_n, AH.put_n, AH.mark_n, zcq, AH.back_n] <;> omega))) | refine AH.ok.add ?_ _ | refine AH.ok.mark ?_ | (refine AH.ok_put1 ?_ ?_; (first | omega | (simp only [AH.add_n, AH.put_n, AH.mark_n, zcq, AH.back_n] <;> omega))) | refine AH.has_put ?_ _ _ | refine AH.has_mark ?_ | (refine AH.has_new1 ?_ ?_; (first | omega | (simp only [AH.add_n, AH.put_n, AH.mark_n, zcq, AH.back_n] <;> omega))) | refine AH.has_add ?_ _ ?_ | (apply AH.has_of; assumption)))) only [AH.get_add_old, AH.get_put_other]
        exact hw
      obtain ⟨v', d, hap, o3, hx, hn, hold⟩ := OwnAt.app (bytes := 16) (cap := some 1) (o2 (.cells true [.i .i64 0, .i .i64 0]) (.cells true [.i .i64 E[i].1, .i .i64 E[i].2]) (.cells true [.i .i64 (min E[i].1 E[i].2), .i .i64 (max E[i].1 E[i].2)])) ((nx _ _ _).ok ok) (k := hh.n + 1) (rw_ := true) (c := [.i .i64 (min E[i].1 E[i].2), .i .i64 (max E[i].1 E[i].2)]) (by simp (maxSteps := 1000000) (disch := first | decide | assumption | omega | (simp only [AH.add_n, AH.put_n, AH.mark_n, zcq, AH.back_n] <;> omega) | (repeat (first | assumption | exact zca.eq_1 _ | (refine zfc ?_ ?_; (first | omega | (simp only [AH.add_n, AH.put_n, AH.mark_n, zcq, AH.back_n] <;> omega))) | refine AH.ok.add ?_ _ | refine AH.ok.mark ?_ | (refine AH.ok_put1 ?_ ?_; (first | omega | (simp only [AH.add_n, AH.put_n, AH.mark_n, zcq, AH.back_n] <;> omega))) | refine AH.has_put ?_ _ _ | refine AH.has_mark ?_ | (refine AH.has_new1 ?_ ?_; (first | omega | (simp only [AH.add_n, AH.put_n, AH.mark_n, zcq, AH.back_n] <;> omega))) | refine AH.has_add ?_ _ ?_ | (apply AH.has_of; assumption)))) only [AH.get_new]) rfl (by simp only [AH.add_n, AH.put_n]; omega)
        (by simp only [List.length_map, List.length_take]; omega) (by simp only [List.length_map, List.length_take]; omega)
      have fv : AV.flat v' = [v'] := o3.flat
      have x4 := hx h (by omega) (nx _ _ _)
      simp only [AH.add_n, AH.put_n] at hn
      have g2' : (d.on (((hh.add (.cells true [.i .i64 0, .i .i64 0])).put hh.n (.cells true [.i .i64 E[i].1, .i .i64 E[i].2])).add (.cells true [.i .i64 (min E[i].1 E[i].2), .i .i64 (max E[i].1 E[i].2)]))).get (h.n + 1) = some (.cells true [.i .i64 N, fs]) := by
        rw [hold _ (by omega)]; simp (maxSteps := 1000000) (disch := first | decide | assumption | omega | (simp only [AH.add_n, AH.put_n, AH.mark_n, zcq, AH.back_n] <;> omega) | (repeat (first | assumption | exact zca.eq_1 _ | (refine zfc ?_ ?_; (first | omega | (simp only [AH.add_n, AH.put_n, AH.mark_n, zcq, AH.back_n] <;> omega))) | refine AH.ok.add ?_ _ | refine AH.ok.mark ?_ | (refine AH.ok_put1 ?_ ?_; (first | omega | (simp only [AH.add_n, AH.put_n, AH.mark_n, zcq, AH.back_n] <;> omega))) | refine AH.has_put ?_ _ _ | refine AH.has_mark ?_ | (refine AH.has_new1 ?_ ?_; (first | omega | (simp only [AH.add_n, AH.put_n, AH.mark_n, zcq, AH.back_n] <;> omega))) | refine AH.has_add ?_ _ ?_ | (apply AH.has_of; assumption)))) only [AH.get_add_old, AH.get_put_other, g2]
      have g1' : (d.on (((hh.add (.cells true [.i .i64 0, .i .i64 0])).put hh.n (.cells true [.i .i64 E[i].1, .i .i64 E[i].2])).add (.cells true [.i .i64 (min E[i].1 E[i].2), .i .i64 (max E[i].1 E[i].2)]))).get h.n = some (.cells true [.i .i64 0, .nils]) := by
        rw [hold _ (by omega)]; simp (maxSteps := 1000000) (disch := first | decide | assumption | omega | (simp only [AH.add_n, AH.put_n, AH.mark_n, zcq, AH.back_n] <;> omega) | (repeat (first | assumption | exact zca.eq_1 _ | (refine zfc ?_ ?_; (first | omega | (simp only [AH.add_n, AH.put_n, AH.mark_n, zcq, AH.back_n] <;> omega))) | refine AH.ok.add ?_ _ | refine AH.ok.mark ?_ | (refine AH.ok_put1 ?_ ?_; (first | omega | (simp only [AH.add_n, AH.put_n, AH.mark_n, zcq, AH.back_n] <;> omega))) | refine AH.has_put ?_ _ _ | refine AH.has_mark ?_ | (refine AH.has_new1 ?_ ?_; (first | omega | (simp only [AH.add_n, AH.put_n, AH.mark_n, zcq, AH.back_n] <;> omega))) | refine AH.has_add ?_ _ ?_ | (apply AH.has_of; assumption)))) only [AH.get_add_old, AH.get_put_other, g1]
      simp (maxSteps := 1000000) (disch := first | decide | assumption | omega | (simp only [AH.add_n, AH.put_n, AH.mark_n, zcq, AH.back_n] <;> omega) | (repeat (first | assumption | exact zca.eq_1 _ | (refine zfc ?_ ?_; (first | omega | (simp only [AH.add_n, AH.put_n, AH.mark_n, zcq, AH.back_n] <;> omega))) | refine AH.ok.add ?_ _ | refine AH.ok.mark ?_ | (refine AH.ok_put1 ?_ ?_; (first | omega | (simp only [AH.add_n, AH.put_n, AH.mark_n, zcq, AH.back_n] <;> omega))) | refine AH.has_put ?_ _ _ | refine AH.has_mark ?_ | (refine AH.has_new1 ?_ ?_; (first | omega | (simp only [AH.add_n, AH.put_n, AH.mark_n, zcq, AH.back_n] <;> omega))) | refine AH.has_add ?_ _ ?_ | (apply AH.has_of; assumption)))) only [qdb, qdv, zdx, qcs, zbm, zcg, zdz, zaf, qbx, zcb, zfa, zcy, zei, qcl, qen, zez, zer, zfb, zeh, qdj, zbg, qee, qeb, zao, qex, qew, qax, qdg, qcn, zey, qfb, qcg, zbi, qav, qco, zdn, qdf, zej, qdi, zax, zak, zbl, if_true, qdp, zbp, qaf, zae, qad, qcx, qay, zbd, qcb, qaq, qac, zdg, zal, zan, zag, qag, AH.get_new, AH.get_add_old, AH.get_put_other, AH.put_same, List.length_cons, List.length_nil, Option.bind_some, Option.map_some, zes, decide_true, Nat.zero_add, Nat.add_zero, Nat.mul_one, Int.toNat_zero, Int.toNat_one, true_and, AH.add_n, AH.put_n, t5, t12, t13, t14, g2, hlt', p1, p2, hap, dp_some]
      generalize d.on (((hh.add (.cells true [.i .i64 0, .i .i64 0])).put hh.n (.cells true [.i .i64 E[i].1, .i .i64 E[i].2])).add (.cells true [.i .i64 (min E[i].1 E[i].2), .i .i64 (max E[i].1 E[i].2)])) = H at o3 x4 hn g1' g2' ⊢
      have okH := x4.ok ok
      simp (maxSteps := 1000000) (disch := first | decide | assumption | omega | (simp only [AH.add_n, AH.put_n, AH.mark_n, zcq, AH.back_n] <;> omega) | (repeat (first | assumption | exact zca.eq_1 _ | (refine zfc ?_ ?_; (first | omega | (simp only [AH.add_n, AH.put_n, AH.mark_n, zcq, AH.back_n] <;> omega))) | refine AH.ok.add ?_ _ | refine AH.ok.mark ?_ | (refine AH.ok_put1 ?_ ?_; (first | omega | (simp only [AH.add_n, AH.put_n, AH.mark_n, zcq, AH.back_n] <;> omega))) | refine AH.has_put ?_ _ _ | refine AH.has_mark ?_ | (refine AH.has_new1 ?_ ?_; (first | omega | (simp only [AH.add_n, AH.put_n, AH.mark_n, zcq, AH.back_n] <;> omega))) | refine AH.has_add ?_ _ ?_ | (apply AH.has_of; assumption)))) only [zdx, zcg, zdz, zaf, qaa, qak, qau, qbx, zfa, qez, zeh, zey, qfb, qav, qco, qdf, qaf, zae, qad, qay, zbd, AH.get_put_other, AH.put_same, List.length_cons, List.length_nil, Option.map_some, qeq, qby, Nat.zero_add, true_and, t4, t5, t12, t13, t14, g1', g2', hlt, fv]
      refine ⟨x4.put _ (by omega) (by omega), v', rfl, ?_⟩
      have hm : ((E.take (i + 1)).map nm).map pr = ((E.take i).map nm).map pr ++ [[.i .i64 (min E[i].1 E[i].2), .i .i64 (max E[i].1 E[i].2)]] := by
        rw [← List.take_append_getElem hlt]; simp only [List.map_append, List.map_cons, List.map_nil]; rfl
      rw [hm]
      refine o3.keep fun j w hj hw => ?_
      simp (maxSteps := 1000000) (disch := first | decide | assumption | omega | (simp only [AH.add_n, AH.put_n, AH.mark_n, zcq, AH.back_n] <;> omega) | (repeat (first | assumption | exact zca.eq_1 _ | (refine zfc ?_ ?_; (first | omega | (simp only [AH.add_n, AH.put_n, AH.mark_n, zcq, AH.back_n] <;> omega))) | refine AH.ok.add ?_ _ | refine AH.ok.mark ?_ | (refine AH.ok_put1 ?_ ?_; (first | omega | (simp only [AH.add_n, AH.put_n, AH.mark_n, zcq, AH.back_n] <;> omega))) | refine AH.has_put ?_ _ _ | refine AH.has_mark ?_ | (refine AH.has_new1 ?_ ?_; (first | omega | (simp only [AH.add_n, AH.put_n, AH.mark_n, zcq, AH.back_n] <;> omega))) | refine AH.has_add ?_ _ ?_ | (apply AH.has_of; assumption)))) only [AH.get_put_other]
      exact hw
    · have hlt' : ¬ (i : Int) < (E.length : Int) := by omega
      have hie : i = E.length := by omega
      rw [hie, List.take_length] at o
      simp (maxSteps := 1000000) (disch := first | decide | assumption | omega | (simp only [AH.add_n, AH.put_n, AH.mark_n, zcq, AH.back_n] <;> omega) | (repeat (first | assumption | exact zca.eq_1 _ | (refine zfc ?_ ?_; (first | omega | (simp only [AH.add_n, AH.put_n, AH.mark_n, zcq, AH.back_n] <;> omega))) | refine AH.ok.add ?_ _ | refine AH.ok.mark ?_ | (refine AH.ok_put1 ?_ ?_; (first | omega | (simp only [AH.add_n, AH.put_n, AH.mark_n, zcq, AH.back_n] <;> omega))) | refine AH.has_put ?_ _ _ | refine AH.has_mark ?_ | (refine AH.has_new1 ?_ ?_; (first | omega | (simp only [AH.add_n, AH.put_n, AH.mark_n, zcq, AH.back_n] <;> omega))) | refine AH.has_add ?_ _ ?_ | (apply AH.has_of; assumption)))) only [qdb, qdv, zdx, zcl, zcg, zdz, zaf, zat, zad, qbz, qbx, zfa, zcj, zez, zeh, qdj, zbg, zey, qfb, qcg, zbi, qav, qco, qdf, zbd, qcb, qaq, qac, zdg, zal, zan, zag, qag, Option.bind_some, Option.map_some, zes, decide_false, Nat.zero_add, zbn, t5, t13, t14, g2, hlt']
      obtain ⟨hlen, ⟨rfl, h0⟩ | ⟨id, rfl, hg, hid⟩⟩ := o
      · have hE0 : E = [] := by simpa using h0
        refine WF_orc hs (v := .tup []) (h' := hh) (by simp [orcSort]) ?_
        simp (maxSteps := 1000000) (disch := first | decide | assumption | omega | (simp only [AH.add_n, AH.put_n, AH.mark_n, zcq, AH.back_n] <;> omega) | (repeat (first | assumption | exact zca.eq_1 _ | (refine zfc ?_ ?_; (first | omega | (simp only [AH.add_n, AH.put_n, AH.mark_n, zcq, AH.back_n] <;> omega))) | refine AH.ok.add ?_ _ | refine AH.ok.mark ?_ | (refine AH.ok_put1 ?_ ?_; (first | omega | (simp only [AH.add_n, AH.put_n, AH.mark_n, zcq, AH.back_n] <;> omega))) | refine AH.has_put ?_ _ _ | refine AH.has_mark ?_ | (refine AH.has_new1 ?_ ?_; (first | omega | (simp only [AH.add_n, AH.put_n, AH.mark_n, zcq, AH.back_n] <;> omega))) | refine AH.has_add ?_ _ ?_ | (apply AH.has_of; assumption)))) only [qdv, zdx, zdl, zcg, zdz, zaf, qbx, zcb, zfa, zer, zfb, zey, qav, qco, qdf, qdi, zbp, qaf, zae, qcx, qay, zbd, qaq, qac, zdg, zal, zag, qag, AH.put_same, List.length_cons, List.length_nil, Option.bind_some, Option.map_some, qec, qbe, qae, qei, Nat.zero_add, true_and, t4, t5, g1, g2, qae]
        refine ⟨⟨_, rfl, by rw [hE0, show (form []).map pr = [] by simp [form, srt]]; exact OwnAt.nil _ _ _⟩, e.put _ (by omega) (by omega)⟩
      · have hlen2 : ((E.map nm).map pr).length = E.length := by simp
        rw [flat_pr] at hg
        refine WF_orc hs (v := .tup []) (h' := hh.put id (.cells true ((form E).flatMap pr))) (by simp only [orcSort, if_true, hg, pairsOf_flat]; rw [hlen2, if_pos ⟨by simp, by omega⟩]; rfl) ?_
        have g1' : (hh.put id (.cells true ((form E).flatMap pr))).get h.n = some (.cells true [.i .i64 0, .nils]) := by simp (maxSteps := 1000000) (disch := first | decide | assumption | omega | (simp only [AH.add_n, AH.put_n, AH.mark_n, zcq, AH.back_n] <;> omega) | (repeat (first | assumption | exact zca.eq_1 _ | (refine zfc ?_ ?_; (first | omega | (simp only [AH.add_n, AH.put_n, AH.mark_n, zcq, AH.back_n] <;> omega))) | refine AH.ok.add ?_ _ | refine AH.ok.mark ?_ | (refine AH.ok_put1 ?_ ?_; (first | omega | (simp only [AH.add_n, AH.put_n, AH.mark_n, zcq, AH.back_n] <;> omega))) | refine AH.has_put ?_ _ _ | refine AH.has_mark ?_ | (refine AH.has_new1 ?_ ?_; (first | omega | (simp only [AH.add_n, AH.put_n, AH.mark_n, zcq, AH.back_n] <;> omega))) | refine AH.has_add ?_ _ ?_ | (apply AH.has_of; assumption)))) only [AH.get_put_other, g1]
        have g2' : (hh.put id (.cells true ((form E).flatMap pr))).get (h.n + 1) = some (.cells true [.i .i64 N, .sl id 0 ((E.map nm).map pr).length none 2]) := by simp (maxSteps := 1000000) (disch := first | decide | assumption | omega | (simp only [AH.add_n, AH.put_n, AH.mark_n, zcq, AH.back_n] <;> omega) | (repeat (first | assumption | exact zca.eq_1 _ | (refine zfc ?_ ?_; (first | omega | (simp only [AH.add_n, AH.put_n, AH.mark_n, zcq, AH.back_n] <;> omega))) | refine AH.ok.add ?_ _ | refine AH.ok.mark ?_ | (refine AH.ok_put1 ?_ ?_; (first | omega | (simp only [AH.add_n, AH.put_n, AH.mark_n, zcq, AH.back_n] <;> omega))) | refine AH.has_put ?_ _ _ | refine AH.has_mark ?_ | (refine AH.has_new1 ?_ ?_; (first | omega | (simp only [AH.add_n, AH.put_n, AH.mark_n, zcq, AH.back_n] <;> omega))) | refine AH.has_add ?_ _ ?_ | (apply AH.has_of; assumption)))) only [AH.get_put_other, g2]
        have lid := ok'.lt hg
        have x4 : Ext h (hh.put id (.cells true ((form E).flatMap pr))) := e.put _ (by omega) lid
        simp (maxSteps := 1000000) (disch := first | decide | assumption | omega | (simp only [AH.add_n, AH.put_n, AH.mark_n, zcq, AH.back_n] <;> omega) | (repeat (first | assumption | exact zca.eq_1 _ | (refine zfc ?_ ?_; (first | omega | (simp only [AH.add_n, AH.put_n, AH.mark_n, zcq, AH.back_n] <;> omega))) | refine AH.ok.add ?_ _ | refine AH.ok.mark ?_ | (refine AH.ok_put1 ?_ ?_; (first | omega | (simp only [AH.add_n, AH.put_n, AH.mark_n, zcq, AH.back_n] <;> omega))) | refine AH.has_put ?_ _ _ | refine AH.has_mark ?_ | (refine AH.has_new1 ?_ ?_; (first | omega | (simp only [AH.add_n, AH.put_n, AH.mark_n, zcq, AH.back_n] <;> omega))) | refine AH.has_add ?_ _ ?_ | (apply AH.has_of; assumption)))) only [qdv, zdx, zdl, zcg, zdz, zaf, qbx, zcb, zfa, zer, zfb, zey, qav, qco, qdf, qdi, zbp, qaf, zae, qcx, qay, zbd, qaq, qac, zdg, zal, zag, qag, AH.put_same, List.length_cons, List.length_nil, Option.bind_some, Option.map_some, qec, qbe, qae, qei, Nat.zero_add, true_and, t4, t5, g1', g2', qae]
        refine ⟨⟨_, rfl, ?_⟩, x4.put _ (by omega) (by simp only [AH.put_n]; omega)⟩
        have hlf : (form E).length = E.length := by simp [form, srt]
        have o : OwnAt (h.n + 1 + 1) ((hh.put id (.cells true ((form E).flatMap pr))).put h.n (.cells true [.i .i64 N, .sl id 0 ((E.map nm).map pr).length none 2])) 2 (.sl id 0 ((E.map nm).map pr).length none 2) ((form E).map pr) := by
          refine ⟨fun l hl => ?_, .inr ⟨id, by simp [hlf], ?_, hid⟩⟩
          · obtain ⟨e, _, rfl⟩ := List.mem_map.mp hl; rfl
          · rw [flat_pr]; simp (maxSteps := 1000000) (disch := first | decide | assumption | omega | (simp only [AH.add_n, AH.put_n, AH.mark_n, zcq, AH.back_n] <;> omega) | (repeat (first | assumption | exact zca.eq_1 _ | (refine zfc ?_ ?_; (first | omega | (simp only [AH.add_n, AH.put_n, AH.mark_n, zcq, AH.back_n] <;> omega))) | refine AH.ok.add ?_ _ | refine AH.ok.mark ?_ | (refine AH.ok_put1 ?_ ?_; (first | omega | (simp only [AH.add_n, AH.put_n, AH.mark_n, zcq, AH.back_n] <;> omega))) | refine AH.has_put ?_ _ _ | refine AH.has_mark ?_ | (refine AH.has_new1 ?_ ?_; (first | omega | (simp only [AH.add_n, AH.put_n, AH.mark_n, zcq, AH.back_n] <;> omega))) | refine AH.has_add ?_ _ ?_ | (apply AH.has_of; assumption)))) only [AH.get_put_other, AH.put_same]
        exact o.le (by omega)
  · simp (maxSteps := 1000000) (disch := first | decide | assumption | omega | (simp only [AH.add_n, AH.put_n, AH.mark_n, zcq, AH.back_n] <;> omega) | (repeat (first | assumption | exact zca.eq_1 _ | (refine zfc ?_ ?_; (first | omega | (simp only [AH.add_n, AH.put_n, AH.mark_n, zcq, AH.back_n] <;> omega))) | refine AH.ok.add ?_ _ | refine AH.ok.mark ?_ | (refine AH.ok_put1 ?_ ?_; (first | omega | (simp only [AH.add_n, AH.put_n, AH.mark_n, zcq, AH.back_n] <;> omega))) | refine AH.has_put ?_ _ _ | refine AH.has_mark ?_ | (refine AH.has_new1 ?_ ?_; (first | omega | (simp only [AH.add_n, AH.put_n, AH.mark_n, zcq, AH.back_n] <;> omega))) | refine AH.has_add ?_ _ ?_ | (apply AH.has_of; assumption)))) only [Int.natCast_zero, qav, qco, AH.get_new, AH.get_add_old, AH.get_put_other, AH.put_same, true_and]
    exact ⟨((Ext.refl h).add _).add _ |>.put _ (by omega) (by simp only [AH.add_n]; omega), _, rfl, OwnAt.nil _ _ _⟩
theorem Form_spec (B : TB F orc) (hs : orc 48 = some (orcSort 49 cfO)) (N : Int) (E : List (Int × Int)) (es : AV) (h : AH) (ok : h.ok) (s : SlAt h 2 es (E.map pr)) (hE : E.length ≤ 8796093022207) :
    WF F orc 18 [.agg [.i .i64 N, es]] h (fun v h' => (if (chk N E).1 = 0 then ∃ fs, v = .tup [.agg [.i .i64 N, fs], .agg [.i .i64 0, .i .i64 0]] ∧ OwnAt h.n h' 2 fs ((form E).map pr) else v = .tup [.agg [.i .i64 0, .nils], .agg (pr (chk N E))]) ∧ Ext h h') := by
  refine WF.enter B.o18 B.f18 rfl ?_
  have fl : AV.flat es = [es] := s.flat
  have ex : ∀ x y z, Ext h (((h.add x).add y).add z) := fun x y z => (((Ext.refl h).add _).add _).add _
  simp (maxSteps := 1000000) (disch := first | decide | assumption | omega | (simp only [AH.add_n, AH.put_n, AH.mark_n, zcq, AH.back_n] <;> omega) | (repeat (first | assumption | exact zca.eq_1 _ | (refine zfc ?_ ?_; (first | omega | (simp only [AH.add_n, AH.put_n, AH.mark_n, zcq, AH.back_n] <;> omega))) | refine AH.ok.add ?_ _ | refine AH.ok.mark ?_ | (refine AH.ok_put1 ?_ ?_; (first | omega | (simp only [AH.add_n, AH.put_n, AH.mark_n, zcq, AH.back_n] <;> omega))) | refine AH.has_put ?_ _ _ | refine AH.has_mark ?_ | (refine AH.has_new1 ?_ ?_; (first | omega | (simp only [AH.add_n, AH.put_n, AH.mark_n, zcq, AH.back_n] <;> omega))) | refine AH.has_add ?_ _ ?_ | (apply AH.has_of; assumption)))) only [qdv, zdx, zcg, zdz, zaf, qbx, zfa, zei, zeo, zer, zey, qcg, zbi, qav, qco, zdn, qdf, zbp, zbd, qaq, qac, zdg, zal, zag, qag, AH.get_new, AH.get_add_old, List.length_cons, List.length_nil, Option.bind_some, Option.map_some, qeu, Nat.zero_add, zbn, true_and, AH.add_n, g18]
  refine WF.val (gCheck_spec B N E es _ ((ex _ _ _).ok ok) (s.ext ok (ex _ _ _)) (by omega)) fun H eH => ?_
  have xH := (ex _ _ _).trans eH
  have kH := xH.ok ok
  have nH := eH.n
  simp only [AH.add_n] at nH
  have q0 : H.get h.n = some (.cells true [.i .i64 N, es]) := by simp (maxSteps := 1000000) (disch := first | decide | assumption | omega | (simp only [AH.add_n, AH.put_n, AH.mark_n, zcq, AH.back_n] <;> omega) | (repeat (first | assumption | exact zca.eq_1 _ | (refine zfc ?_ ?_; (first | omega | (simp only [AH.add_n, AH.put_n, AH.mark_n, zcq, AH.back_n] <;> omega))) | refine AH.ok.add ?_ _ | refine AH.ok.mark ?_ | (refine AH.ok_put1 ?_ ?_; (first | omega | (simp only [AH.add_n, AH.put_n, AH.mark_n, zcq, AH.back_n] <;> omega))) | refine AH.has_put ?_ _ _ | refine AH.has_mark ?_ | (refine AH.has_new1 ?_ ?_; (first | omega | (simp only [AH.add_n, AH.put_n, AH.mark_n, zcq, AH.back_n] <;> omega))) | refine AH.has_add ?_ _ ?_ | (apply AH.has_of; assumption)))) only [AH.get_new, AH.get_add_old, eH.get]
  have q1 : H.get (h.n + 1) = some (.cells true [.i .i64 0, .nils]) := by simp (maxSteps := 1000000) (disch := first | decide | assumption | omega | (simp only [AH.add_n, AH.put_n, AH.mark_n, zcq, AH.back_n] <;> omega) | (repeat (first | assumption | exact zca.eq_1 _ | (refine zfc ?_ ?_; (first | omega | (simp only [AH.add_n, AH.put_n, AH.mark_n, zcq, AH.back_n] <;> omega))) | refine AH.ok.add ?_ _ | refine AH.ok.mark ?_ | (refine AH.ok_put1 ?_ ?_; (first | omega | (simp only [AH.add_n, AH.put_n, AH.mark_n, zcq, AH.back_n] <;> omega))) | refine AH.has_put ?_ _ _ | refine AH.has_mark ?_ | (refine AH.has_new1 ?_ ?_; (first | omega | (simp only [AH.add_n, AH.put_n, AH.mark_n, zcq, AH.back_n] <;> omega))) | refine AH.has_add ?_ _ ?_ | (apply AH.has_of; assumption)))) only [AH.get_new, AH.get_add_old, eH.get]
  have q2 : H.get (h.n + 1 + 1) = some (.cells true [.i .i64 0, .i .i64 0]) := by simp (maxSteps := 1000000) (disch := first | decide | assumption | omega | (simp only [AH.add_n, AH.put_n, AH.mark_n, zcq, AH.back_n] <;> omega) | (repeat (first | assumption | exact zca.eq_1 _ | (refine zfc ?_ ?_; (first | omega | (simp only [AH.add_n, AH.put_n, AH.mark_n, zcq, AH.back_n] <;> omega))) | refine AH.ok.add ?_ _ | refine AH.ok.mark ?_ | (refine AH.ok_put1 ?_ ?_; (first | omega | (simp only [AH.add_n, AH.put_n, AH.mark_n, zcq, AH.back_n] <;> omega))) | refine AH.has_put ?_ _ _ | refine AH.has_mark ?_ | (refine AH.has_new1 ?_ ?_; (first | omega | (simp only [AH.add_n, AH.put_n, AH.mark_n, zcq, AH.back_n] <;> omega))) | refine AH.has_add ?_ _ ?_ | (apply AH.has_of; assumption)))) only [AH.get_new, eH.get]
  have lH : h.n + 1 + 1 < H.n := by omega
  by_cases c : (chk N E).1 = 0
  · simp (maxSteps := 1000000) (disch := first | decide | assumption | omega | (simp only [AH.add_n, AH.put_n, AH.mark_n, zcq, AH.back_n] <;> omega) | (repeat (first | assumption | exact zca.eq_1 _ | (refine zfc ?_ ?_; (first | omega | (simp only [AH.add_n, AH.put_n, AH.mark_n, zcq, AH.back_n] <;> omega))) | refine AH.ok.add ?_ _ | refine AH.ok.mark ?_ | (refine AH.ok_put1 ?_ ?_; (first | omega | (simp only [AH.add_n, AH.put_n, AH.mark_n, zcq, AH.back_n] <;> omega))) | refine AH.has_put ?_ _ _ | refine AH.has_mark ?_ | (refine AH.has_new1 ?_ ?_; (first | omega | (simp only [AH.add_n, AH.put_n, AH.mark_n, zcq, AH.back_n] <;> omega))) | refine AH.has_add ?_ _ ?_ | (apply AH.has_of; assumption)))) only [qdb, qdv, zdx, qcs, zcg, zdz, zaf, qbx, zcb, zfa, cond_true, zcj, zei, zez, zfb, qfa, qdj, zbg, zey, qfb, qcg, zbi, qav, qco, zdn, qdf, qdi, if_true, zbp, qaf, zae, qcx, qay, zbd, qcb, qaq, qac, zdg, zal, zan, zag, qag, AH.get_new, AH.get_add_old, AH.get_put_other, AH.put_same, List.length_cons, List.length_nil, Option.bind_some, Option.map_some, qeo, decide_true, Bool.not_true, Nat.zero_add, Nat.add_zero, zbn, true_and, pr, eq_true c, q0]
    refine (Make_spec B hs N E es _ (AH.ok.put (kH.add _) (by simp only [AH.add_n]; omega) _) (s.ext ok ((xH.add _).put _ (by omega) (by simp only [AH.add_n]; omega))) hE).mono ?_
    rintro v h' ⟨⟨fs, rfl, sf⟩, e⟩
    have ff : AV.flat fs = [fs] := sf.flat
    have n' := e.n
    simp only [AH.add_n, AH.put_n] at n'
    have x' := (((xH.add _).put _ (by omega) (by simp only [AH.add_n]; omega))).trans e
    have k' := x'.ok ok
    have r1 : h'.get (h.n + 1) = some (.cells true [.i .i64 0, .nils]) := by simp (maxSteps := 1000000) (disch := first | decide | assumption | omega | (simp only [AH.add_n, AH.put_n, AH.mark_n, zcq, AH.back_n] <;> omega) | (repeat (first | assumption | exact zca.eq_1 _ | (refine zfc ?_ ?_; (first | omega | (simp only [AH.add_n, AH.put_n, AH.mark_n, zcq, AH.back_n] <;> omega))) | refine AH.ok.add ?_ _ | refine AH.ok.mark ?_ | (refine AH.ok_put1 ?_ ?_; (first | omega | (simp only [AH.add_n, AH.put_n, AH.mark_n, zcq, AH.back_n] <;> omega))) | refine AH.has_put ?_ _ _ | refine AH.has_mark ?_ | (refine AH.has_new1 ?_ ?_; (first | omega | (simp only [AH.add_n, AH.put_n, AH.mark_n, zcq, AH.back_n] <;> omega))) | refine AH.has_add ?_ _ ?_ | (apply AH.has_of; assumption)))) only [AH.get_add_old, AH.get_put_other, e.get, q1]
    have r2 : h'.get (h.n + 1 + 1) = some (.cells true [.i .i64 0, .i .i64 0]) := by simp (maxSteps := 1000000) (disch := first | decide | assumption | omega | (simp only [AH.add_n, AH.put_n, AH.mark_n, zcq, AH.back_n] <;> omega) | (repeat (first | assumption | exact zca.eq_1 _ | (refine zfc ?_ ?_; (first | omega | (simp only [AH.add_n, AH.put_n, AH.mark_n, zcq, AH.back_n] <;> omega))) | refine AH.ok.add ?_ _ | refine AH.ok.mark ?_ | (refine AH.ok_put1 ?_ ?_; (first | omega | (simp only [AH.add_n, AH.put_n, AH.mark_n, zcq, AH.back_n] <;> omega))) | refine AH.has_put ?_ _ _ | refine AH.has_mark ?_ | (refine AH.has_new1 ?_ ?_; (first | omega | (simp only [AH.add_n, AH.put_n, AH.mark_n, zcq, AH.back_n] <;> omega))) | refine AH.has_add ?_ _ ?_ | (apply AH.has_of; assumption)))) only [AH.get_add_old, AH.get_put_other, e.get, q2]
    simp (maxSteps := 1000000) (disch := first | decide | assumption | omega | (simp only [AH.add_n, AH.put_n, AH.mark_n, zcq, AH.back_n] <;> omega) | (repeat (first | assumption | exact zca.eq_1 _ | (refine zfc ?_ ?_; (first | omega | (simp only [AH.add_n, AH.put_n, AH.mark_n, zcq, AH.back_n] <;> omega))) | refine AH.ok.add ?_ _ | refine AH.ok.mark ?_ | (refine AH.ok_put1 ?_ ?_; (first | omega | (simp only [AH.add_n, AH.put_n, AH.mark_n, zcq, AH.back_n] <;> omega))) | refine AH.has_put ?_ _ _ | refine AH.has_mark ?_ | (refine AH.has_new1 ?_ ?_; (first | omega | (simp only [AH.add_n, AH.put_n, AH.mark_n, zcq, AH.back_n] <;> omega))) | refine AH.has_add ?_ _ ?_ | (apply AH.has_of; assumption)))) only [zdl, zcg, zdz, zaf, qbx, zcb, zfa, qcl, zfb, zey, qav, qco, qdf, qdi, zax, zbp, qaf, zae, qcx, qay, zbd, qaq, qac, zdg, zal, zag, qag, AH.get_put_other, AH.put_same, List.length_cons, List.length_nil, Option.bind_some, Option.map_some, qec, qbe, qae, qeg, Nat.zero_add, true_and, r1, r2]
    refine ⟨⟨fs, rfl, ?_⟩, (x'.put _ (by omega) (by omega)).put _ (by omega) (by simp only [AH.put_n]; omega)⟩
    simp only [AH.add_n, AH.put_n] at sf
    exact ((sf.put (by omega) _).put (by omega) _).le (by omega)
  · simp (maxSteps := 1000000) (disch := first | decide | assumption | omega | (simp only [AH.add_n, AH.put_n, AH.mark_n, zcq, AH.back_n] <;> omega) | (repeat (first | assumption | exact zca.eq_1 _ | (refine zfc ?_ ?_; (first | omega | (simp only [AH.add_n, AH.put_n, AH.mark_n, zcq, AH.back_n] <;> omega))) | refine AH.ok.add ?_ _ | refine AH.ok.mark ?_ | (refine AH.ok_put1 ?_ ?_; (first | omega | (simp only [AH.add_n, AH.put_n, AH.mark_n, zcq, AH.back_n] <;> omega))) | refine AH.has_put ?_ _ _ | refine AH.has_mark ?_ | (refine AH.has_new1 ?_ ?_; (first | omega | (simp only [AH.add_n, AH.put_n, AH.mark_n, zcq, AH.back_n] <;> omega))) | refine AH.has_add ?_ _ ?_ | (apply AH.has_of; assumption)))) only [qdb, qdv, zdx, zcp, zdl, zcg, zdz, qch, zef, zaw, qah, zaf, qbh, qbx, zcb, zfa, qey, zbe, zde, zdc, qds, zdo, qdr, zev, zcd, Bool.or_true, Bool.or_false, cond_true, cond_false, zcy, zei, qcl, zez, zer, zfb, qfa, qdj, zbg, zey, qfb, qav, qco, zdn, qdf, qdi, zax, if_false, zbp, qaf, zae, qcx, qay, zbd, qcb, qaq, qac, zdg, zal, zag, qag, AH.get_new, AH.get_add_old, AH.get_put_other, AH.put_same, AH.mark_get, AH.get_loose, qal, qab, List.append_nil, List.length_cons, List.length_nil, Option.bind_some, Option.map_some, qeo, decide_false, Bool.not_false, qec, qbe, qae, qeg, Nat.zero_add, Nat.add_zero, true_and, AH.add_n, AH.put_n, AH.mark_n, pr, c, q1, q2]
    refine (((((xH.add _).put _ (by omega) (by simp only [AH.add_n]; omega)).mark.put _ (by omega) (by simp only [AH.mark_n, AH.put_n, AH.add_n]; omega)).mark).put _ (by omega) (by simp only [AH.mark_n, AH.put_n, AH.add_n]; omega))
end Go.AM.Zd
end
section
/- The program's test of a drawing. Conditions: lists no longer than 2^43; coordinates are int64. -/
namespace Go.AM.Zd
set_option maxHeartbeats 16000000
variable {F : Tr AFunc} {orc : Orc}
instance (p : Pt) : Decidable (InP p) := by unfold InP In; infer_instance
def In64 (a : Int) : Prop := -9223372036854775808 ≤ a ∧ a ≤ 9223372036854775807
def rngAt : List Pt → Nat → Int × Int
  | [], _ => (0, 0)
  | p :: r, i => if InP p then rngAt r (i + 1) else (3, i)
theorem rng_step {P : List Pt} {i : Nat} (h : i < P.length) : rngAt (P.drop i) i = if InP P[i] then rngAt (P.drop (i + 1)) (i + 1) else (3, (i : Int)) := by
  rw [List.drop_eq_getElem_cons h, rngAt]
theorem rng_end {P : List Pt} : rngAt (P.drop P.length) P.length = (0, 0) := by simp [rngAt]
theorem rng_in : ∀ {P : List Pt} {i : Nat}, rngAt P i = (0, 0) → ∀ p ∈ P, InP p
  | [], _, _, p, hp => by cases hp
  | q :: r, i, h, p, hp => by
    rw [rngAt] at h
    by_cases c : InP q
    · rw [if_pos c] at h
      rcases List.mem_cons.mp hp with rfl | hp
      · exact c
      · exact rng_in h p hp
    · rw [if_neg c] at h; cases h
/-- What is wrong with a drawing that is to be tested. -/
def fClear (N : Int) (E : List (Int × Int)) (P : List Pt) : Int × Int := if (chk N E).1 ≠ 0 then chk N E else if (P.length : Int) ≠ N then (6, 0) else rngAt P 0
def pt (P : List Pt) (x : Int) : Pt := P.getD x.toNat (0, 0)
def apartE (e d : Int × Int) : Bool := decide (e.1 ≠ d.1) && decide (e.1 ≠ d.2) && decide (e.2 ≠ d.1) && decide (e.2 ≠ d.2)
/-- An edge is clear of all nodes but its own, and of the edges ahead of it. -/
def goodV (P : List Pt) (e : Int × Int) (n : Nat) : Prop := ∀ v, v < n → (v : Int) ≠ e.1 → (v : Int) ≠ e.2 → onB (pt P e.1) (pt P e.2) (pt P v) = false
def goodE (P : List Pt) (e : Int × Int) (l : List (Int × Int)) : Prop := ∀ d ∈ l, apartE e d = true → meetB (pt P e.1) (pt P e.2) (pt P d.1) (pt P d.2) = false
def apartP (P : List Pt) (n : Nat) : Prop := ∀ i, i < n → pt P i ∉ P.take i
def ClearP (L : List (Int × Int)) (P : List Pt) : Prop := apartP P P.length ∧ ∀ i (h : i < L.length), goodV P L[i] P.length ∧ goodE P L[i] (L.take i)
theorem chkGo_ok {N : Int} : ∀ {r pre : List (Int × Int)} {i : Nat}, (chkGo N pre r i).1 = 0 → ∀ e ∈ r, 0 ≤ e.1 ∧ 0 ≤ e.2 ∧ e.1 < N ∧ e.2 < N ∧ e.1 ≠ e.2
  | [], _, _, _, e, he => by cases he
  | d :: r, pre, i, h, e, he => by
    rw [chkGo] at h
    by_cases c : fc N pre d = 0
    · rw [if_pos c] at h
      rcases List.mem_cons.mp he with rfl | he
      · unfold fc at c
        split at c
        · cases c
        · split at c
          · cases c
          · omega
      · exact chkGo_ok h e he
    · rw [if_neg c] at h; exact absurd h c
theorem chk_ok {N : Int} {E : List (Int × Int)} (h : (chk N E).1 = 0) : 0 ≤ N ∧ N ≤ 100 ∧ E.length ≤ 1000 ∧ ∀ e ∈ E, 0 ≤ e.1 ∧ 0 ≤ e.2 ∧ e.1 < N ∧ e.2 < N ∧ e.1 ≠ e.2 := by
  unfold chk at h
  by_cases c : N < 0 ∨ 100 < N ∨ 1000 < E.length
  · rw [if_pos c] at h; cases h
  · rw [if_neg c] at h
    exact ⟨by omega, by omega, by omega, chkGo_ok h⟩
theorem form_perm (E : List (Int × Int)) : (form E).Perm (E.map nm) := List.mergeSort_perm _ _
theorem form_ok {N : Int} {E : List (Int × Int)} (h : (chk N E).1 = 0) : ∀ e ∈ form E, 0 ≤ e.1 ∧ e.1 < e.2 ∧ e.2 < N := by
  intro e he
  obtain ⟨d, hd, rfl⟩ := List.mem_map.mp ((form_perm E).mem_iff.mp he)
  have := (chk_ok h).2.2.2 d hd
  simp only [nm]; omega
theorem pairI {h : AH} (ok : h.ok) {v : AV} {P : List Pt} (s : SlAt h 2 v (P.map pr)) {x : Int} (h0 : 0 ≤ x) (h1 : x < P.length) :
    ∃ id off, aIdxa 2 v (.i .i64 x) = some (.ptr id off) ∧ loadO (h.get id) 2 off = some [.i .i64 (pt P x).1, .i .i64 (pt P x).2] ∧ id < h.n := by
  obtain ⟨id, off, e1, e2, _, _, e5⟩ := s.pair ok (k := x.toNat) (by omega)
  have hx : ((x.toNat : Nat) : Int) = x := by omega
  rw [hx] at e1
  have hp : pt P x = P[x.toNat]'(by omega) := by unfold pt; rw [List.getD_eq_getElem?_getD, List.getElem?_eq_getElem (by omega)]; rfl
  exact ⟨id, off, e1, by rw [hp]; exact e2, e5⟩
theorem pt_in {P : List Pt} (hP : ∀ p ∈ P, InP p) {x : Int} (h0 : 0 ≤ x) (h1 : x < P.length) : InP (pt P x) := by
  have hp : pt P x = P[x.toNat]'(by omega) := by unfold pt; rw [List.getD_eq_getElem?_getD, List.getElem?_eq_getElem (by omega)]; rfl
  rw [hp]; exact hP _ (List.getElem_mem _)
theorem pt_nat {P : List Pt} {k : Nat} (h : k < P.length) : pt P (k : Int) = P[k] := by
  unfold pt; rw [List.getD_eq_getElem?_getD, Int.toNat_natCast, List.getElem?_eq_getElem h]; rfl
/-- What stays as it is all through the test. -/
structure Cb (h : AH) (ps fs : AV) (N : Int) (L : List (Int × Int)) (P : List Pt) (a : Nat) (t : Tmps) (hh : AH) : Prop where
  t1 : tget t s001 = ps
  t5 : tget t s005 = .ptr (h.n + 1) 0
  t6 : tget t s006 = .ptr a 0
  t7 : tget t s007 = .ptr (a + 1) 0
  e : Ext h hh
  ok : hh.ok
  g5 : hh.get (h.n + 1) = some (.cells true [.i .i64 0, .i .i64 0])
  g6 : hh.get a = some (.cells true [.i .i64 N, fs])
  g7 : hh.get (a + 1) = some (.cells true [.i .i64 0, .i .i64 0])
  sf : SlAt hh 2 fs (L.map pr)
  sp : SlAt hh 2 ps (P.map pr)
  la : h.n + 1 < a
theorem Cb.step {h : AH} {ps fs : AV} {N : Int} {L : List (Int × Int)} {P : List Pt} {a : Nat} {t t' : Tmps} {hh h' : AH} (c : Cb h ps fs N L P a t hh) (e : Ext hh h') (t1 : tget t' s001 = tget t s001) (t5 : tget t' s005 = tget t s005) (t6 : tget t' s006 = tget t s006) (t7 : tget t' s007 = tget t s007) : Cb h ps fs N L P a t' h' :=
  ⟨t1.trans c.t1, t5.trans c.t5, t6.trans c.t6, t7.trans c.t7, c.e.trans e, e.ok c.ok, e.get_some c.ok c.g5, e.get_some c.ok c.g6, e.get_some c.ok c.g7, c.sf.ext c.ok e, c.sp.ext c.ok e, c.la⟩
/-- .. and all through the round of an edge. -/
structure Ce (h : AH) (ps fs : AV) (N : Int) (L : List (Int × Int)) (P : List Pt) (a i n0 : Nat) (e : Int × Int) (t : Tmps) (hh : AH) : Prop where
  c : Cb h ps fs N L P a t hh
  t27 : tget t s127 = fs
  t30 : tget t s130 = .i .i64 L.length
  t31 : tget t s131 = .i .i64 i
  t14 : tget t s014 = .i .i64 i
  t15 : tget t s015 = .ptr n0 0
  t16 : tget t s016 = .ptr (n0 + 1) 0
  t17 : tget t s017 = .ptr (n0 + 1 + 1) 0
  g15 : hh.get n0 = some (.cells true [.i .i64 e.1, .i .i64 e.2])
  g16 : hh.get (n0 + 1) = some (.cells true [.i .i64 (pt P e.1).1, .i .i64 (pt P e.1).2])
  g17 : hh.get (n0 + 1 + 1) = some (.cells true [.i .i64 (pt P e.2).1, .i .i64 (pt P e.2).2])
theorem Ce.step {h : AH} {ps fs : AV} {N : Int} {L : List (Int × Int)} {P : List Pt} {a i n0 : Nat} {e : Int × Int} {t t' : Tmps} {hh h' : AH} (c : Ce h ps fs N L P a i n0 e t hh) (x : Ext hh h') (t1 : tget t' s001 = tget t s001) (t5 : tget t' s005 = tget t s005) (t6 : tget t' s006 = tget t s006) (t7 : tget t' s007 = tget t s007)
    (t27 : tget t' s127 = tget t s127) (t30 : tget t' s130 = tget t s130) (t31 : tget t' s131 = tget t s131) (t14 : tget t' s014 = tget t s014) (t15 : tget t' s015 = tget t s015) (t16 : tget t' s016 = tget t s016) (t17 : tget t' s017 = tget t s017) : Ce h ps fs N L P a i n0 e t' h' :=
  ⟨c.c.step x t1 t5 t6 t7, t27.trans c.t27, t30.trans c.t30, t31.trans c.t31, t14.trans c.t14, t15.trans c.t15, t16.trans c.t16, t17.trans c.t17, x.get_some c.c.ok c.g15, x.get_some c.c.ok c.g16, x.get_some c.c.ok c.g17⟩
theorem Ext.put1 {h h' : AH} {i : Nat} {o : AO} (h1 : h.n ≤ i) (h2 : i < h'.n) (e : Ext h h') : Ext h (h'.put i o) := e.put o h1 h2
theorem ext_loc (hh : AH) (x y : AO) : Ext hh ((hh.add x).put hh.n y) := ((Ext.refl hh).add _).put _ (Nat.le_refl _) (Nat.lt_succ_self _)
end Go.AM.Zd
end
section
/- The program's test of a drawing, walked. Conditions: lists no longer than 2^43; coordinates are int64. -/
namespace Go.AM.Zd
set_option maxHeartbeats 32000000
variable {F : Tr AFunc} {orc : Orc}
theorem Clear_spec (B : TB F orc) (hs : orc 48 = some (orcSort 49 cfO)) (N : Int) (E : List (Int × Int)) (es : AV) (P : List Pt) (ps : AV) (h : AH) (ok : h.ok) (s : SlAt h 2 es (E.map pr)) (sp : SlAt h 2 ps (P.map pr)) (hE : E.length ≤ 8796093022207) (hP : P.length ≤ 8796093022207) (h64 : ∀ p ∈ P, In64 p.1 ∧ In64 p.2) :
    WF F orc 17 [.agg [.i .i64 N, es], ps] h (fun v h' => (∃ b, v = .tup [.b b, .agg (pr (fClear N E P))] ∧ ((fClear N E P).1 ≠ 0 → b = false) ∧ ((fClear N E P).1 = 0 → (b = true ↔ ClearP (form E) P))) ∧ Ext h h') := by
  refine WF.enter B.o17 B.f17 rfl ?_
  have hlp := sp.len
  rw [List.length_map] at hlp
  have fl : AV.flat es = [es] := s.flat
  have flp : AV.flat ps = [ps] := sp.flat
  have ex : ∀ x y, Ext h ((h.add x).add y) := fun x y => ((Ext.refl h).add _).add _
  simp (maxSteps := 1000000) (disch := first | decide | assumption | omega | (simp only [AH.add_n, AH.put_n, AH.mark_n, zcq, AH.back_n] <;> omega) | (repeat (first | assumption | exact zca.eq_1 _ | (refine zfc ?_ ?_; (first | omega | (simp only [AH.add_n, AH.put_n, AH.mark_n, zcq, AH.back_n] <;> omega))) | refine AH.ok.add ?_ _ | refine AH.ok.mark ?_ | (refine AH.ok_put1 ?_ ?_; (first | omega | (simp only [AH.add_n, AH.put_n, AH.mark_n, zcq, AH.back_n] <;> omega))) | refine AH.has_put ?_ _ _ | refine AH.has_mark ?_ | (refine AH.has_new1 ?_ ?_; (first | omega | (simp only [AH.add_n, AH.put_n, AH.mark_n, zcq, AH.back_n] <;> omega))) | refine AH.has_add ?_ _ ?_ | (apply AH.has_of; assumption)))) only [qdv, zdx, zcg, zdz, zaf, qbx, zfa, qez, zei, zeo, zer, zey, qfb, qcg, zbi, qav, qco, zdn, qdf, zbp, zbd, qaq, qac, zdg, zal, zag, qag, AH.get_new, AH.get_add_old, List.length_cons, List.length_nil, Option.bind_some, Option.map_some, qer, Nat.zero_add, zbn, true_and, AH.add_n, g17]
  refine (Form_spec B hs N E es _ ((ex _ _).ok ok) (s.ext ok (ex _ _)) hE).mono ?_
  rintro v H ⟨hv, eH⟩
  have xH := (ex _ _).trans eH
  have kH := xH.ok ok
  have nH := eH.n
  simp only [AH.add_n] at nH
  have q0 : H.get h.n = some (.cells true [.i .i64 N, es]) := by simp (maxSteps := 1000000) (disch := first | decide | assumption | omega | (simp only [AH.add_n, AH.put_n, AH.mark_n, zcq, AH.back_n] <;> omega) | (repeat (first | assumption | exact zca.eq_1 _ | (refine zfc ?_ ?_; (first | omega | (simp only [AH.add_n, AH.put_n, AH.mark_n, zcq, AH.back_n] <;> omega))) | refine AH.ok.add ?_ _ | refine AH.ok.mark ?_ | (refine AH.ok_put1 ?_ ?_; (first | omega | (simp only [AH.add_n, AH.put_n, AH.mark_n, zcq, AH.back_n] <;> omega))) | refine AH.has_put ?_ _ _ | refine AH.has_mark ?_ | (refine AH.has_new1 ?_ ?_; (first | omega | (simp only [AH.add_n, AH.put_n, AH.mark_n, zcq, AH.back_n] <;> omega))) | refine AH.has_add ?_ _ ?_ | (apply AH.has_of; assumption)))) only [AH.get_new, AH.get_add_old, eH.get]
  have q1 : H.get (h.n + 1) = some (.cells true [.i .i64 0, .i .i64 0]) := by simp (maxSteps := 1000000) (disch := first | decide | assumption | omega | (simp only [AH.add_n, AH.put_n, AH.mark_n, zcq, AH.back_n] <;> omega) | (repeat (first | assumption | exact zca.eq_1 _ | (refine zfc ?_ ?_; (first | omega | (simp only [AH.add_n, AH.put_n, AH.mark_n, zcq, AH.back_n] <;> omega))) | refine AH.ok.add ?_ _ | refine AH.ok.mark ?_ | (refine AH.ok_put1 ?_ ?_; (first | omega | (simp only [AH.add_n, AH.put_n, AH.mark_n, zcq, AH.back_n] <;> omega))) | refine AH.has_put ?_ _ _ | refine AH.has_mark ?_ | (refine AH.has_new1 ?_ ?_; (first | omega | (simp only [AH.add_n, AH.put_n, AH.mark_n, zcq, AH.back_n] <;> omega))) | refine AH.has_add ?_ _ ?_ | (apply AH.has_of; assumption)))) only [AH.get_new, eH.get]
  by_cases c : (chk N E).1 = 0
  rotate_left
  · rw [if_neg c] at hv
    subst hv
    have hf : fClear N E P = chk N E := by unfold fClear; rw [if_pos c]
    rw [hf]
    simp (maxSteps := 1000000) (disch := first | decide | assumption | omega | (simp only [AH.add_n, AH.put_n, AH.mark_n, zcq, AH.back_n] <;> omega) | (repeat (first | assumption | exact zca.eq_1 _ | (refine zfc ?_ ?_; (first | omega | (simp only [AH.add_n, AH.put_n, AH.mark_n, zcq, AH.back_n] <;> omega))) | refine AH.ok.add ?_ _ | refine AH.ok.mark ?_ | (refine AH.ok_put1 ?_ ?_; (first | omega | (simp only [AH.add_n, AH.put_n, AH.mark_n, zcq, AH.back_n] <;> omega))) | refine AH.has_put ?_ _ _ | refine AH.has_mark ?_ | (refine AH.has_new1 ?_ ?_; (first | omega | (simp only [AH.add_n, AH.put_n, AH.mark_n, zcq, AH.back_n] <;> omega))) | refine AH.has_add ?_ _ ?_ | (apply AH.has_of; assumption)))) only [qdb, qdv, zdx, zcp, zdl, zcg, zdz, qch, zef, zaw, zaf, qbh, qbx, zcb, zfa, qdm, zde, zdo, Bool.or_true, Bool.or_false, cond_true, qez, zcy, zei, zez, zer, zfb, qfa, qdj, zbg, qev, zbx, zey, qfb, qav, qco, zdn, qdf, qdi, zbp, qaf, zae, qcx, qay, zbd, qcb, qaq, qac, zdg, zal, zag, qag, AH.get_new, AH.get_add_old, AH.get_put_other, AH.put_same, List.length_cons, List.length_nil, Option.bind_some, Option.map_some, List.getElem?_cons_zero, List.getElem?_cons_succ, qeo, decide_false, Bool.not_false, qec, qbe, qdd, qae, qeg, Nat.zero_add, Nat.add_zero, true_and, AH.add_n, pr, c, q1]
    refine ⟨⟨false, rfl, fun _ => rfl, fun h => h.elim⟩, ?_⟩
    exact ((((xH.add _).add _).put _ (by omega) (by simp only [AH.add_n]; omega)).put _ (by omega) (by simp only [AH.put_n, AH.add_n]; omega)).put _ (by omega) (by simp only [AH.put_n, AH.add_n]; omega)
  rw [if_pos c] at hv
  obtain ⟨fs, rfl, of⟩ := hv
  simp only [AH.add_n] at of
  have ff : AV.flat fs = [fs] := of.flat
  have xH2 : ∀ x y z u, Ext h ((((H.add x).add y).put H.n z).put (H.n + 1) u) := fun x y z u => (((xH.add _).add _).put _ (by omega) (by simp only [AH.add_n]; omega)).put _ (by omega) (by simp only [AH.put_n, AH.add_n]; omega)
  have xH3 : ∀ x y z u, Ext H ((((H.add x).add y).put H.n z).put (H.n + 1) u) := fun x y z u => ((((Ext.refl H).add _).add _).put _ (by omega) (by simp only [AH.add_n]; omega)).put _ (by omega) (by simp only [AH.put_n, AH.add_n]; omega)
  by_cases cN : (P.length : Int) = N
  rotate_left
  · have hf : fClear N E P = (6, 0) := by unfold fClear; rw [if_neg (by simpa using c), if_pos (by simpa using cN)]
    rw [hf]
    simp (maxSteps := 1000000) (disch := first | decide | assumption | omega | (simp only [AH.add_n, AH.put_n, AH.mark_n, zcq, AH.back_n] <;> omega) | (repeat (first | assumption | exact zca.eq_1 _ | (refine zfc ?_ ?_; (first | omega | (simp only [AH.add_n, AH.put_n, AH.mark_n, zcq, AH.back_n] <;> omega))) | refine AH.ok.add ?_ _ | refine AH.ok.mark ?_ | (refine AH.ok_put1 ?_ ?_; (first | omega | (simp only [AH.add_n, AH.put_n, AH.mark_n, zcq, AH.back_n] <;> omega))) | refine AH.has_put ?_ _ _ | refine AH.has_mark ?_ | (refine AH.has_new1 ?_ ?_; (first | omega | (simp only [AH.add_n, AH.put_n, AH.mark_n, zcq, AH.back_n] <;> omega))) | refine AH.has_add ?_ _ ?_ | (apply AH.has_of; assumption)))) only [qdb, qdv, zdx, qcs, zcg, zdz, zaf, qbx, zcb, zfa, cond_true, qez, zcy, zcj, zei, zez, zfb, qfa, qdj, zbg, qev, zbx, qeh, zey, qfb, qcg, zbi, qav, qco, zdn, qdf, qdi, zbp, qaf, zae, qcx, qay, zbd, qcb, qaq, qac, zdg, zal, zag, qag, AH.get_new, AH.get_add_old, AH.get_put_other, AH.put_same, List.length_cons, List.length_nil, Option.bind_some, Option.map_some, List.getElem?_cons_zero, List.getElem?_cons_succ, qeo, decide_true, decide_false, Bool.not_true, Bool.not_false, Nat.zero_add, Nat.add_zero, zbn, true_and, AH.add_n, pr, q0, hlp, cN]
    refine WF.val (fault19_spec B _ _ _ ((xH2 _ _ _ _).ok ok)) fun G eG => ?_
    have nG := eG.n
    simp only [AH.add_n, AH.put_n] at nG
    have r1 : G.get (h.n + 1) = some (.cells true [.i .i64 0, .i .i64 0]) := by simp (maxSteps := 1000000) (disch := first | decide | assumption | omega | (simp only [AH.add_n, AH.put_n, AH.mark_n, zcq, AH.back_n] <;> omega) | (repeat (first | assumption | exact zca.eq_1 _ | (refine zfc ?_ ?_; (first | omega | (simp only [AH.add_n, AH.put_n, AH.mark_n, zcq, AH.back_n] <;> omega))) | refine AH.ok.add ?_ _ | refine AH.ok.mark ?_ | (refine AH.ok_put1 ?_ ?_; (first | omega | (simp only [AH.add_n, AH.put_n, AH.mark_n, zcq, AH.back_n] <;> omega))) | refine AH.has_put ?_ _ _ | refine AH.has_mark ?_ | (refine AH.has_new1 ?_ ?_; (first | omega | (simp only [AH.add_n, AH.put_n, AH.mark_n, zcq, AH.back_n] <;> omega))) | refine AH.has_add ?_ _ ?_ | (apply AH.has_of; assumption)))) only [AH.get_add_old, AH.get_put_other, eG.get, q1]
    simp (maxSteps := 1000000) (disch := first | decide | assumption | omega | (simp only [AH.add_n, AH.put_n, AH.mark_n, zcq, AH.back_n] <;> omega) | (repeat (first | assumption | exact zca.eq_1 _ | (refine zfc ?_ ?_; (first | omega | (simp only [AH.add_n, AH.put_n, AH.mark_n, zcq, AH.back_n] <;> omega))) | refine AH.ok.add ?_ _ | refine AH.ok.mark ?_ | (refine AH.ok_put1 ?_ ?_; (first | omega | (simp only [AH.add_n, AH.put_n, AH.mark_n, zcq, AH.back_n] <;> omega))) | refine AH.has_put ?_ _ _ | refine AH.has_mark ?_ | (refine AH.has_new1 ?_ ?_; (first | omega | (simp only [AH.add_n, AH.put_n, AH.mark_n, zcq, AH.back_n] <;> omega))) | refine AH.has_add ?_ _ ?_ | (apply AH.has_of; assumption)))) only [zdl, zcg, zdz, zaf, qbh, qbx, zcb, zfa, qez, zfb, zey, qfb, qav, qco, qdf, qdi, zbp, qaf, zae, qcx, qay, zbd, qaq, qac, zdg, zal, zag, qag, AH.put_same, List.length_cons, List.length_nil, Option.bind_some, Option.map_some, qec, qbe, qdd, qae, qeg, Nat.zero_add, true_and, r1]
    refine ⟨⟨false, rfl, fun _ => rfl, fun h => by cases h⟩, ?_⟩
    exact ((xH2 _ _ _ _).trans eG).put _ (by omega) (by omega)
  have hf0 : fClear N E P = rngAt P 0 := by unfold fClear; rw [if_neg (by simpa using c), if_neg (by simpa using cN)]
  simp (maxSteps := 1000000) (disch := first | decide | assumption | omega | (simp only [AH.add_n, AH.put_n, AH.mark_n, zcq, AH.back_n] <;> omega) | (repeat (first | assumption | exact zca.eq_1 _ | (refine zfc ?_ ?_; (first | omega | (simp only [AH.add_n, AH.put_n, AH.mark_n, zcq, AH.back_n] <;> omega))) | refine AH.ok.add ?_ _ | refine AH.ok.mark ?_ | (refine AH.ok_put1 ?_ ?_; (first | omega | (simp only [AH.add_n, AH.put_n, AH.mark_n, zcq, AH.back_n] <;> omega))) | refine AH.has_put ?_ _ _ | refine AH.has_mark ?_ | (refine AH.has_new1 ?_ ?_; (first | omega | (simp only [AH.add_n, AH.put_n, AH.mark_n, zcq, AH.back_n] <;> omega))) | refine AH.has_add ?_ _ ?_ | (apply AH.has_of; assumption)))) only [qdb, qdv, zdx, qcs, zbm, zcg, zdz, zaf, qbx, zcb, zfa, cond_true, qez, zcj, zei, zez, zfb, qfa, qdj, zbg, qev, zbx, qeh, zey, qfb, qav, qco, zdn, qdf, qdi, zbp, qaf, zae, qcx, qay, zbd, qcb, qaq, qac, zdg, zal, zag, qag, AH.get_new, AH.get_add_old, AH.get_put_other, AH.put_same, List.length_cons, List.length_nil, Option.bind_some, Option.map_some, List.getElem?_cons_zero, List.getElem?_cons_succ, qeo, decide_true, Bool.not_true, Nat.zero_add, Nat.add_zero, true_and, AH.add_n, pr, q0, hlp, eq_true cN]
  -- the first loop: is a coordinate too far off?
  refine WC.up P.length (fun i t hh => Cb h ps fs N (form E) P H.n t hh ∧ tget t s044 = ps ∧ tget t s045 = .i .i64 P.length ∧ tget t s046 = .i .i64 i ∧ fClear N E P = rngAt (P.drop i) i) ?_ 0 _ _ (Nat.zero_le _) ?_
  rotate_left
  · simp (maxSteps := 1000000) (disch := first | decide | assumption | omega | (simp only [AH.add_n, AH.put_n, AH.mark_n, zcq, AH.back_n] <;> omega) | (repeat (first | assumption | exact zca.eq_1 _ | (refine zfc ?_ ?_; (first | omega | (simp only [AH.add_n, AH.put_n, AH.mark_n, zcq, AH.back_n] <;> omega))) | refine AH.ok.add ?_ _ | refine AH.ok.mark ?_ | (refine AH.ok_put1 ?_ ?_; (first | omega | (simp only [AH.add_n, AH.put_n, AH.mark_n, zcq, AH.back_n] <;> omega))) | refine AH.has_put ?_ _ _ | refine AH.has_mark ?_ | (refine AH.has_new1 ?_ ?_; (first | omega | (simp only [AH.add_n, AH.put_n, AH.mark_n, zcq, AH.back_n] <;> omega))) | refine AH.has_add ?_ _ ?_ | (apply AH.has_of; assumption)))) only [Int.natCast_zero, qav, qco, true_and]
    refine ⟨⟨by simp (disch := decide) only [qav, qco], by simp (disch := decide) only [qav, qco], by simp (disch := decide) only [qav, qco], by simp (disch := decide) only [qav, qco], xH2 _ _ _ _, (xH2 _ _ _ _).ok ok, by simp (maxSteps := 1000000) (disch := first | decide | assumption | omega | (simp only [AH.add_n, AH.put_n, AH.mark_n, zcq, AH.back_n] <;> omega) | (repeat (first | assumption | exact zca.eq_1 _ | (refine zfc ?_ ?_; (first | omega | (simp only [AH.add_n, AH.put_n, AH.mark_n, zcq, AH.back_n] <;> omega))) | refine AH.ok.add ?_ _ | refine AH.ok.mark ?_ | (refine AH.ok_put1 ?_ ?_; (first | omega | (simp only [AH.add_n, AH.put_n, AH.mark_n, zcq, AH.back_n] <;> omega))) | refine AH.has_put ?_ _ _ | refine AH.has_mark ?_ | (refine AH.has_new1 ?_ ?_; (first | omega | (simp only [AH.add_n, AH.put_n, AH.mark_n, zcq, AH.back_n] <;> omega))) | refine AH.has_add ?_ _ ?_ | (apply AH.has_of; assumption)))) only [AH.get_add_old, AH.get_put_other, q1], by simp (maxSteps := 1000000) (disch := first | decide | assumption | omega | (simp only [AH.add_n, AH.put_n, AH.mark_n, zcq, AH.back_n] <;> omega) | (repeat (first | assumption | exact zca.eq_1 _ | (refine zfc ?_ ?_; (first | omega | (simp only [AH.add_n, AH.put_n, AH.mark_n, zcq, AH.back_n] <;> omega))) | refine AH.ok.add ?_ _ | refine AH.ok.mark ?_ | (refine AH.ok_put1 ?_ ?_; (first | omega | (simp only [AH.add_n, AH.put_n, AH.mark_n, zcq, AH.back_n] <;> omega))) | refine AH.has_put ?_ _ _ | refine AH.has_mark ?_ | (refine AH.has_new1 ?_ ?_; (first | omega | (simp only [AH.add_n, AH.put_n, AH.mark_n, zcq, AH.back_n] <;> omega))) | refine AH.has_add ?_ _ ?_ | (apply AH.has_of; assumption)))) only [AH.get_put_other, AH.put_same], by simp (maxSteps := 1000000) (disch := first | decide | assumption | omega | (simp only [AH.add_n, AH.put_n, AH.mark_n, zcq, AH.back_n] <;> omega) | (repeat (first | assumption | exact zca.eq_1 _ | (refine zfc ?_ ?_; (first | omega | (simp only [AH.add_n, AH.put_n, AH.mark_n, zcq, AH.back_n] <;> omega))) | refine AH.ok.add ?_ _ | refine AH.ok.mark ?_ | (refine AH.ok_put1 ?_ ?_; (first | omega | (simp only [AH.add_n, AH.put_n, AH.mark_n, zcq, AH.back_n] <;> omega))) | refine AH.has_put ?_ _ _ | refine AH.has_mark ?_ | (refine AH.has_new1 ?_ ?_; (first | omega | (simp only [AH.add_n, AH.put_n, AH.mark_n, zcq, AH.back_n] <;> omega))) | refine AH.has_add ?_ _ ?_ | (apply AH.has_of; assumption)))) only [AH.put_same], of.sl.ext kH (xH3 _ _ _ _), sp.ext ok (xH2 _ _ _ _), by omega⟩, by rw [hf0]; rfl⟩
  intro i t hh hi ⟨C, t44, t45, t46, hr⟩
  have ok' := C.ok
  have l7 := ok'.lt C.g7
  have la := C.la
  by_cases hlt : i < P.length
  · have hlt' : (i : Int) < (P.length : Int) := by omega
    rw [rng_step hlt] at hr
    obtain ⟨id, off, p1, p2, p3, p4, lt⟩ := C.sp.pair ok' hlt
    have h6 := h64 _ (List.getElem_mem hlt)
    have el := ext_loc hh (.cells true [.i .i64 0, .i .i64 0]) (.cells true [.i .i64 P[i].1, .i .i64 P[i].2])
    have w1 : IntKind.i64.wrap (0 - P[i].1) = if P[i].1 = -9223372036854775808 then -9223372036854775808 else -P[i].1 := by
      split
      · rename_i e; rw [e]; decide
      · rw [qby (by have := h6.1; unfold In64 at this; omega)]; omega
    have w2 : IntKind.i64.wrap (0 - P[i].2) = if P[i].2 = -9223372036854775808 then -9223372036854775808 else -P[i].2 := by
      split
      · rename_i e; rw [e]; decide
      · rw [qby (by have := h6.2; unfold In64 at this; omega)]; omega
    have w1' : IntKind.i64.wrap (-P[i].1) = if P[i].1 = -9223372036854775808 then -9223372036854775808 else -P[i].1 := by rw [← w1, Int.zero_sub]
    have w2' : IntKind.i64.wrap (-P[i].2) = if P[i].2 = -9223372036854775808 then -9223372036854775808 else -P[i].2 := by rw [← w2, Int.zero_sub]
    generalize hx : (if P[i].1 = -9223372036854775808 then (-9223372036854775808 : Int) else -P[i].1) = nx at w1'
    generalize hy : (if P[i].2 = -9223372036854775808 then (-9223372036854775808 : Int) else -P[i].2) = ny at w2'
    by_cases b : InP P[i]
    · rw [if_pos b] at hr
      have b' := b
      unfold InP In at b'
      rw [if_neg (by omega)] at hx hy
      have c1 : ¬ 1000000 < max P[i].1 nx := by omega
      have c2 : ¬ 1000000 < max P[i].2 ny := by omega
      have c3 : ¬ P[i].1 = -9223372036854775808 := by omega
      have c4 : ¬ P[i].2 = -9223372036854775808 := by omega
      simp (maxSteps := 1000000) (disch := first | decide | assumption | omega | (simp only [AH.add_n, AH.put_n, AH.mark_n, zcq, AH.back_n] <;> omega) | (repeat (first | assumption | exact zca.eq_1 _ | (refine zfc ?_ ?_; (first | omega | (simp only [AH.add_n, AH.put_n, AH.mark_n, zcq, AH.back_n] <;> omega))) | refine AH.ok.add ?_ _ | refine AH.ok.mark ?_ | (refine AH.ok_put1 ?_ ?_; (first | omega | (simp only [AH.add_n, AH.put_n, AH.mark_n, zcq, AH.back_n] <;> omega))) | refine AH.has_put ?_ _ _ | refine AH.has_mark ?_ | (refine AH.has_new1 ?_ ?_; (first | omega | (simp only [AH.add_n, AH.put_n, AH.mark_n, zcq, AH.back_n] <;> omega))) | refine AH.has_add ?_ _ ?_ | (apply AH.has_of; assumption)))) only [qdb, qdv, zdx, qcs, zbm, zcg, zdz, zbt, qaw, zaf, qaa, qak, qau, qbx, zcb, zfa, cond_false, qez, qea, zcy, zcj, zei, zez, zer, zfb, zeh, qfa, zex, zdm, qdj, zbg, qee, qew, qax, qcn, zey, qfb, qcg, zbi, qav, qco, zdn, qdf, qdi, zbp, qaf, zae, qcx, qay, zbd, qcb, qaq, qac, zdg, zal, zan, zag, qag, AH.get_new, AH.put_same, List.length_cons, List.length_nil, Option.bind_some, Option.map_some, qeq, zes, qek, qeo, decide_true, decide_false, qby, Nat.zero_add, Nat.add_zero, Int.zero_sub, true_and, t44, t45, t46, hlt, hlt', p1, p2, w1', w2', c1, c2, c3, c4]
      exact ⟨C.step el (by simp (disch := decide) only [qco]) (by simp (disch := decide) only [qco]) (by simp (disch := decide) only [qco]) (by simp (disch := decide) only [qco]), hr⟩
    · rw [if_neg b] at hr
      have b' := b
      unfold InP In at b'
      have fin : ∀ (x y : AO) (Q : AV → AH → Prop), (∀ G, Ext h G → h.n + 1 < G.n → G.get (h.n + 1) = some (.cells true [.i .i64 0, .i .i64 0]) → Q (.agg [.i .i64 3, .i .i64 i]) G) → WF F orc 19 [.i .i64 3, .i .i64 i] ((hh.add x).put hh.n y) Q := fun x y Q k =>
        WF.val (fault19_spec B _ _ _ ((ext_loc hh x y).ok ok')) fun G eG => k G ((C.e.trans (ext_loc hh x y)).trans eG) (by have := eG.n; simp only [AH.add_n, AH.put_n] at this; omega) (eG.get_some ((ext_loc hh x y).ok ok') ((ext_loc hh x y).get_some ok' C.g5))
      have done : ∀ G : AH, Ext h G → h.n + 1 < G.n → (∃ b, AV.tup [.b false, .agg [.i .i64 3, .i .i64 i]] = AV.tup [.b b, .agg [.i .i64 (fClear N E P).1, .i .i64 (fClear N E P).2]] ∧ (¬ (fClear N E P).1 = 0 → b = false) ∧ ((fClear N E P).1 = 0 → (b = true ↔ ClearP (form E) P))) ∧ Ext h (G.put (h.n + 1) (.cells true [.i .i64 3, .i .i64 i])) := fun G e1 e2 =>
        ⟨⟨false, by rw [hr], fun _ => rfl, fun hz => by rw [hr] at hz; cases hz⟩, e1.put _ (by omega) e2⟩
      by_cases c1 : 1000000 < max P[i].1 nx
      · simp (maxSteps := 1000000) (disch := first | decide | assumption | omega | (simp only [AH.add_n, AH.put_n, AH.mark_n, zcq, AH.back_n] <;> omega) | (repeat (first | assumption | exact zca.eq_1 _ | (refine zfc ?_ ?_; (first | omega | (simp only [AH.add_n, AH.put_n, AH.mark_n, zcq, AH.back_n] <;> omega))) | refine AH.ok.add ?_ _ | refine AH.ok.mark ?_ | (refine AH.ok_put1 ?_ ?_; (first | omega | (simp only [AH.add_n, AH.put_n, AH.mark_n, zcq, AH.back_n] <;> omega))) | refine AH.has_put ?_ _ _ | refine AH.has_mark ?_ | (refine AH.has_new1 ?_ ?_; (first | omega | (simp only [AH.add_n, AH.put_n, AH.mark_n, zcq, AH.back_n] <;> omega))) | refine AH.has_add ?_ _ ?_ | (apply AH.has_of; assumption)))) only [qdb, qdv, zdx, qcs, zbm, zcg, zdz, zbt, zav, zaf, qbx, zcb, zfa, qez, qea, zcy, zei, zez, zer, zfb, zeh, zex, zdm, qdj, zbg, qee, qew, qax, qcn, zey, qfb, qcg, zbi, qav, qco, zdn, qdf, qdi, zbp, qaf, zae, qcx, qay, zbd, qcb, qaq, qac, zdg, zal, zag, qag, AH.get_new, AH.put_same, List.length_cons, List.length_nil, Option.bind_some, Option.map_some, zes, qek, decide_true, Nat.zero_add, Nat.add_zero, Int.zero_sub, zbn, true_and, t44, t45, t46, hlt', p1, p2, w1', c1]
        refine fin _ _ _ fun G e1 e2 e3 => ?_
        simp (maxSteps := 1000000) (disch := first | decide | assumption | omega | (simp only [AH.add_n, AH.put_n, AH.mark_n, zcq, AH.back_n] <;> omega) | (repeat (first | assumption | exact zca.eq_1 _ | (refine zfc ?_ ?_; (first | omega | (simp only [AH.add_n, AH.put_n, AH.mark_n, zcq, AH.back_n] <;> omega))) | refine AH.ok.add ?_ _ | refine AH.ok.mark ?_ | (refine AH.ok_put1 ?_ ?_; (first | omega | (simp only [AH.add_n, AH.put_n, AH.mark_n, zcq, AH.back_n] <;> omega))) | refine AH.has_put ?_ _ _ | refine AH.has_mark ?_ | (refine AH.has_new1 ?_ ?_; (first | omega | (simp only [AH.add_n, AH.put_n, AH.mark_n, zcq, AH.back_n] <;> omega))) | refine AH.has_add ?_ _ ?_ | (apply AH.has_of; assumption)))) only [zdl, zcg, zdz, zaf, qbh, qaj, qcf, qbx, zcb, zfa, qez, zfb, zey, qfb, qav, qco, qdf, qdi, zbp, qaf, zae, qcx, qay, zbd, qaq, qac, zdg, zal, zag, qag, AH.put_same, List.length_cons, List.length_nil, Option.bind_some, Option.map_some, qec, qbe, qdd, qae, qeg, Nat.zero_add, true_and, e3, C.t5, ne_eq]
        exact done G e1 e2
      by_cases c2 : 1000000 < max P[i].2 ny
      · simp (maxSteps := 1000000) (disch := first | decide | assumption | omega | (simp only [AH.add_n, AH.put_n, AH.mark_n, zcq, AH.back_n] <;> omega) | (repeat (first | assumption | exact zca.eq_1 _ | (refine zfc ?_ ?_; (first | omega | (simp only [AH.add_n, AH.put_n, AH.mark_n, zcq, AH.back_n] <;> omega))) | refine AH.ok.add ?_ _ | refine AH.ok.mark ?_ | (refine AH.ok_put1 ?_ ?_; (first | omega | (simp only [AH.add_n, AH.put_n, AH.mark_n, zcq, AH.back_n] <;> omega))) | refine AH.has_put ?_ _ _ | refine AH.has_mark ?_ | (refine AH.has_new1 ?_ ?_; (first | omega | (simp only [AH.add_n, AH.put_n, AH.mark_n, zcq, AH.back_n] <;> omega))) | refine AH.has_add ?_ _ ?_ | (apply AH.has_of; assumption)))) only [qdb, qdv, zdx, qcs, zbm, zcg, zdz, zbt, qaw, zav, zaf, qbx, zcb, zfa, qez, qea, zcy, zcj, zei, zez, zer, zfb, zeh, zex, zdm, qdj, zbg, qee, qew, qax, qcn, zey, qfb, qcg, zbi, qav, qco, zdn, qdf, qdi, zbp, qaf, zae, qcx, qay, zbd, qcb, qaq, qac, zdg, zal, zan, zag, qag, AH.get_new, AH.put_same, List.length_cons, List.length_nil, Option.bind_some, Option.map_some, zes, qek, decide_true, decide_false, Nat.zero_add, Nat.add_zero, Int.zero_sub, zbn, true_and, t44, t45, t46, hlt', p1, p2, w1', w2', c1, c2]
        refine fin _ _ _ fun G e1 e2 e3 => ?_
        simp (maxSteps := 1000000) (disch := first | decide | assumption | omega | (simp only [AH.add_n, AH.put_n, AH.mark_n, zcq, AH.back_n] <;> omega) | (repeat (first | assumption | exact zca.eq_1 _ | (refine zfc ?_ ?_; (first | omega | (simp only [AH.add_n, AH.put_n, AH.mark_n, zcq, AH.back_n] <;> omega))) | refine AH.ok.add ?_ _ | refine AH.ok.mark ?_ | (refine AH.ok_put1 ?_ ?_; (first | omega | (simp only [AH.add_n, AH.put_n, AH.mark_n, zcq, AH.back_n] <;> omega))) | refine AH.has_put ?_ _ _ | refine AH.has_mark ?_ | (refine AH.has_new1 ?_ ?_; (first | omega | (simp only [AH.add_n, AH.put_n, AH.mark_n, zcq, AH.back_n] <;> omega))) | refine AH.has_add ?_ _ ?_ | (apply AH.has_of; assumption)))) only [zdl, zcg, zdz, zaf, qbh, qaj, qcf, qbx, zcb, zfa, qez, zfb, zey, qfb, qav, qco, qdf, qdi, zbp, qaf, zae, qcx, qay, zbd, qaq, qac, zdg, zal, zag, qag, AH.put_same, List.length_cons, List.length_nil, Option.bind_some, Option.map_some, qec, qbe, qdd, qae, qeg, Nat.zero_add, true_and, e3, C.t5, ne_eq]
        exact done G e1 e2
      by_cases c3 : P[i].1 = -9223372036854775808
      · simp (maxSteps := 1000000) (disch := first | decide | assumption | omega | (simp only [AH.add_n, AH.put_n, AH.mark_n, zcq, AH.back_n] <;> omega) | (repeat (first | assumption | exact zca.eq_1 _ | (refine zfc ?_ ?_; (first | omega | (simp only [AH.add_n, AH.put_n, AH.mark_n, zcq, AH.back_n] <;> omega))) | refine AH.ok.add ?_ _ | refine AH.ok.mark ?_ | (refine AH.ok_put1 ?_ ?_; (first | omega | (simp only [AH.add_n, AH.put_n, AH.mark_n, zcq, AH.back_n] <;> omega))) | refine AH.has_put ?_ _ _ | refine AH.has_mark ?_ | (refine AH.has_new1 ?_ ?_; (first | omega | (simp only [AH.add_n, AH.put_n, AH.mark_n, zcq, AH.back_n] <;> omega))) | refine AH.has_add ?_ _ ?_ | (apply AH.has_of; assumption)))) only [qdb, qdv, zdx, qcs, zbm, zcg, zdz, zbt, qaw, zav, zaf, qbx, zcb, zfa, cond_false, qez, qea, zcy, zcj, zei, zez, zer, zfb, zeh, qfa, zex, zdm, qdj, zbg, qee, qew, qax, qcn, zey, qfb, qcg, zbi, qav, qco, zdn, qdf, qdi, zbp, qaf, zae, qcx, qay, zbd, qcb, qaq, qac, zdg, zal, zan, zag, qag, AH.get_new, AH.put_same, List.length_cons, List.length_nil, Option.bind_some, Option.map_some, zes, qek, qeo, decide_true, decide_false, Nat.zero_add, Nat.add_zero, Int.zero_sub, zbn, true_and, t44, t45, t46, hlt', p1, p2, w1', w2', c1, c2, eq_true c3]
        refine fin _ _ _ fun G e1 e2 e3 => ?_
        simp (maxSteps := 1000000) (disch := first | decide | assumption | omega | (simp only [AH.add_n, AH.put_n, AH.mark_n, zcq, AH.back_n] <;> omega) | (repeat (first | assumption | exact zca.eq_1 _ | (refine zfc ?_ ?_; (first | omega | (simp only [AH.add_n, AH.put_n, AH.mark_n, zcq, AH.back_n] <;> omega))) | refine AH.ok.add ?_ _ | refine AH.ok.mark ?_ | (refine AH.ok_put1 ?_ ?_; (first | omega | (simp only [AH.add_n, AH.put_n, AH.mark_n, zcq, AH.back_n] <;> omega))) | refine AH.has_put ?_ _ _ | refine AH.has_mark ?_ | (refine AH.has_new1 ?_ ?_; (first | omega | (simp only [AH.add_n, AH.put_n, AH.mark_n, zcq, AH.back_n] <;> omega))) | refine AH.has_add ?_ _ ?_ | (apply AH.has_of; assumption)))) only [zdl, zcg, zdz, zaf, qbh, qaj, qcf, qbx, zcb, zfa, qez, zfb, zey, qfb, qav, qco, qdf, qdi, zbp, qaf, zae, qcx, qay, zbd, qaq, qac, zdg, zal, zag, qag, AH.put_same, List.length_cons, List.length_nil, Option.bind_some, Option.map_some, qec, qbe, qdd, qae, qeg, Nat.zero_add, true_and, e3, C.t5, ne_eq]
        exact done G e1 e2
      · have c4 : P[i].2 = -9223372036854775808 := by
          rw [if_neg c3] at hx
          by_cases z : P[i].2 = -9223372036854775808
          · exact z
          · rw [if_neg z] at hy; omega
        simp (maxSteps := 1000000) (disch := first | decide | assumption | omega | (simp only [AH.add_n, AH.put_n, AH.mark_n, zcq, AH.back_n] <;> omega) | (repeat (first | assumption | exact zca.eq_1 _ | (refine zfc ?_ ?_; (first | omega | (simp only [AH.add_n, AH.put_n, AH.mark_n, zcq, AH.back_n] <;> omega))) | refine AH.ok.add ?_ _ | refine AH.ok.mark ?_ | (refine AH.ok_put1 ?_ ?_; (first | omega | (simp only [AH.add_n, AH.put_n, AH.mark_n, zcq, AH.back_n] <;> omega))) | refine AH.has_put ?_ _ _ | refine AH.has_mark ?_ | (refine AH.has_new1 ?_ ?_; (first | omega | (simp only [AH.add_n, AH.put_n, AH.mark_n, zcq, AH.back_n] <;> omega))) | refine AH.has_add ?_ _ ?_ | (apply AH.has_of; assumption)))) only [qdb, qdv, zdx, qcs, zbm, zcg, zdz, zbt, qaw, zaf, qbx, zcb, zfa, cond_false, qez, qea, zcy, zcj, zei, zez, zer, zfb, zeh, qfa, zex, zdm, qdj, zbg, qee, qew, qax, qcn, zey, qfb, qcg, zbi, qav, qco, zdn, qdf, qdi, zbp, qaf, zae, qcx, qay, zbd, qcb, qaq, qac, zdg, zal, zan, zag, qag, AH.get_new, AH.put_same, List.length_cons, List.length_nil, Option.bind_some, Option.map_some, zes, qek, qeo, decide_true, decide_false, Nat.zero_add, Nat.add_zero, Int.zero_sub, zbn, true_and, t44, t45, t46, hlt', p1, p2, w1', w2', c1, c2, c3, eq_true c4]
        refine fin _ _ _ fun G e1 e2 e3 => ?_
        simp (maxSteps := 1000000) (disch := first | decide | assumption | omega | (simp only [AH.add_n, AH.put_n, AH.mark_n, zcq, AH.back_n] <;> omega) | (repeat (first | assumption | exact zca.eq_1 _ | (refine zfc ?_ ?_; (first | omega | (simp only [AH.add_n, AH.put_n, AH.mark_n, zcq, AH.back_n] <;> omega))) | refine AH.ok.add ?_ _ | refine AH.ok.mark ?_ | (refine AH.ok_put1 ?_ ?_; (first | omega | (simp only [AH.add_n, AH.put_n, AH.mark_n, zcq, AH.back_n] <;> omega))) | refine AH.has_put ?_ _ _ | refine AH.has_mark ?_ | (refine AH.has_new1 ?_ ?_; (first | omega | (simp only [AH.add_n, AH.put_n, AH.mark_n, zcq, AH.back_n] <;> omega))) | refine AH.has_add ?_ _ ?_ | (apply AH.has_of; assumption)))) only [zdl, zcg, zdz, zaf, qbh, qaj, qcf, qbx, zcb, zfa, qez, zfb, zey, qfb, qav, qco, qdf, qdi, zbp, qaf, zae, qcx, qay, zbd, qaq, qac, zdg, zal, zag, qag, AH.put_same, List.length_cons, List.length_nil, Option.bind_some, Option.map_some, qec, qbe, qdd, qae, qeg, Nat.zero_add, true_and, e3, C.t5, ne_eq]
        exact done G e1 e2
  have hlt' : ¬ (i : Int) < (P.length : Int) := by omega
  have hie : i = P.length := by omega
  rw [hie, rng_end] at hr
  have hf0' : rngAt P 0 = (0, 0) := by rw [← hf0]; exact hr
  have hPin := rng_in hf0'
  clear hf0 hf0'
  simp (maxSteps := 1000000) (disch := first | decide | assumption | omega | (simp only [AH.add_n, AH.put_n, AH.mark_n, zcq, AH.back_n] <;> omega) | (repeat (first | assumption | exact zca.eq_1 _ | (refine zfc ?_ ?_; (first | omega | (simp only [AH.add_n, AH.put_n, AH.mark_n, zcq, AH.back_n] <;> omega))) | refine AH.ok.add ?_ _ | refine AH.ok.mark ?_ | (refine AH.ok_put1 ?_ ?_; (first | omega | (simp only [AH.add_n, AH.put_n, AH.mark_n, zcq, AH.back_n] <;> omega))) | refine AH.has_put ?_ _ _ | refine AH.has_mark ?_ | (refine AH.has_new1 ?_ ?_; (first | omega | (simp only [AH.add_n, AH.put_n, AH.mark_n, zcq, AH.back_n] <;> omega))) | refine AH.has_add ?_ _ ?_ | (apply AH.has_of; assumption)))) only [qdb, qdv, zdx, zcl, zbm, zcg, zdz, zaf, zat, zad, qbz, qbx, zfa, qez, zcj, zeh, qeh, zey, qfb, qav, qco, qdf, zbd, zes, decide_false, C.t1, t45, t46, hlt', hlp]
  generalize hn : H.n = a at *
  clear t44 t45 t46 hie hlt hi
  rw [hr]
  have hN := (chk_ok c).1
  -- the second loop: do two nodes lie at one place?
  refine WC.up P.length (fun i t hh => Cb h ps fs N (form E) P a t hh ∧ tget t s110 = ps ∧ tget t s111 = .i .i64 P.length ∧ tget t s112 = .i .i64 i ∧ apartP P i) ?_ 0 _ _ (Nat.zero_le _) ?_
  rotate_left
  · simp (maxSteps := 1000000) (disch := first | decide | assumption | omega | (simp only [AH.add_n, AH.put_n, AH.mark_n, zcq, AH.back_n] <;> omega) | (repeat (first | assumption | exact zca.eq_1 _ | (refine zfc ?_ ?_; (first | omega | (simp only [AH.add_n, AH.put_n, AH.mark_n, zcq, AH.back_n] <;> omega))) | refine AH.ok.add ?_ _ | refine AH.ok.mark ?_ | (refine AH.ok_put1 ?_ ?_; (first | omega | (simp only [AH.add_n, AH.put_n, AH.mark_n, zcq, AH.back_n] <;> omega))) | refine AH.has_put ?_ _ _ | refine AH.has_mark ?_ | (refine AH.has_new1 ?_ ?_; (first | omega | (simp only [AH.add_n, AH.put_n, AH.mark_n, zcq, AH.back_n] <;> omega))) | refine AH.has_add ?_ _ ?_ | (apply AH.has_of; assumption)))) only [Int.natCast_zero, qav, qco, true_and]
    refine ⟨C.step (Ext.refl _) (by simp (disch := decide) only [qco]) (by simp (disch := decide) only [qco]) (by simp (disch := decide) only [qco]) (by simp (disch := decide) only [qco]), fun j hj => absurd hj (by omega)⟩
  clear hlt' C la l7 ok' t hh
  intro i t hh hi ⟨C, t44, t45, t46, hap⟩
  have ok' := C.ok
  have l7 := ok'.lt C.g7
  have la := C.la
  have nor : ∀ G : AH, Ext h G → h.n + 1 < G.n → ¬ ClearP (form E) P → (∃ b, AV.tup [.b false, .agg [.i .i64 0, .i .i64 0]] = AV.tup [.b b, .agg [.i .i64 0, .i .i64 0]] ∧ (b = true ↔ ClearP (form E) P)) ∧ Ext h (G.put (h.n + 1) (.cells true [.i .i64 0, .i .i64 0])) := fun G e1 e2 e3 =>
    ⟨⟨false, rfl, by simp [e3]⟩, e1.put _ (by omega) e2⟩
  by_cases hlt : i < P.length
  · have hlt' : (i : Int) < (P.length : Int) := by omega
    obtain ⟨id, off, p1, p2, p3, p4, lt⟩ := C.sp.pair ok' hlt
    have el := ext_loc hh (.cells true [.i .i64 0, .i .i64 0]) (.cells true [.i .i64 P[i].1, .i .i64 P[i].2])
    obtain ⟨v', sv, sl⟩ := C.sp.take (i := i) (by simpa using Nat.le_of_lt hlt)
    rw [← List.map_take] at sl
    simp (maxSteps := 1000000) (disch := first | decide | assumption | omega | (simp only [AH.add_n, AH.put_n, AH.mark_n, zcq, AH.back_n] <;> omega) | (repeat (first | assumption | exact zca.eq_1 _ | (refine zfc ?_ ?_; (first | omega | (simp only [AH.add_n, AH.put_n, AH.mark_n, zcq, AH.back_n] <;> omega))) | refine AH.ok.add ?_ _ | refine AH.ok.mark ?_ | (refine AH.ok_put1 ?_ ?_; (first | omega | (simp only [AH.add_n, AH.put_n, AH.mark_n, zcq, AH.back_n] <;> omega))) | refine AH.has_put ?_ _ _ | refine AH.has_mark ?_ | (refine AH.has_new1 ?_ ?_; (first | omega | (simp only [AH.add_n, AH.put_n, AH.mark_n, zcq, AH.back_n] <;> omega))) | refine AH.has_add ?_ _ ?_ | (apply AH.has_of; assumption)))) only [qdb, qdv, zdx, zcp, qcs, zbm, zcg, zdz, qch, zaw, zaf, qbx, zcb, zfa, qdm, zde, qap, qca, Bool.or_true, Bool.or_false, qez, zcy, zei, zer, zfb, zeh, zcn, Option.map_none, qee, zey, qcg, zbi, qav, qco, zdn, qdf, qdi, zbp, qaf, zae, qcx, qay, zbd, qaq, qac, zdg, zal, zag, qag, AH.get_new, AH.put_same, List.length_cons, List.length_nil, Option.bind_some, Option.map_some, zes, decide_true, Nat.zero_add, zbn, true_and, t44, t45, t46, C.t1, hlt', p1, p2, sv]
    refine WF.val (Contains_spec B P[i] (P.take i) v' _ (el.ok ok') (sl.ext ok' el) (by simp; omega)) fun G eG => ?_
    have eG2 := el.trans eG
    have kG := eG2.ok ok'
    have nG := eG2.n
    have CG := C.step eG2 rfl rfl rfl rfl
    by_cases hm : P[i] ∈ P.take i
    · have hm' : ¬ ClearP (form E) P := fun hc => hc.1 i hlt (by rw [pt_nat hlt]; exact hm)
      have g5 := CG.g5
      have g7 := CG.g7
      simp (maxSteps := 1000000) (disch := first | decide | assumption | omega | (simp only [AH.add_n, AH.put_n, AH.mark_n, zcq, AH.back_n] <;> omega) | (repeat (first | assumption | exact zca.eq_1 _ | (refine zfc ?_ ?_; (first | omega | (simp only [AH.add_n, AH.put_n, AH.mark_n, zcq, AH.back_n] <;> omega))) | refine AH.ok.add ?_ _ | refine AH.ok.mark ?_ | (refine AH.ok_put1 ?_ ?_; (first | omega | (simp only [AH.add_n, AH.put_n, AH.mark_n, zcq, AH.back_n] <;> omega))) | refine AH.has_put ?_ _ _ | refine AH.has_mark ?_ | (refine AH.has_new1 ?_ ?_; (first | omega | (simp only [AH.add_n, AH.put_n, AH.mark_n, zcq, AH.back_n] <;> omega))) | refine AH.has_add ?_ _ ?_ | (apply AH.has_of; assumption)))) only [qdb, qdv, zcp, zdl, qch, zef, zaw, zaf, qbh, qaj, qcf, qbx, zcb, zfa, qdm, zde, zdo, Bool.or_true, Bool.or_false, qez, zcy, zer, zfb, zey, qfb, qav, qco, qdf, qdi, zbp, qaf, zae, qcx, qay, zbd, qaq, qac, zdg, zal, zag, qag, AH.put_same, List.length_cons, List.length_nil, Option.bind_some, Option.map_some, decide_true, qec, qbe, qdd, qae, qeg, Nat.zero_add, true_and, hm, C.t5, C.t7, g7, g5, ne_eq, not_true_eq_false, false_imp_iff, forall_const]
      exact nor G CG.e (by omega) hm'
    · simp (maxSteps := 1000000) (disch := first | decide | assumption | omega | (simp only [AH.add_n, AH.put_n, AH.mark_n, zcq, AH.back_n] <;> omega) | (repeat (first | assumption | exact zca.eq_1 _ | (refine zfc ?_ ?_; (first | omega | (simp only [AH.add_n, AH.put_n, AH.mark_n, zcq, AH.back_n] <;> omega))) | refine AH.ok.add ?_ _ | refine AH.ok.mark ?_ | (refine AH.ok_put1 ?_ ?_; (first | omega | (simp only [AH.add_n, AH.put_n, AH.mark_n, zcq, AH.back_n] <;> omega))) | refine AH.has_put ?_ _ _ | refine AH.has_mark ?_ | (refine AH.has_new1 ?_ ?_; (first | omega | (simp only [AH.add_n, AH.put_n, AH.mark_n, zcq, AH.back_n] <;> omega))) | refine AH.has_add ?_ _ ?_ | (apply AH.has_of; assumption)))) only [qdb, zdx, qcs, zcg, zdz, zef, zaf, qaa, qak, qau, qbx, zfa, qez, zcj, zeh, zey, qfb, qav, qco, qdf, zbd, qeq, decide_false, qby, true_and, hm, t44, t45, t46, hlt]
      refine ⟨C.step eG2 (by simp (disch := decide) only [qco]) (by simp (disch := decide) only [qco]) (by simp (disch := decide) only [qco]) (by simp (disch := decide) only [qco]), fun j hj => ?_⟩
      by_cases hji : j = i
      · subst hji; rw [pt_nat hlt]; exact hm
      · exact hap j (by omega)
  have hlt' : ¬ (i : Int) < (P.length : Int) := by omega
  have hie : i = P.length := by omega
  rw [hie] at hap
  have g6 := C.g6
  have hll := C.sf.len
  rw [List.length_map] at hll
  have hLlen : (form E).length = E.length := by simp [form, srt]
  simp (maxSteps := 1000000) (disch := first | decide | assumption | omega | (simp only [AH.add_n, AH.put_n, AH.mark_n, zcq, AH.back_n] <;> omega) | (repeat (first | assumption | exact zca.eq_1 _ | (refine zfc ?_ ?_; (first | omega | (simp only [AH.add_n, AH.put_n, AH.mark_n, zcq, AH.back_n] <;> omega))) | refine AH.ok.add ?_ _ | refine AH.ok.mark ?_ | (refine AH.ok_put1 ?_ ?_; (first | omega | (simp only [AH.add_n, AH.put_n, AH.mark_n, zcq, AH.back_n] <;> omega))) | refine AH.has_put ?_ _ _ | refine AH.has_mark ?_ | (refine AH.has_new1 ?_ ?_; (first | omega | (simp only [AH.add_n, AH.put_n, AH.mark_n, zcq, AH.back_n] <;> omega))) | refine AH.has_add ?_ _ ?_ | (apply AH.has_of; assumption)))) only [qdb, qdv, zdx, zcl, zbm, zcg, zdz, zaf, zat, zad, qbz, qbx, zfa, qez, zcj, zez, zeh, qdj, zbg, qeh, zey, qfb, qav, qco, qdf, zbd, qcb, qaq, qac, zdg, zal, zan, zag, qag, Option.bind_some, Option.map_some, zes, decide_false, Nat.zero_add, t45, t46, hlt', C.t6, g6, hll]
  clear t44 t45 t46 hie hlt hi
  -- the third loop: edges against nodes and edges
  refine WC.up (form E).length (fun i t hh => Cb h ps fs N (form E) P a t hh ∧ tget t s127 = fs ∧ tget t s130 = .i .i64 (form E).length ∧ tget t s131 = .i .i64 i ∧ ∀ k (hk : k < (form E).length), k < i → goodV P (form E)[k] P.length ∧ goodE P (form E)[k] ((form E).take k)) ?_ 0 _ _ (Nat.zero_le _) ?_
  rotate_left
  · simp (maxSteps := 1000000) (disch := first | decide | assumption | omega | (simp only [AH.add_n, AH.put_n, AH.mark_n, zcq, AH.back_n] <;> omega) | (repeat (first | assumption | exact zca.eq_1 _ | (refine zfc ?_ ?_; (first | omega | (simp only [AH.add_n, AH.put_n, AH.mark_n, zcq, AH.back_n] <;> omega))) | refine AH.ok.add ?_ _ | refine AH.ok.mark ?_ | (refine AH.ok_put1 ?_ ?_; (first | omega | (simp only [AH.add_n, AH.put_n, AH.mark_n, zcq, AH.back_n] <;> omega))) | refine AH.has_put ?_ _ _ | refine AH.has_mark ?_ | (refine AH.has_new1 ?_ ?_; (first | omega | (simp only [AH.add_n, AH.put_n, AH.mark_n, zcq, AH.back_n] <;> omega))) | refine AH.has_add ?_ _ ?_ | (apply AH.has_of; assumption)))) only [Int.natCast_zero, qav, qco, true_and]
    refine ⟨C.step (Ext.refl _) (by simp (disch := decide) only [qco]) (by simp (disch := decide) only [qco]) (by simp (disch := decide) only [qco]) (by simp (disch := decide) only [qco]), fun k _ hk => absurd hk (by omega)⟩
  clear hlt' C la l7 ok' t hh g6 hll
  intro i t hh hi ⟨C, t44, t45, t46, hgood⟩
  have ok' := C.ok
  have l7 := ok'.lt C.g7
  have la := C.la
  by_cases hlt : i < (form E).length
  rotate_left
  · have hlt' : ¬ (i : Int) < ((form E).length : Int) := by omega
    have hie : i = (form E).length := by omega
    have g5 := C.g5
    have g7 := C.g7
    simp (maxSteps := 1000000) (disch := first | decide | assumption | omega | (simp only [AH.add_n, AH.put_n, AH.mark_n, zcq, AH.back_n] <;> omega) | (repeat (first | assumption | exact zca.eq_1 _ | (refine zfc ?_ ?_; (first | omega | (simp only [AH.add_n, AH.put_n, AH.mark_n, zcq, AH.back_n] <;> omega))) | refine AH.ok.add ?_ _ | refine AH.ok.mark ?_ | (refine AH.ok_put1 ?_ ?_; (first | omega | (simp only [AH.add_n, AH.put_n, AH.mark_n, zcq, AH.back_n] <;> omega))) | refine AH.has_put ?_ _ _ | refine AH.has_mark ?_ | (refine AH.has_new1 ?_ ?_; (first | omega | (simp only [AH.add_n, AH.put_n, AH.mark_n, zcq, AH.back_n] <;> omega))) | refine AH.has_add ?_ _ ?_ | (apply AH.has_of; assumption)))) only [qdb, qdv, zdx, zcp, zdl, zcl, zcg, zdz, qch, zef, zaw, zaf, zat, zad, qbz, qbx, zcb, zfa, qdm, zde, zdo, Bool.or_true, Bool.or_false, qez, zcj, zer, zfb, zeh, zey, qfb, qav, qco, qdf, qdi, zbp, qaf, zae, qcx, qay, zbd, qaq, qac, zdg, zal, zag, qag, AH.put_same, List.length_cons, List.length_nil, Option.bind_some, Option.map_some, zes, decide_false, qec, qbe, qdd, qae, qeg, Nat.zero_add, true_and, t45, t46, hlt', C.t5, C.t7, g5, g7, ne_eq, not_true_eq_false, false_imp_iff, forall_const]
    exact ⟨⟨true, rfl, by simp only [true_iff]; exact ⟨hap, fun k hk => hgood k hk (by omega)⟩⟩, C.e.put _ (by omega) (by omega)⟩
  have hlt' : (i : Int) < ((form E).length : Int) := by omega
  obtain ⟨id, off, p1, p2, p3, p4, lt⟩ := C.sf.pair ok' hlt
  have hfo := form_ok c (form E)[i] (List.getElem_mem hlt)
  rw [← cN] at hfo
  have l1 : (form E)[i].1 < (P.length : Int) := by omega
  have l2 : 0 ≤ (form E)[i].2 := by omega
  obtain ⟨ia, oa, a1, a2, la1⟩ := pairI ok' C.sp hfo.1 l1
  obtain ⟨ib, ob, b1, b2, lb1⟩ := pairI ok' C.sp l2 hfo.2.2
  have Ia := pt_in hPin hfo.1 l1
  have Ib := pt_in hPin l2 hfo.2.2
  have hlp' := C.sp.len
  rw [List.length_map] at hlp'
  simp (maxSteps := 1000000) (disch := first | decide | assumption | omega | (simp only [AH.add_n, AH.put_n, AH.mark_n, zcq, AH.back_n] <;> omega) | (repeat (first | assumption | exact zca.eq_1 _ | (refine zfc ?_ ?_; (first | omega | (simp only [AH.add_n, AH.put_n, AH.mark_n, zcq, AH.back_n] <;> omega))) | refine AH.ok.add ?_ _ | refine AH.ok.mark ?_ | (refine AH.ok_put1 ?_ ?_; (first | omega | (simp only [AH.add_n, AH.put_n, AH.mark_n, zcq, AH.back_n] <;> omega))) | refine AH.has_put ?_ _ _ | refine AH.has_mark ?_ | (refine AH.has_new1 ?_ ?_; (first | omega | (simp only [AH.add_n, AH.put_n, AH.mark_n, zcq, AH.back_n] <;> omega))) | refine AH.has_add ?_ _ ?_ | (apply AH.has_of; assumption)))) only [qdb, qdv, zdx, zcp, qcs, zbm, zcg, zdz, qch, zef, zaw, qah, zaf, qbx, zcb, zfa, qey, qdm, zda, zdd, zec, zea, zdr, zet, zde, zdc, qds, zdo, qdr, qbp, zbk, zev, zcd, Bool.or_true, Bool.or_false, cond_true, cond_false, qez, zcy, zei, zez, zer, zfb, zeh, qee, qeb, zao, qeh, zey, qfb, qav, qco, zdn, qdf, qdi, zbp, qaf, zae, qcx, qay, zbd, qcb, qaq, qac, zdg, zal, zan, zag, qag, AH.get_new, AH.get_add_old, AH.get_put_other, AH.put_same, AH.mark_get, AH.get_loose, qal, zap, qab, List.nil_append, List.cons_append, List.append_nil, List.length_cons, List.length_nil, Option.bind_some, Option.map_some, zes, decide_true, Nat.zero_add, Nat.add_zero, Nat.mul_one, Int.toNat_zero, Int.toNat_one, AH.mark_mark, true_and, AH.add_n, AH.put_n, AH.mark_n, zcq, t44, t45, t46, C.t1, hlt', p1, p2, a1, a2, b1, b2, hlp']
  refine WC.up P.length (fun v t1 h1 => Ce h ps fs N (form E) P a i hh.n (form E)[i] t1 h1 ∧ tget t1 s150 = ps ∧ tget t1 s151 = .i .i64 P.length ∧ tget t1 s152 = .i .i64 v ∧ goodV P (form E)[i] v) ?_ 0 _ _ (Nat.zero_le _) ?_
  rotate_left
  · have x1 : Ext hh ((((((hh.add (.cells true [.i .i64 0, .i .i64 0])).put hh.n (.cells true [.i .i64 (form E)[i].1, .i .i64 (form E)[i].2])).mark.add (.cells true [.i .i64 0, .i .i64 0])).mark.add (.cells true [.i .i64 0, .i .i64 0])).mark.put (hh.n + 1) (.cells true [.i .i64 (pt P (form E)[i].1).1, .i .i64 (pt P (form E)[i].1).2])).mark.put (hh.n + 1 + 1) (.cells true [.i .i64 (pt P (form E)[i].2).1, .i .i64 (pt P (form E)[i].2).2])) := by
      repeat (first | exact Ext.refl _ | assumption | refine Ext.mark ?_ | refine Ext.add ?_ _ | (refine Ext.put1 ?_ ?_ ?_; (first | omega | (simp only [AH.add_n, AH.put_n, AH.mark_n, zcq, AH.back_n] <;> omega)); (first | omega | (simp only [AH.add_n, AH.put_n, AH.mark_n] <;> omega))))
    have k1 := x1.ok ok'
    simp (maxSteps := 1000000) (disch := first | decide | assumption | omega | (simp only [AH.add_n, AH.put_n, AH.mark_n, zcq, AH.back_n] <;> omega) | (repeat (first | assumption | exact zca.eq_1 _ | (refine zfc ?_ ?_; (first | omega | (simp only [AH.add_n, AH.put_n, AH.mark_n, zcq, AH.back_n] <;> omega))) | refine AH.ok.add ?_ _ | refine AH.ok.mark ?_ | (refine AH.ok_put1 ?_ ?_; (first | omega | (simp only [AH.add_n, AH.put_n, AH.mark_n, zcq, AH.back_n] <;> omega))) | refine AH.has_put ?_ _ _ | refine AH.has_mark ?_ | (refine AH.has_new1 ?_ ?_; (first | omega | (simp only [AH.add_n, AH.put_n, AH.mark_n, zcq, AH.back_n] <;> omega))) | refine AH.has_add ?_ _ ?_ | (apply AH.has_of; assumption)))) only [Int.natCast_zero, qav, qco, true_and]
    exact ⟨⟨C.step x1 (by simp (disch := decide) only [qco]) (by simp (disch := decide) only [qco]) (by simp (disch := decide) only [qco]) (by simp (disch := decide) only [qco]), by simp (disch := decide) only [qco, t44], by simp (disch := decide) only [qco, t45], by simp (disch := decide) only [qco, t46], by simp (disch := decide) only [qav, qco], by simp (disch := decide) only [qav, qco], by simp (disch := decide) only [qav, qco], by simp (disch := decide) only [qav, qco], by simp (maxSteps := 1000000) (disch := first | decide | assumption | omega | (simp only [AH.add_n, AH.put_n, AH.mark_n, zcq, AH.back_n] <;> omega) | (repeat (first | assumption | exact zca.eq_1 _ | (refine zfc ?_ ?_; (first | omega | (simp only [AH.add_n, AH.put_n, AH.mark_n, zcq, AH.back_n] <;> omega))) | refine AH.ok.add ?_ _ | refine AH.ok.mark ?_ | (refine AH.ok_put1 ?_ ?_; (first | omega | (simp only [AH.add_n, AH.put_n, AH.mark_n, zcq, AH.back_n] <;> omega))) | refine AH.has_put ?_ _ _ | refine AH.has_mark ?_ | (refine AH.has_new1 ?_ ?_; (first | omega | (simp only [AH.add_n, AH.put_n, AH.mark_n, zcq, AH.back_n] <;> omega))) | refine AH.has_add ?_ _ ?_ | (apply AH.has_of; assumption)))) only [AH.get_add_old, AH.get_put_other, AH.put_same, AH.mark_get], by simp (maxSteps := 1000000) (disch := first | decide | assumption | omega | (simp only [AH.add_n, AH.put_n, AH.mark_n, zcq, AH.back_n] <;> omega) | (repeat (first | assumption | exact zca.eq_1 _ | (refine zfc ?_ ?_; (first | omega | (simp only [AH.add_n, AH.put_n, AH.mark_n, zcq, AH.back_n] <;> omega))) | refine AH.ok.add ?_ _ | refine AH.ok.mark ?_ | (refine AH.ok_put1 ?_ ?_; (first | omega | (simp only [AH.add_n, AH.put_n, AH.mark_n, zcq, AH.back_n] <;> omega))) | refine AH.has_put ?_ _ _ | refine AH.has_mark ?_ | (refine AH.has_new1 ?_ ?_; (first | omega | (simp only [AH.add_n, AH.put_n, AH.mark_n, zcq, AH.back_n] <;> omega))) | refine AH.has_add ?_ _ ?_ | (apply AH.has_of; assumption)))) only [AH.get_put_other, AH.put_same, AH.mark_get], by simp (maxSteps := 1000000) (disch := first | decide | assumption | omega | (simp only [AH.add_n, AH.put_n, AH.mark_n, zcq, AH.back_n] <;> omega) | (repeat (first | assumption | exact zca.eq_1 _ | (refine zfc ?_ ?_; (first | omega | (simp only [AH.add_n, AH.put_n, AH.mark_n, zcq, AH.back_n] <;> omega))) | refine AH.ok.add ?_ _ | refine AH.ok.mark ?_ | (refine AH.ok_put1 ?_ ?_; (first | omega | (simp only [AH.add_n, AH.put_n, AH.mark_n, zcq, AH.back_n] <;> omega))) | refine AH.has_put ?_ _ _ | refine AH.has_mark ?_ | (refine AH.has_new1 ?_ ?_; (first | omega | (simp only [AH.add_n, AH.put_n, AH.mark_n, zcq, AH.back_n] <;> omega))) | refine AH.has_add ?_ _ ?_ | (apply AH.has_of; assumption)))) only [AH.put_same]⟩, fun v hv => absurd hv (by omega)⟩
  clear t44 t45 t46 p1 p2 p3 p4 a1 a2 b1 b2 hlp'
  generalize hh.n = n0 at *
  generalize he : (form E)[i] = e at *
  clear C ok' l7 la lt la1 lb1
  intro v t h1 hv ⟨C, t50, t51, t52, hgv⟩
  have ok' := C.c.ok
  have l7 := ok'.lt C.c.g7
  have la := C.c.la
  have ln := ok'.lt C.g17
  by_cases hvl : v < P.length
  · have hvl' : (v : Int) < (P.length : Int) := by omega
    obtain ⟨ip, op, p1, p2, _, _, lp⟩ := C.c.sp.pair ok' hvl
    have el := ext_loc h1 (.cells true [.i .i64 0, .i .i64 0]) (.cells true [.i .i64 P[v].1, .i .i64 P[v].2])
    have skip : ∀ (d : (v : Int) = e.1 ∨ (v : Int) = e.2), goodV P e (v + 1) := fun d k hk n1 n2 => by
      by_cases hkv : k = v
      · subst hkv; rcases d with d | d
        · exact absurd d n1
        · exact absurd d n2
      · exact hgv k (by omega) n1 n2
    by_cases d1 : (v : Int) = e.1
    · simp (maxSteps := 1000000) (disch := first | decide | assumption | omega | (simp only [AH.add_n, AH.put_n, AH.mark_n, zcq, AH.back_n] <;> omega) | (repeat (first | assumption | exact zca.eq_1 _ | (refine zfc ?_ ?_; (first | omega | (simp only [AH.add_n, AH.put_n, AH.mark_n, zcq, AH.back_n] <;> omega))) | refine AH.ok.add ?_ _ | refine AH.ok.mark ?_ | (refine AH.ok_put1 ?_ ?_; (first | omega | (simp only [AH.add_n, AH.put_n, AH.mark_n, zcq, AH.back_n] <;> omega))) | refine AH.has_put ?_ _ _ | refine AH.has_mark ?_ | (refine AH.has_new1 ?_ ?_; (first | omega | (simp only [AH.add_n, AH.put_n, AH.mark_n, zcq, AH.back_n] <;> omega))) | refine AH.has_add ?_ _ ?_ | (apply AH.has_of; assumption)))) only [qdb, qdv, zdx, qcs, zbm, zcg, zdz, zbt, qar, zaf, qaa, qak, qau, qbx, zcb, zfa, cond_true, qez, qea, zcy, zcj, zei, zez, zer, zfb, zeh, qfa, qee, qeb, zao, zey, qfb, qav, qco, zdn, qdf, qdi, zbp, qaf, zae, qcx, qay, zbd, qcb, qaq, qac, zdg, zal, zag, qag, AH.get_new, AH.get_add_old, AH.get_put_other, List.length_cons, List.length_nil, Option.bind_some, Option.map_some, qeq, zes, qeo, decide_true, Bool.not_true, qby, Nat.zero_add, Nat.add_zero, Nat.mul_one, Int.toNat_zero, true_and, t50, t51, t52, C.t15, C.g15, hvl, hvl', p1, p2, eq_true d1]
      exact ⟨C.step el (by simp (disch := decide) only [qco]) (by simp (disch := decide) only [qco]) (by simp (disch := decide) only [qco]) (by simp (disch := decide) only [qco]) (by simp (disch := decide) only [qco]) (by simp (disch := decide) only [qco]) (by simp (disch := decide) only [qco]) (by simp (disch := decide) only [qco]) (by simp (disch := decide) only [qco]) (by simp (disch := decide) only [qco]) (by simp (disch := decide) only [qco]), skip (.inl d1)⟩
    by_cases d2 : (v : Int) = e.2
    · simp (maxSteps := 1000000) (disch := first | decide | assumption | omega | (simp only [AH.add_n, AH.put_n, AH.mark_n, zcq, AH.back_n] <;> omega) | (repeat (first | assumption | exact zca.eq_1 _ | (refine zfc ?_ ?_; (first | omega | (simp only [AH.add_n, AH.put_n, AH.mark_n, zcq, AH.back_n] <;> omega))) | refine AH.ok.add ?_ _ | refine AH.ok.mark ?_ | (refine AH.ok_put1 ?_ ?_; (first | omega | (simp only [AH.add_n, AH.put_n, AH.mark_n, zcq, AH.back_n] <;> omega))) | refine AH.has_put ?_ _ _ | refine AH.has_mark ?_ | (refine AH.has_new1 ?_ ?_; (first | omega | (simp only [AH.add_n, AH.put_n, AH.mark_n, zcq, AH.back_n] <;> omega))) | refine AH.has_add ?_ _ ?_ | (apply AH.has_of; assumption)))) only [qdb, qdv, zdx, qcs, zbm, zcg, zdz, zbt, qat, qar, zaf, qaa, qak, qau, qbx, zcb, zfa, cond_true, qez, qea, zcy, zcj, zei, zez, zer, zfb, zeh, qfa, qee, qeb, zao, zey, qfb, qav, qco, zdn, qdf, qdi, zbp, qaf, zae, qcx, qay, zbd, qcb, qaq, qac, zdg, zal, zan, zag, qag, AH.get_new, AH.get_add_old, AH.get_put_other, List.length_cons, List.length_nil, Option.bind_some, Option.map_some, qeq, zes, qeo, decide_true, decide_false, Bool.not_true, Bool.not_false, qby, Nat.zero_add, Nat.add_zero, Nat.mul_one, Int.toNat_zero, Int.toNat_one, true_and, t50, t51, t52, C.t15, C.g15, hvl, hvl', p1, p2, d1, eq_true d2]
      exact ⟨C.step el (by simp (disch := decide) only [qco]) (by simp (disch := decide) only [qco]) (by simp (disch := decide) only [qco]) (by simp (disch := decide) only [qco]) (by simp (disch := decide) only [qco]) (by simp (disch := decide) only [qco]) (by simp (disch := decide) only [qco]) (by simp (disch := decide) only [qco]) (by simp (disch := decide) only [qco]) (by simp (disch := decide) only [qco]) (by simp (disch := decide) only [qco]), skip (.inr d2)⟩
    · simp (maxSteps := 1000000) (disch := first | decide | assumption | omega | (simp only [AH.add_n, AH.put_n, AH.mark_n, zcq, AH.back_n] <;> omega) | (repeat (first | assumption | exact zca.eq_1 _ | (refine zfc ?_ ?_; (first | omega | (simp only [AH.add_n, AH.put_n, AH.mark_n, zcq, AH.back_n] <;> omega))) | refine AH.ok.add ?_ _ | refine AH.ok.mark ?_ | (refine AH.ok_put1 ?_ ?_; (first | omega | (simp only [AH.add_n, AH.put_n, AH.mark_n, zcq, AH.back_n] <;> omega))) | refine AH.has_put ?_ _ _ | refine AH.has_mark ?_ | (refine AH.has_new1 ?_ ?_; (first | omega | (simp only [AH.add_n, AH.put_n, AH.mark_n, zcq, AH.back_n] <;> omega))) | refine AH.has_add ?_ _ ?_ | (apply AH.has_of; assumption)))) only [qdb, qdv, zdx, qcs, zbm, zcg, zdz, zbt, qat, zaf, qbx, zcb, zfa, cond_true, qez, qea, zcy, zei, zez, zer, zfb, zeh, qfa, qee, qeb, zao, zey, qfb, qcg, zbi, qav, qco, zdn, qdf, qdi, zbp, qaf, zae, qcx, qay, zbd, qcb, qaq, qac, zdg, zal, zan, zag, qag, AH.get_new, AH.get_add_old, AH.get_put_other, AH.put_same, List.length_cons, List.length_nil, Option.bind_some, Option.map_some, zes, qeo, decide_true, decide_false, Bool.not_false, Nat.zero_add, Nat.add_zero, Nat.mul_one, Int.toNat_zero, Int.toNat_one, zbn, true_and, t50, t51, t52, C.t15, C.t16, C.t17, C.g15, C.g16, C.g17, hvl', p1, p2, d1, d2]
      refine WF.val (on_spec B (pt P e.1) (pt P e.2) P[v] Ia Ib (hPin _ (List.getElem_mem hvl)) _ (el.ok ok')) fun G eG => ?_
      have x2 := el.trans eG
      have k2 := x2.ok ok'
      have n2 := x2.n
      have CG := C.c.step x2 rfl rfl rfl rfl
      cases ho : onB (pt P e.1) (pt P e.2) P[v] with
      | true =>
        have hno : ¬ ClearP (form E) P := fun hc => by
          have := (hc.2 i hlt).1 v hvl (by rw [he]; exact d1) (by rw [he]; exact d2)
          rw [he, pt_nat hvl, ho] at this; cases this
        have g5 := CG.g5
        have g7 := CG.g7
        simp (maxSteps := 1000000) (disch := first | decide | assumption | omega | (simp only [AH.add_n, AH.put_n, AH.mark_n, zcq, AH.back_n] <;> omega) | (repeat (first | assumption | exact zca.eq_1 _ | (refine zfc ?_ ?_; (first | omega | (simp only [AH.add_n, AH.put_n, AH.mark_n, zcq, AH.back_n] <;> omega))) | refine AH.ok.add ?_ _ | refine AH.ok.mark ?_ | (refine AH.ok_put1 ?_ ?_; (first | omega | (simp only [AH.add_n, AH.put_n, AH.mark_n, zcq, AH.back_n] <;> omega))) | refine AH.has_put ?_ _ _ | refine AH.has_mark ?_ | (refine AH.has_new1 ?_ ?_; (first | omega | (simp only [AH.add_n, AH.put_n, AH.mark_n, zcq, AH.back_n] <;> omega))) | refine AH.has_add ?_ _ ?_ | (apply AH.has_of; assumption)))) only [qdb, qdv, zcp, zdl, zcg, zdz, qch, zef, zaw, zaf, qbh, qaj, qcf, qbx, zcb, zfa, qdm, zde, zdo, Bool.or_true, Bool.or_false, qez, qea, zcy, zer, zfb, zey, qfb, qav, qco, qdf, qdi, zbp, qaf, zae, qcx, qay, zbd, qaq, qac, zdg, zal, zag, qag, AH.put_same, List.length_cons, List.length_nil, Option.bind_some, Option.map_some, qec, qbe, qdd, qae, qeg, Nat.zero_add, true_and, C.c.t5, C.c.t7, g7, g5, ne_eq, not_true_eq_false, false_imp_iff, forall_const]
        exact nor G CG.e (by omega) hno
      | false =>
        simp (maxSteps := 1000000) (disch := first | decide | assumption | omega | (simp only [AH.add_n, AH.put_n, AH.mark_n, zcq, AH.back_n] <;> omega) | (repeat (first | assumption | exact zca.eq_1 _ | (refine zfc ?_ ?_; (first | omega | (simp only [AH.add_n, AH.put_n, AH.mark_n, zcq, AH.back_n] <;> omega))) | refine AH.ok.add ?_ _ | refine AH.ok.mark ?_ | (refine AH.ok_put1 ?_ ?_; (first | omega | (simp only [AH.add_n, AH.put_n, AH.mark_n, zcq, AH.back_n] <;> omega))) | refine AH.has_put ?_ _ _ | refine AH.has_mark ?_ | (refine AH.has_new1 ?_ ?_; (first | omega | (simp only [AH.add_n, AH.put_n, AH.mark_n, zcq, AH.back_n] <;> omega))) | refine AH.has_add ?_ _ ?_ | (apply AH.has_of; assumption)))) only [qdb, zdx, qcs, zcg, zdz, zaf, qaa, qak, qau, qbx, zfa, qez, qea, zcy, zcj, zeh, zey, qfb, qav, qco, qdf, zbd, qeq, qby, true_and, t50, t51, t52, hvl]
        refine ⟨C.step x2 (by simp (disch := decide) only [qco]) (by simp (disch := decide) only [qco]) (by simp (disch := decide) only [qco]) (by simp (disch := decide) only [qco]) (by simp (disch := decide) only [qco]) (by simp (disch := decide) only [qco]) (by simp (disch := decide) only [qco]) (by simp (disch := decide) only [qco]) (by simp (disch := decide) only [qco]) (by simp (disch := decide) only [qco]) (by simp (disch := decide) only [qco]), fun k hk n1 n3 => ?_⟩
        by_cases hkv : k = v
        · subst hkv; rw [pt_nat hvl]; exact ho
        · exact hgv k (by omega) n1 n3
  have hvl' : ¬ (v : Int) < (P.length : Int) := by omega
  have hve : v = P.length := by omega
  rw [hve] at hgv
  have g6 := C.c.g6
  obtain ⟨v', sv, sl⟩ := C.c.sf.take (i := i) (by simpa using Nat.le_of_lt hlt)
  rw [← List.map_take] at sl
  have hl2 := sl.len
  have hl3 : (((form E).take i).map pr).length = i := by simp; omega
  rw [hl3] at hl2
  simp (maxSteps := 1000000) (disch := first | decide | assumption | omega | (simp only [AH.add_n, AH.put_n, AH.mark_n, zcq, AH.back_n] <;> omega) | (repeat (first | assumption | exact zca.eq_1 _ | (refine zfc ?_ ?_; (first | omega | (simp only [AH.add_n, AH.put_n, AH.mark_n, zcq, AH.back_n] <;> omega))) | refine AH.ok.add ?_ _ | refine AH.ok.mark ?_ | (refine AH.ok_put1 ?_ ?_; (first | omega | (simp only [AH.add_n, AH.put_n, AH.mark_n, zcq, AH.back_n] <;> omega))) | refine AH.has_put ?_ _ _ | refine AH.has_mark ?_ | (refine AH.has_new1 ?_ ?_; (first | omega | (simp only [AH.add_n, AH.put_n, AH.mark_n, zcq, AH.back_n] <;> omega))) | refine AH.has_add ?_ _ ?_ | (apply AH.has_of; assumption)))) only [qdb, qdv, zdx, zcl, zbm, zcg, zdz, zaf, zat, zad, qbz, qbx, zfa, qez, zcj, zez, zeh, zcn, Option.map_none, qdj, zbg, qeh, zey, qfb, qav, qco, qdf, zbd, qcb, qaq, qac, zdg, zal, zan, zag, qag, Option.bind_some, Option.map_some, zes, decide_false, Nat.zero_add, t51, t52, hvl', C.c.t6, g6, C.t14, sv, hl2]
  -- the edges ahead of this one
  refine WC.up i (fun j t1 h2 => Ce h ps fs N (form E) P a i n0 e t1 h2 ∧ tget t1 s204 = v' ∧ tget t1 s205 = .i .i64 i ∧ tget t1 s206 = .i .i64 j ∧ SlAt h2 2 v' (((form E).take i).map pr) ∧ goodE P e ((form E).take j)) ?_ 0 _ _ (Nat.zero_le _) ?_
  rotate_left
  · simp (maxSteps := 1000000) (disch := first | decide | assumption | omega | (simp only [AH.add_n, AH.put_n, AH.mark_n, zcq, AH.back_n] <;> omega) | (repeat (first | assumption | exact zca.eq_1 _ | (refine zfc ?_ ?_; (first | omega | (simp only [AH.add_n, AH.put_n, AH.mark_n, zcq, AH.back_n] <;> omega))) | refine AH.ok.add ?_ _ | refine AH.ok.mark ?_ | (refine AH.ok_put1 ?_ ?_; (first | omega | (simp only [AH.add_n, AH.put_n, AH.mark_n, zcq, AH.back_n] <;> omega))) | refine AH.has_put ?_ _ _ | refine AH.has_mark ?_ | (refine AH.has_new1 ?_ ?_; (first | omega | (simp only [AH.add_n, AH.put_n, AH.mark_n, zcq, AH.back_n] <;> omega))) | refine AH.has_add ?_ _ ?_ | (apply AH.has_of; assumption)))) only [Int.natCast_zero, qav, qco, true_and]
    exact ⟨C.step (Ext.refl _) (by simp (disch := decide) only [qco]) (by simp (disch := decide) only [qco]) (by simp (disch := decide) only [qco]) (by simp (disch := decide) only [qco]) (by simp (disch := decide) only [qco]) (by simp (disch := decide) only [qco]) (by simp (disch := decide) only [qco]) (by simp (disch := decide) only [qco]) (by simp (disch := decide) only [qco]) (by simp (disch := decide) only [qco]) (by simp (disch := decide) only [qco]), sl, fun d hd => by simp at hd⟩
  clear t50 t51 t52 hve hvl hv g6 hl2 hl3 sl sv hvl' C ok' l7 la ln
  intro j t h2 hj ⟨C, t50, t51, t52, sl, hge⟩
  have ok' := C.c.ok
  have l7 := ok'.lt C.c.g7
  have la := C.c.la
  have ln := ok'.lt C.g17
  by_cases hjl : j < i
  · have hjl' : (j : Int) < (i : Int) := by omega
    have hjL : j < (form E).length := by omega
    obtain ⟨ip, op, p1, p2, p3, p4, lp⟩ := sl.pair ok' (k := j) (by simp; omega)
    have hget : ((form E).take i)[j]'(by simp; omega) = (form E)[j] := by simp
    rw [hget] at p2 p3 p4
    have hdo := form_ok c (form E)[j] (List.getElem_mem hjL)
    rw [← cN] at hdo
    have m1 : (form E)[j].1 < (P.length : Int) := by omega
    have m2 : 0 ≤ (form E)[j].2 := by omega
    obtain ⟨ia, oa, a1, a2, la1⟩ := pairI ok' C.c.sp hdo.1 m1
    obtain ⟨ib, ob, b1, b2, lb1⟩ := pairI ok' C.c.sp m2 hdo.2.2
    have Ja := pt_in hPin hdo.1 m1
    have Jb := pt_in hPin m2 hdo.2.2
    have htake : (form E).take (j + 1) = (form E).take j ++ [(form E)[j]] := (List.take_append_getElem hjL).symm
    generalize hd : (form E)[j] = d at *
    have el := ext_loc h2 (.cells true [.i .i64 0, .i .i64 0]) (.cells true [.i .i64 d.1, .i .i64 d.2])
    have skip : apartE e d = false → goodE P e ((form E).take (j + 1)) := fun ha q hq hap' => by
      rw [htake] at hq
      rcases List.mem_append.mp hq with hq | hq
      · exact hge q hq hap'
      · have : q = d := by simpa using hq
        rw [this, ha] at hap'; cases hap'
    by_cases d1 : e.1 = d.1
    · simp (maxSteps := 1000000) (disch := first | decide | assumption | omega | (simp only [AH.add_n, AH.put_n, AH.mark_n, zcq, AH.back_n] <;> omega) | (repeat (first | assumption | exact zca.eq_1 _ | (refine zfc ?_ ?_; (first | omega | (simp only [AH.add_n, AH.put_n, AH.mark_n, zcq, AH.back_n] <;> omega))) | refine AH.ok.add ?_ _ | refine AH.ok.mark ?_ | (refine AH.ok_put1 ?_ ?_; (first | omega | (simp only [AH.add_n, AH.put_n, AH.mark_n, zcq, AH.back_n] <;> omega))) | refine AH.has_put ?_ _ _ | refine AH.has_mark ?_ | (refine AH.has_new1 ?_ ?_; (first | omega | (simp only [AH.add_n, AH.put_n, AH.mark_n, zcq, AH.back_n] <;> omega))) | refine AH.has_add ?_ _ ?_ | (apply AH.has_of; assumption)))) only [qdb, qdv, zdx, zcp, qcs, zbm, zcg, zdz, qch, zef, zaw, zbt, qbv, qar, zaf, qaa, qak, qau, qbx, zcb, zfa, qdm, qbl, Bool.or_true, cond_true, qez, qea, zcy, zcj, zei, zez, zer, zfb, zeh, qfa, qee, qeb, zao, zey, qfb, qav, qco, zdn, qdf, qdi, zbp, qaf, zae, qcx, qay, zbd, qcb, qaq, qac, zdg, zal, zag, qag, AH.get_new, AH.get_add_old, AH.get_put_other, AH.put_same, List.length_cons, List.length_nil, Option.bind_some, Option.map_some, qeq, zes, qeo, decide_true, Bool.not_true, qby, Nat.zero_add, Nat.add_zero, Nat.mul_one, Int.toNat_zero, true_and, t50, t51, t52, C.t15, C.g15, hjl, hjl', p1, p2, eq_true d1]
      exact ⟨C.step el (by simp (disch := decide) only [qco]) (by simp (disch := decide) only [qco]) (by simp (disch := decide) only [qco]) (by simp (disch := decide) only [qco]) (by simp (disch := decide) only [qco]) (by simp (disch := decide) only [qco]) (by simp (disch := decide) only [qco]) (by simp (disch := decide) only [qco]) (by simp (disch := decide) only [qco]) (by simp (disch := decide) only [qco]) (by simp (disch := decide) only [qco]), sl.ext ok' el, skip (by simp [apartE, d1])⟩
    by_cases d2 : e.1 = d.2
    · simp (maxSteps := 1000000) (disch := first | decide | assumption | omega | (simp only [AH.add_n, AH.put_n, AH.mark_n, zcq, AH.back_n] <;> omega) | (repeat (first | assumption | exact zca.eq_1 _ | (refine zfc ?_ ?_; (first | omega | (simp only [AH.add_n, AH.put_n, AH.mark_n, zcq, AH.back_n] <;> omega))) | refine AH.ok.add ?_ _ | refine AH.ok.mark ?_ | (refine AH.ok_put1 ?_ ?_; (first | omega | (simp only [AH.add_n, AH.put_n, AH.mark_n, zcq, AH.back_n] <;> omega))) | refine AH.has_put ?_ _ _ | refine AH.has_mark ?_ | (refine AH.has_new1 ?_ ?_; (first | omega | (simp only [AH.add_n, AH.put_n, AH.mark_n, zcq, AH.back_n] <;> omega))) | refine AH.has_add ?_ _ ?_ | (apply AH.has_of; assumption)))) only [qdb, qdv, zdx, zcp, qcs, zbm, zcg, zdz, qch, zef, zaw, zbt, qbv, qat, qar, zaf, qaa, qak, qau, qbx, zcb, zfa, qdm, qbl, Bool.or_true, cond_true, qez, qea, zcy, zcj, zei, zez, zer, zfb, zeh, qfa, qee, qeb, zao, zey, qfb, qav, qco, zdn, qdf, qdi, zbp, qaf, zae, qcx, qay, zbd, qcb, qaq, qac, zdg, zal, zan, zag, qag, AH.get_new, AH.get_add_old, AH.get_put_other, AH.put_same, List.length_cons, List.length_nil, Option.bind_some, Option.map_some, qeq, zes, qeo, decide_true, decide_false, Bool.not_true, Bool.not_false, qby, Nat.zero_add, Nat.add_zero, Nat.mul_one, Int.toNat_zero, Int.toNat_one, true_and, t50, t51, t52, C.t15, C.g15, hjl, hjl', p1, p2, d1, eq_true d2]
      exact ⟨C.step el (by simp (disch := decide) only [qco]) (by simp (disch := decide) only [qco]) (by simp (disch := decide) only [qco]) (by simp (disch := decide) only [qco]) (by simp (disch := decide) only [qco]) (by simp (disch := decide) only [qco]) (by simp (disch := decide) only [qco]) (by simp (disch := decide) only [qco]) (by simp (disch := decide) only [qco]) (by simp (disch := decide) only [qco]) (by simp (disch := decide) only [qco]), sl.ext ok' el, skip (by simp [apartE, d2])⟩
    by_cases d3 : e.2 = d.1
    · simp (maxSteps := 1000000) (disch := first | decide | assumption | omega | (simp only [AH.add_n, AH.put_n, AH.mark_n, zcq, AH.back_n] <;> omega) | (repeat (first | assumption | exact zca.eq_1 _ | (refine zfc ?_ ?_; (first | omega | (simp only [AH.add_n, AH.put_n, AH.mark_n, zcq, AH.back_n] <;> omega))) | refine AH.ok.add ?_ _ | refine AH.ok.mark ?_ | (refine AH.ok_put1 ?_ ?_; (first | omega | (simp only [AH.add_n, AH.put_n, AH.mark_n, zcq, AH.back_n] <;> omega))) | refine AH.has_put ?_ _ _ | refine AH.has_mark ?_ | (refine AH.has_new1 ?_ ?_; (first | omega | (simp only [AH.add_n, AH.put_n, AH.mark_n, zcq, AH.back_n] <;> omega))) | refine AH.has_add ?_ _ ?_ | (apply AH.has_of; assumption)))) only [qdb, qdv, zdx, zcp, qcs, zbm, zcg, zdz, qch, zef, zaw, zbt, qbv, qat, qar, zaf, qaa, qak, qau, qbx, zcb, zfa, qdm, qbl, Bool.or_true, cond_true, qez, qea, zcy, zcj, zei, zez, zer, zfb, zeh, qfa, qee, qeb, zao, zey, qfb, qav, qco, zdn, qdf, qdi, zbp, qaf, zae, qcx, qay, zbd, qcb, qaq, qac, zdg, zal, zan, zag, qag, AH.get_new, AH.get_add_old, AH.get_put_other, AH.put_same, List.length_cons, List.length_nil, Option.bind_some, Option.map_some, qeq, zes, qeo, decide_true, decide_false, Bool.not_true, Bool.not_false, qby, Nat.zero_add, Nat.add_zero, Nat.mul_one, Int.toNat_zero, Int.toNat_one, true_and, t50, t51, t52, C.t15, C.g15, hjl, hjl', p1, p2, d1, d2, eq_true d3]
      exact ⟨C.step el (by simp (disch := decide) only [qco]) (by simp (disch := decide) only [qco]) (by simp (disch := decide) only [qco]) (by simp (disch := decide) only [qco]) (by simp (disch := decide) only [qco]) (by simp (disch := decide) only [qco]) (by simp (disch := decide) only [qco]) (by simp (disch := decide) only [qco]) (by simp (disch := decide) only [qco]) (by simp (disch := decide) only [qco]) (by simp (disch := decide) only [qco]), sl.ext ok' el, skip (by simp [apartE, d3])⟩
    by_cases d4 : e.2 = d.2
    · simp (maxSteps := 1000000) (disch := first | decide | assumption | omega | (simp only [AH.add_n, AH.put_n, AH.mark_n, zcq, AH.back_n] <;> omega) | (repeat (first | assumption | exact zca.eq_1 _ | (refine zfc ?_ ?_; (first | omega | (simp only [AH.add_n, AH.put_n, AH.mark_n, zcq, AH.back_n] <;> omega))) | refine AH.ok.add ?_ _ | refine AH.ok.mark ?_ | (refine AH.ok_put1 ?_ ?_; (first | omega | (simp only [AH.add_n, AH.put_n, AH.mark_n, zcq, AH.back_n] <;> omega))) | refine AH.has_put ?_ _ _ | refine AH.has_mark ?_ | (refine AH.has_new1 ?_ ?_; (first | omega | (simp only [AH.add_n, AH.put_n, AH.mark_n, zcq, AH.back_n] <;> omega))) | refine AH.has_add ?_ _ ?_ | (apply AH.has_of; assumption)))) only [qdb, qdv, zdx, zcp, qcs, zbm, zcg, zdz, qch, zef, zaw, zbt, qbv, qat, qar, zaf, qaa, qak, qau, qbx, zcb, zfa, qdm, qbl, Bool.or_true, cond_true, qez, qea, zcy, zcj, zei, zez, zer, zfb, zeh, qfa, qee, qeb, zao, zey, qfb, qav, qco, zdn, qdf, qdi, zbp, qaf, zae, qcx, qay, zbd, qcb, qaq, qac, zdg, zal, zan, zag, qag, AH.get_new, AH.get_add_old, AH.get_put_other, AH.put_same, List.length_cons, List.length_nil, Option.bind_some, Option.map_some, qeq, zes, qeo, decide_true, decide_false, Bool.not_true, Bool.not_false, qby, Nat.zero_add, Nat.add_zero, Nat.mul_one, Int.toNat_zero, Int.toNat_one, true_and, t50, t51, t52, C.t15, C.g15, hjl, hjl', p1, p2, d1, d2, d3, eq_true d4]
      exact ⟨C.step el (by simp (disch := decide) only [qco]) (by simp (disch := decide) only [qco]) (by simp (disch := decide) only [qco]) (by simp (disch := decide) only [qco]) (by simp (disch := decide) only [qco]) (by simp (disch := decide) only [qco]) (by simp (disch := decide) only [qco]) (by simp (disch := decide) only [qco]) (by simp (disch := decide) only [qco]) (by simp (disch := decide) only [qco]) (by simp (disch := decide) only [qco]), sl.ext ok' el, skip (by simp [apartE, d4])⟩
    have hap' : apartE e d = true := by simp [apartE, d1, d2, d3, d4]
    simp (maxSteps := 1000000) (disch := first | decide | assumption | omega | (simp only [AH.add_n, AH.put_n, AH.mark_n, zcq, AH.back_n] <;> omega) | (repeat (first | assumption | exact zca.eq_1 _ | (refine zfc ?_ ?_; (first | omega | (simp only [AH.add_n, AH.put_n, AH.mark_n, zcq, AH.back_n] <;> omega))) | refine AH.ok.add ?_ _ | refine AH.ok.mark ?_ | (refine AH.ok_put1 ?_ ?_; (first | omega | (simp only [AH.add_n, AH.put_n, AH.mark_n, zcq, AH.back_n] <;> omega))) | refine AH.has_put ?_ _ _ | refine AH.has_mark ?_ | (refine AH.has_new1 ?_ ?_; (first | omega | (simp only [AH.add_n, AH.put_n, AH.mark_n, zcq, AH.back_n] <;> omega))) | refine AH.has_add ?_ _ ?_ | (apply AH.has_of; assumption)))) only [qdb, qdv, zdx, zcp, qcs, zbm, zcg, zdz, qch, zaw, qah, zbt, qbv, qat, zaf, qbx, zcb, zfa, qey, qdm, zea, zdr, zet, zde, zdc, qds, qbp, zbk, qca, Bool.or_true, Bool.or_false, cond_true, cond_false, qez, qea, zcy, zei, zez, zer, zfb, zeh, qfa, qee, qeb, zao, zey, qfb, qcg, zbi, qav, qco, zdn, qdf, qdi, zbp, qaf, zae, qcx, qay, zbd, qcb, qaq, qac, zdg, zal, zan, zag, qag, AH.get_new, AH.get_add_old, AH.get_put_other, AH.put_same, AH.mark_get, AH.get_loose, qal, zap, qab, List.nil_append, List.cons_append, List.append_nil, List.length_cons, List.length_nil, Option.bind_some, Option.map_some, zes, qeo, decide_true, decide_false, Bool.not_false, Nat.zero_add, Nat.add_zero, Nat.mul_one, Int.toNat_zero, Int.toNat_one, zbn, AH.mark_mark, true_and, AH.add_n, AH.put_n, AH.mark_n, t50, t51, t52, C.t15, C.t16, C.t17, C.g15, C.g16, C.g17, C.c.t1, hjl', p1, p2, a1, a2, b1, b2, d1, d2, d3, d4]
    refine WF.val (meet_spec B (pt P e.1) (pt P e.2) (pt P d.1) (pt P d.2) Ia Ib Ja Jb _ ((el.mark).ok ok')) fun G eG => ?_
    have x2 := el.mark.trans eG
    have k2 := x2.ok ok'
    have n2 := x2.n
    have CG := C.c.step x2 rfl rfl rfl rfl
    cases ho : meetB (pt P e.1) (pt P e.2) (pt P d.1) (pt P d.2) with
    | true =>
      have hno : ¬ ClearP (form E) P := fun hc => by
        have := (hc.2 i hlt).2 d (by rw [← hd]; exact List.mem_take_iff_getElem.mpr ⟨j, by omega, rfl⟩) (by rw [he]; exact hap')
        rw [he, ho] at this; cases this
      have g5 := CG.g5
      have g7 := CG.g7
      simp (maxSteps := 1000000) (disch := first | decide | assumption | omega | (simp only [AH.add_n, AH.put_n, AH.mark_n, zcq, AH.back_n] <;> omega) | (repeat (first | assumption | exact zca.eq_1 _ | (refine zfc ?_ ?_; (first | omega | (simp only [AH.add_n, AH.put_n, AH.mark_n, zcq, AH.back_n] <;> omega))) | refine AH.ok.add ?_ _ | refine AH.ok.mark ?_ | (refine AH.ok_put1 ?_ ?_; (first | omega | (simp only [AH.add_n, AH.put_n, AH.mark_n, zcq, AH.back_n] <;> omega))) | refine AH.has_put ?_ _ _ | refine AH.has_mark ?_ | (refine AH.has_new1 ?_ ?_; (first | omega | (simp only [AH.add_n, AH.put_n, AH.mark_n, zcq, AH.back_n] <;> omega))) | refine AH.has_add ?_ _ ?_ | (apply AH.has_of; assumption)))) only [qdb, qdv, zcp, zdl, qch, zef, zaw, zaf, qbh, qaj, qcf, qbx, zcb, zfa, qdm, qbl, zde, zdo, Bool.or_true, Bool.or_false, qez, qea, zcy, zer, zfb, zey, qfb, qav, qco, qdf, qdi, zbp, qaf, zae, qcx, qay, zbd, qaq, qac, zdg, zal, zag, qag, AH.put_same, List.length_cons, List.length_nil, Option.bind_some, Option.map_some, qec, qbe, qdd, qae, qeg, Nat.zero_add, true_and, C.c.t5, C.c.t7, g7, g5, ne_eq, not_true_eq_false, false_imp_iff, forall_const]
      exact nor G CG.e (by omega) hno
    | false =>
      simp (maxSteps := 1000000) (disch := first | decide | assumption | omega | (simp only [AH.add_n, AH.put_n, AH.mark_n, zcq, AH.back_n] <;> omega) | (repeat (first | assumption | exact zca.eq_1 _ | (refine zfc ?_ ?_; (first | omega | (simp only [AH.add_n, AH.put_n, AH.mark_n, zcq, AH.back_n] <;> omega))) | refine AH.ok.add ?_ _ | refine AH.ok.mark ?_ | (refine AH.ok_put1 ?_ ?_; (first | omega | (simp only [AH.add_n, AH.put_n, AH.mark_n, zcq, AH.back_n] <;> omega))) | refine AH.has_put ?_ _ _ | refine AH.has_mark ?_ | (refine AH.has_new1 ?_ ?_; (first | omega | (simp only [AH.add_n, AH.put_n, AH.mark_n, zcq, AH.back_n] <;> omega))) | refine AH.has_add ?_ _ ?_ | (apply AH.has_of; assumption)))) only [qdb, zdx, qcs, zcg, zdz, qch, zef, zaw, zaf, qaa, qak, qau, qbx, zfa, qbl, Bool.or_true, qez, qea, zcy, zcj, zeh, zey, qfb, qav, qco, qdf, zbd, qeq, qby, true_and, t50, t51, t52, hjl]
      refine ⟨C.step x2 (by simp (disch := decide) only [qco]) (by simp (disch := decide) only [qco]) (by simp (disch := decide) only [qco]) (by simp (disch := decide) only [qco]) (by simp (disch := decide) only [qco]) (by simp (disch := decide) only [qco]) (by simp (disch := decide) only [qco]) (by simp (disch := decide) only [qco]) (by simp (disch := decide) only [qco]) (by simp (disch := decide) only [qco]) (by simp (disch := decide) only [qco]), sl.ext ok' x2, fun q hq hq2 => ?_⟩
      rw [htake] at hq
      rcases List.mem_append.mp hq with hq | hq
      · exact hge q hq hq2
      · have : q = d := by simpa using hq
        rw [this]; exact ho
  have hjl' : ¬ (j : Int) < (i : Int) := by omega
  have hje : j = i := by omega
  rw [hje] at hge
  simp (maxSteps := 1000000) (disch := first | decide | assumption | omega | (simp only [AH.add_n, AH.put_n, AH.mark_n, zcq, AH.back_n] <;> omega) | (repeat (first | assumption | exact zca.eq_1 _ | (refine zfc ?_ ?_; (first | omega | (simp only [AH.add_n, AH.put_n, AH.mark_n, zcq, AH.back_n] <;> omega))) | refine AH.ok.add ?_ _ | refine AH.ok.mark ?_ | (refine AH.ok_put1 ?_ ?_; (first | omega | (simp only [AH.add_n, AH.put_n, AH.mark_n, zcq, AH.back_n] <;> omega))) | refine AH.has_put ?_ _ _ | refine AH.has_mark ?_ | (refine AH.has_new1 ?_ ?_; (first | omega | (simp only [AH.add_n, AH.put_n, AH.mark_n, zcq, AH.back_n] <;> omega))) | refine AH.has_add ?_ _ ?_ | (apply AH.has_of; assumption)))) only [qdb, qdv, zdx, zcl, zcg, zdz, zaf, zat, qaa, zad, qak, qbz, qau, qbx, zfa, qez, zcj, zeh, zey, qfb, qav, qco, qdf, zbd, qeq, zes, decide_false, qby, true_and, t51, t52, hjl', C.t31, hlt]
  refine ⟨C.c.step (Ext.refl _) (by simp (disch := decide) only [qco]) (by simp (disch := decide) only [qco]) (by simp (disch := decide) only [qco]) (by simp (disch := decide) only [qco]), by simp (disch := decide) only [C.t27], by simp (disch := decide) only [C.t30], fun k hk hki => ?_⟩
  by_cases hkk : k = i
  · subst hkk
    rw [he]
    exact ⟨hgv, hge⟩
  · exact hgood k hk (by omega)
end Go.AM.Zd
end
section
/- The document's test of a drawing, walked. Conditions: a graph without fault, as many points as nodes, none too far off. -/
namespace Go.AM.Zd
set_option maxHeartbeats 32000000
variable {F : Tr AFunc} {orc : Orc}
def lineV (P : List Pt) (l : List (Int × Int)) (i : Nat) : Prop := ∀ e ∈ l, e.1 ≠ (i : Int) → e.2 ≠ (i : Int) → lineB (pt P e.1) (pt P e.2) (pt P i) = false
def goodM (P : List Pt) (e : Int × Int) (l : List (Int × Int)) : Prop := ∀ d ∈ l, apartE e d = true → MeetB (pt P e.1) (pt P e.2) (pt P d.1) (pt P d.2) = false
def nodesR (P : List Pt) (E : List (Int × Int)) (n : Nat) : Prop := ∀ i, i < n → pt P i ∉ P.take i ∧ lineV P E i
def ClearR (E : List (Int × Int)) (P : List Pt) : Prop := nodesR P E P.length ∧ ∀ i (h : i < E.length), goodM P E[i] (E.take i)
structure Cd (h : AH) (ps es : AV) (N : Int) (E : List (Int × Int)) (P : List Pt) (t : Tmps) (hh : AH) : Prop where
  t1 : tget t s001 = ps
  t2 : tget t s002 = .ptr h.n 0
  e : Ext h hh
  ok : hh.ok
  g : hh.get h.n = some (.cells true [.i .i64 N, es])
  se : SlAt hh 2 es (E.map pr)
  sp : SlAt hh 2 ps (P.map pr)
theorem Cd.step {h : AH} {ps es : AV} {N : Int} {E : List (Int × Int)} {P : List Pt} {t t' : Tmps} {hh h' : AH} (c : Cd h ps es N E P t hh) (e : Ext hh h') (t1 : tget t' s001 = tget t s001) (t2 : tget t' s002 = tget t s002) : Cd h ps es N E P t' h' :=
  ⟨t1.trans c.t1, t2.trans c.t2, c.e.trans e, e.ok c.ok, e.get_some c.ok c.g, c.se.ext c.ok e, c.sp.ext c.ok e⟩
theorem ClearDrawing_spec (B : TB F orc) (N : Int) (E : List (Int × Int)) (es : AV) (P : List Pt) (ps : AV) (h : AH) (ok : h.ok) (s : SlAt h 2 es (E.map pr)) (sp : SlAt h 2 ps (P.map pr)) (c : (chk N E).1 = 0) (cN : (P.length : Int) = N) (hPin : ∀ p ∈ P, InP p) :
    WF F orc 15 [.agg [.i .i64 N, es], ps] h (fun v h' => (∃ b, v = .b b ∧ (b = true ↔ ClearR E P)) ∧ Ext h h') := by
  refine WF.enter B.o15 B.f15 rfl ?_
  have fl : AV.flat es = [es] := s.flat
  have hck := chk_ok c
  simp (maxSteps := 1000000) (disch := first | decide | assumption | omega | (simp only [AH.add_n, AH.put_n, AH.mark_n, zcq, AH.back_n] <;> omega) | (repeat (first | assumption | exact zca.eq_1 _ | (refine zfc ?_ ?_; (first | omega | (simp only [AH.add_n, AH.put_n, AH.mark_n, zcq, AH.back_n] <;> omega))) | refine AH.ok.add ?_ _ | refine AH.ok.mark ?_ | (refine AH.ok_put1 ?_ ?_; (first | omega | (simp only [AH.add_n, AH.put_n, AH.mark_n, zcq, AH.back_n] <;> omega))) | refine AH.has_put ?_ _ _ | refine AH.has_mark ?_ | (refine AH.has_new1 ?_ ?_; (first | omega | (simp only [AH.add_n, AH.put_n, AH.mark_n, zcq, AH.back_n] <;> omega))) | refine AH.has_add ?_ _ ?_ | (apply AH.has_of; assumption)))) only [qdv, zdx, zbm, zcg, zdz, zaf, qbx, zfa, qez, zeo, zey, qfb, qav, qco, zdn, qdf, zbp, List.length_cons, List.length_nil, qer, Nat.zero_add, true_and, g15]
  refine WC.up P.length (fun i t hh => Cd h ps es N E P t hh ∧ tget t s005 = .i .i64 i ∧ nodesR P E i) ?_ 0 _ _ (Nat.zero_le _) ?_
  rotate_left
  · simp (maxSteps := 1000000) (disch := first | decide | assumption | omega | (simp only [AH.add_n, AH.put_n, AH.mark_n, zcq, AH.back_n] <;> omega) | (repeat (first | assumption | exact zca.eq_1 _ | (refine zfc ?_ ?_; (first | omega | (simp only [AH.add_n, AH.put_n, AH.mark_n, zcq, AH.back_n] <;> omega))) | refine AH.ok.add ?_ _ | refine AH.ok.mark ?_ | (refine AH.ok_put1 ?_ ?_; (first | omega | (simp only [AH.add_n, AH.put_n, AH.mark_n, zcq, AH.back_n] <;> omega))) | refine AH.has_put ?_ _ _ | refine AH.has_mark ?_ | (refine AH.has_new1 ?_ ?_; (first | omega | (simp only [AH.add_n, AH.put_n, AH.mark_n, zcq, AH.back_n] <;> omega))) | refine AH.has_add ?_ _ ?_ | (apply AH.has_of; assumption)))) only [Int.natCast_zero, qav, true_and]
    have x1 : Ext h (h.add (.cells true [.i .i64 N, es])) := (Ext.refl h).add _
    exact ⟨⟨by simp (disch := decide) only [qav, qco], by simp (disch := decide) only [qav, qco], x1, x1.ok ok, by simp (maxSteps := 1000000) (disch := first | decide | assumption | omega | (simp only [AH.add_n, AH.put_n, AH.mark_n, zcq, AH.back_n] <;> omega) | (repeat (first | assumption | exact zca.eq_1 _ | (refine zfc ?_ ?_; (first | omega | (simp only [AH.add_n, AH.put_n, AH.mark_n, zcq, AH.back_n] <;> omega))) | refine AH.ok.add ?_ _ | refine AH.ok.mark ?_ | (refine AH.ok_put1 ?_ ?_; (first | omega | (simp only [AH.add_n, AH.put_n, AH.mark_n, zcq, AH.back_n] <;> omega))) | refine AH.has_put ?_ _ _ | refine AH.has_mark ?_ | (refine AH.has_new1 ?_ ?_; (first | omega | (simp only [AH.add_n, AH.put_n, AH.mark_n, zcq, AH.back_n] <;> omega))) | refine AH.has_add ?_ _ ?_ | (apply AH.has_of; assumption)))) only [AH.get_new], s.ext ok x1, sp.ext ok x1⟩, fun i hi => absurd hi (by omega)⟩
  intro i t hh hi ⟨C, t5, hno⟩
  have ok' := C.ok
  have g := C.g
  have ln := ok'.lt g
  have nor : ∀ G : AH, Ext h G → ¬ ClearR E P → (∃ b, AV.b false = AV.b b ∧ (b = true ↔ ClearR E P)) ∧ Ext h G := fun G e1 e2 => ⟨⟨false, rfl, by simp [e2]⟩, e1⟩
  by_cases hlt : i < P.length
  rotate_left
  · have hlt' : ¬ (i : Int) < N := by omega
    have hie : i = P.length := by omega
    rw [hie] at hno
    simp (maxSteps := 1000000) (disch := first | decide | assumption | omega | (simp only [AH.add_n, AH.put_n, AH.mark_n, zcq, AH.back_n] <;> omega) | (repeat (first | assumption | exact zca.eq_1 _ | (refine zfc ?_ ?_; (first | omega | (simp only [AH.add_n, AH.put_n, AH.mark_n, zcq, AH.back_n] <;> omega))) | refine AH.ok.add ?_ _ | refine AH.ok.mark ?_ | (refine AH.ok_put1 ?_ ?_; (first | omega | (simp only [AH.add_n, AH.put_n, AH.mark_n, zcq, AH.back_n] <;> omega))) | refine AH.has_put ?_ _ _ | refine AH.has_mark ?_ | (refine AH.has_new1 ?_ ?_; (first | omega | (simp only [AH.add_n, AH.put_n, AH.mark_n, zcq, AH.back_n] <;> omega))) | refine AH.has_add ?_ _ ?_ | (apply AH.has_of; assumption)))) only [qdb, qdv, zdx, zcl, zbm, zcg, zdz, zaf, zat, zad, qbz, qbx, zfa, qez, zcj, zez, zeh, qdj, zbg, zey, qfb, qav, qco, qdf, zbd, qcb, qaq, qac, zdg, zal, zag, qag, Option.bind_some, Option.map_some, zes, decide_false, Nat.add_zero, t5, C.t2, g, hlt']
    clear t5 hie hlt hi
    -- edges against edges
    refine WC.up E.length (fun i t hh => Cd h ps es N E P t hh ∧ tget t s011 = .i .i64 i ∧ ∀ k (hk : k < E.length), k < i → goodM P E[k] (E.take k)) ?_ 0 _ _ (Nat.zero_le _) ?_
    rotate_left
    · simp (maxSteps := 1000000) (disch := first | decide | assumption | omega | (simp only [AH.add_n, AH.put_n, AH.mark_n, zcq, AH.back_n] <;> omega) | (repeat (first | assumption | exact zca.eq_1 _ | (refine zfc ?_ ?_; (first | omega | (simp only [AH.add_n, AH.put_n, AH.mark_n, zcq, AH.back_n] <;> omega))) | refine AH.ok.add ?_ _ | refine AH.ok.mark ?_ | (refine AH.ok_put1 ?_ ?_; (first | omega | (simp only [AH.add_n, AH.put_n, AH.mark_n, zcq, AH.back_n] <;> omega))) | refine AH.has_put ?_ _ _ | refine AH.has_mark ?_ | (refine AH.has_new1 ?_ ?_; (first | omega | (simp only [AH.add_n, AH.put_n, AH.mark_n, zcq, AH.back_n] <;> omega))) | refine AH.has_add ?_ _ ?_ | (apply AH.has_of; assumption)))) only [Int.natCast_zero, qav, true_and]
      exact ⟨C.step (Ext.refl _) (by simp (disch := decide) only [qco]) (by simp (disch := decide) only [qco]), fun k _ hk => absurd hk (by omega)⟩
    clear hlt' C ok' g ln t hh
    intro i t hh hi ⟨C, t11, hgood⟩
    have ok' := C.ok
    have g := C.g
    have ln := ok'.lt g
    have hle := C.se.len
    rw [List.length_map] at hle
    by_cases hlt : i < E.length
    rotate_left
    · have hlt' : ¬ (i : Int) < (E.length : Int) := by omega
      simp (maxSteps := 1000000) (disch := first | decide | assumption | omega | (simp only [AH.add_n, AH.put_n, AH.mark_n, zcq, AH.back_n] <;> omega) | (repeat (first | assumption | exact zca.eq_1 _ | (refine zfc ?_ ?_; (first | omega | (simp only [AH.add_n, AH.put_n, AH.mark_n, zcq, AH.back_n] <;> omega))) | refine AH.ok.add ?_ _ | refine AH.ok.mark ?_ | (refine AH.ok_put1 ?_ ?_; (first | omega | (simp only [AH.add_n, AH.put_n, AH.mark_n, zcq, AH.back_n] <;> omega))) | refine AH.has_put ?_ _ _ | refine AH.has_mark ?_ | (refine AH.has_new1 ?_ ?_; (first | omega | (simp only [AH.add_n, AH.put_n, AH.mark_n, zcq, AH.back_n] <;> omega))) | refine AH.has_add ?_ _ ?_ | (apply AH.has_of; assumption)))) only [qdb, qdv, zdx, zdl, zcl, zcg, zdz, zaf, zat, zad, qbz, qbx, zfa, qez, zcj, zez, zeh, qdj, zbg, qeh, zey, qfb, qav, qco, qdf, zbd, qcb, qaq, qac, zdg, zal, zan, zag, qag, Option.bind_some, Option.map_some, zes, decide_false, qec, qbe, qdd, qei, Nat.zero_add, t11, C.t2, g, hle, hlt']
      exact ⟨⟨true, rfl, by simp only [true_iff]; exact ⟨hno, fun k hk => hgood k hk (by omega)⟩⟩, C.e⟩
    have hlt' : (i : Int) < (E.length : Int) := by omega
    simp (maxSteps := 1000000) (disch := first | decide | assumption | omega | (simp only [AH.add_n, AH.put_n, AH.mark_n, zcq, AH.back_n] <;> omega) | (repeat (first | assumption | exact zca.eq_1 _ | (refine zfc ?_ ?_; (first | omega | (simp only [AH.add_n, AH.put_n, AH.mark_n, zcq, AH.back_n] <;> omega))) | refine AH.ok.add ?_ _ | refine AH.ok.mark ?_ | (refine AH.ok_put1 ?_ ?_; (first | omega | (simp only [AH.add_n, AH.put_n, AH.mark_n, zcq, AH.back_n] <;> omega))) | refine AH.has_put ?_ _ _ | refine AH.has_mark ?_ | (refine AH.has_new1 ?_ ?_; (first | omega | (simp only [AH.add_n, AH.put_n, AH.mark_n, zcq, AH.back_n] <;> omega))) | refine AH.has_add ?_ _ ?_ | (apply AH.has_of; assumption)))) only [qdb, qdv, zdx, qcs, zbm, zcg, zdz, zaf, qbx, zfa, qez, zcy, zez, zeh, qdj, zbg, qeh, zey, qfb, qav, qco, qdf, zbd, qcb, qaq, qac, zdg, zal, zan, zag, qag, Option.bind_some, Option.map_some, zes, decide_true, Nat.zero_add, t11, C.t2, g, hle, hlt']
    refine WC.up i (fun j t hh => Cd h ps es N E P t hh ∧ tget t s011 = .i .i64 i ∧ tget t s012 = .i .i64 j ∧ goodM P E[i] (E.take j)) ?_ 0 _ _ (Nat.zero_le _) ?_
    rotate_left
    · simp (maxSteps := 1000000) (disch := first | decide | assumption | omega | (simp only [AH.add_n, AH.put_n, AH.mark_n, zcq, AH.back_n] <;> omega) | (repeat (first | assumption | exact zca.eq_1 _ | (refine zfc ?_ ?_; (first | omega | (simp only [AH.add_n, AH.put_n, AH.mark_n, zcq, AH.back_n] <;> omega))) | refine AH.ok.add ?_ _ | refine AH.ok.mark ?_ | (refine AH.ok_put1 ?_ ?_; (first | omega | (simp only [AH.add_n, AH.put_n, AH.mark_n, zcq, AH.back_n] <;> omega))) | refine AH.has_put ?_ _ _ | refine AH.has_mark ?_ | (refine AH.has_new1 ?_ ?_; (first | omega | (simp only [AH.add_n, AH.put_n, AH.mark_n, zcq, AH.back_n] <;> omega))) | refine AH.has_add ?_ _ ?_ | (apply AH.has_of; assumption)))) only [Int.natCast_zero, qav, qco, true_and]
      exact ⟨C.step (Ext.refl _) (by simp (disch := decide) only [qco]) (by simp (disch := decide) only [qco]), by simp (disch := decide) only [t11], fun d hd => by simp at hd⟩
    clear t11 hlt' C ok' g ln hle t hh
    intro j t hh hj ⟨C, t11, t12, hge⟩
    have ok' := C.ok
    have g := C.g
    have ln := ok'.lt g
    by_cases hjl : j < i
    rotate_left
    · have hjl' : ¬ (j : Int) < (i : Int) := by omega
      have hje : j = i := by omega
      rw [hje] at hge
      simp (maxSteps := 1000000) (disch := first | decide | assumption | omega | (simp only [AH.add_n, AH.put_n, AH.mark_n, zcq, AH.back_n] <;> omega) | (repeat (first | assumption | exact zca.eq_1 _ | (refine zfc ?_ ?_; (first | omega | (simp only [AH.add_n, AH.put_n, AH.mark_n, zcq, AH.back_n] <;> omega))) | refine AH.ok.add ?_ _ | refine AH.ok.mark ?_ | (refine AH.ok_put1 ?_ ?_; (first | omega | (simp only [AH.add_n, AH.put_n, AH.mark_n, zcq, AH.back_n] <;> omega))) | refine AH.has_put ?_ _ _ | refine AH.has_mark ?_ | (refine AH.has_new1 ?_ ?_; (first | omega | (simp only [AH.add_n, AH.put_n, AH.mark_n, zcq, AH.back_n] <;> omega))) | refine AH.has_add ?_ _ ?_ | (apply AH.has_of; assumption)))) only [qdb, qdv, zdx, zcl, zcg, zdz, zaf, zat, qaa, zad, qak, qbz, qau, qbx, zfa, qez, zcj, zeh, zey, qfb, qav, qco, qdf, zbd, qeq, zes, decide_false, qby, true_and, t11, t12, hjl', hlt]
      refine ⟨C.step (Ext.refl _) (by simp (disch := decide) only [qco]) (by simp (disch := decide) only [qco]), fun k hk hki => ?_⟩
      by_cases hkk : k = i
      · subst hkk; exact hge
      · exact hgood k hk (by omega)
    have hjl' : (j : Int) < (i : Int) := by omega
    have hjL : j < E.length := by omega
    obtain ⟨ix, ox, p1, p2, p3, p4, lp⟩ := C.se.pair ok' hlt
    obtain ⟨iy, oy, r1, r2, r3, r4, lr⟩ := C.se.pair ok' hjL
    have hei := hck.2.2.2 E[i] (List.getElem_mem hlt)
    have hej := hck.2.2.2 E[j] (List.getElem_mem hjL)
    rw [← cN] at hei hej
    have htake : E.take (j + 1) = E.take j ++ [E[j]] := (List.take_append_getElem hjL).symm
    have hdj : E[j] ∈ E.take i := List.mem_take_iff_getElem.mpr ⟨j, by omega, rfl⟩
    obtain ⟨ia, oa, a1, a2, la1⟩ := pairI ok' C.sp hei.1 hei.2.2.1
    obtain ⟨ib, ob, b1, b2, lb1⟩ := pairI ok' C.sp hei.2.1 hei.2.2.2.1
    obtain ⟨ic, oc, c1, c2, lc1⟩ := pairI ok' C.sp hej.1 hej.2.2.1
    obtain ⟨id, od, d1, d2, ld1⟩ := pairI ok' C.sp hej.2.1 hej.2.2.2.1
    have Ia := pt_in hPin hei.1 hei.2.2.1
    have Ib := pt_in hPin hei.2.1 hei.2.2.2.1
    have Ic := pt_in hPin hej.1 hej.2.2.1
    have Id := pt_in hPin hej.2.1 hej.2.2.2.1
    generalize he : E[i] = e at *
    generalize hd : E[j] = d at *
    have skip : apartE e d = false → goodM P e (E.take (j + 1)) := fun ha q hq hap' => by
      rw [htake] at hq
      rcases List.mem_append.mp hq with hq | hq
      · exact hge q hq hap'
      · have : q = d := by simpa using hq
        rw [this, ha] at hap'; cases hap'
    have xm : Ext hh hh.mark := (Ext.refl hh).mark
    by_cases n1 : e.1 = d.1
    · simp (maxSteps := 1000000) (disch := first | decide | assumption | omega | (simp only [AH.add_n, AH.put_n, AH.mark_n, zcq, AH.back_n] <;> omega) | (repeat (first | assumption | exact zca.eq_1 _ | (refine zfc ?_ ?_; (first | omega | (simp only [AH.add_n, AH.put_n, AH.mark_n, zcq, AH.back_n] <;> omega))) | refine AH.ok.add ?_ _ | refine AH.ok.mark ?_ | (refine AH.ok_put1 ?_ ?_; (first | omega | (simp only [AH.add_n, AH.put_n, AH.mark_n, zcq, AH.back_n] <;> omega))) | refine AH.has_put ?_ _ _ | refine AH.has_mark ?_ | (refine AH.has_new1 ?_ ?_; (first | omega | (simp only [AH.add_n, AH.put_n, AH.mark_n, zcq, AH.back_n] <;> omega))) | refine AH.has_add ?_ _ ?_ | (apply AH.has_of; assumption)))) only [qdb, qdv, zdx, zcp, qcs, zbm, zcg, zdz, qch, zef, zaw, qah, qbv, qar, zaf, qaa, qak, qau, qbx, zfa, qey, qdm, qbl, zea, zdr, zet, qdo, zbq, qbp, zbk, Bool.or_true, Bool.or_false, cond_true, cond_false, qez, qea, zcy, zcj, zez, zeh, qfa, qdj, zbg, qee, qeb, zao, zey, qfb, qav, qco, qdf, zbd, qcb, qaq, qac, zdg, zal, zan, zag, qag, AH.mark_get, AH.get_loose, qal, zap, qab, List.nil_append, List.cons_append, List.append_nil, Option.bind_some, Option.map_some, qeq, zes, qeo, decide_true, Bool.not_true, qby, Nat.zero_add, Nat.add_zero, Nat.mul_one, Int.toNat_zero, Int.toNat_one, AH.mark_mark, true_and, AH.mark_n, t11, t12, C.t2, g, hjl, hjl', p1, p3, p4, r1, r3, r4, eq_true n1]
      exact ⟨C.step xm (by simp (disch := decide) only [qco]) (by simp (disch := decide) only [qco]), skip (by simp [apartE, n1])⟩
    by_cases n2 : e.1 = d.2
    · simp (maxSteps := 1000000) (disch := first | decide | assumption | omega | (simp only [AH.add_n, AH.put_n, AH.mark_n, zcq, AH.back_n] <;> omega) | (repeat (first | assumption | exact zca.eq_1 _ | (refine zfc ?_ ?_; (first | omega | (simp only [AH.add_n, AH.put_n, AH.mark_n, zcq, AH.back_n] <;> omega))) | refine AH.ok.add ?_ _ | refine AH.ok.mark ?_ | (refine AH.ok_put1 ?_ ?_; (first | omega | (simp only [AH.add_n, AH.put_n, AH.mark_n, zcq, AH.back_n] <;> omega))) | refine AH.has_put ?_ _ _ | refine AH.has_mark ?_ | (refine AH.has_new1 ?_ ?_; (first | omega | (simp only [AH.add_n, AH.put_n, AH.mark_n, zcq, AH.back_n] <;> omega))) | refine AH.has_add ?_ _ ?_ | (apply AH.has_of; assumption)))) only [qdb, qdv, zdx, zcp, qcs, zbm, zcg, zdz, qch, zef, zaw, qah, qbv, qat, qar, zaf, qaa, qak, qau, qbx, zfa, qey, qdm, qbl, zea, zdr, zet, qdo, zbq, qbp, zbk, Bool.or_true, Bool.or_false, cond_true, cond_false, qez, qea, zcy, zcj, zez, zeh, qfa, qdj, zbg, qee, qeb, zao, zey, qfb, qav, qco, qdf, zbd, qcb, qaq, qac, zdg, zal, zan, zag, qag, AH.mark_get, AH.get_loose, qal, zap, qab, List.nil_append, List.cons_append, List.append_nil, Option.bind_some, Option.map_some, qeq, zes, qeo, decide_true, decide_false, Bool.not_true, Bool.not_false, qby, Nat.zero_add, Nat.add_zero, Nat.mul_one, Int.toNat_zero, Int.toNat_one, AH.mark_mark, true_and, AH.mark_n, t11, t12, C.t2, g, hjl, hjl', p1, p3, p4, r1, r3, r4, n1, eq_true n2]
      exact ⟨C.step xm (by simp (disch := decide) only [qco]) (by simp (disch := decide) only [qco]), skip (by simp [apartE, n2])⟩
    by_cases n3 : e.2 = d.1
    · simp (maxSteps := 1000000) (disch := first | decide | assumption | omega | (simp only [AH.add_n, AH.put_n, AH.mark_n, zcq, AH.back_n] <;> omega) | (repeat (first | assumption | exact zca.eq_1 _ | (refine zfc ?_ ?_; (first | omega | (simp only [AH.add_n, AH.put_n, AH.mark_n, zcq, AH.back_n] <;> omega))) | refine AH.ok.add ?_ _ | refine AH.ok.mark ?_ | (refine AH.ok_put1 ?_ ?_; (first | omega | (simp only [AH.add_n, AH.put_n, AH.mark_n, zcq, AH.back_n] <;> omega))) | refine AH.has_put ?_ _ _ | refine AH.has_mark ?_ | (refine AH.has_new1 ?_ ?_; (first | omega | (simp only [AH.add_n, AH.put_n, AH.mark_n, zcq, AH.back_n] <;> omega))) | refine AH.has_add ?_ _ ?_ | (apply AH.has_of; assumption)))) only [qdb, qdv, zdx, zcp, qcs, zbm, zcg, zdz, qch, zef, zaw, qah, qbv, qat, qar, zaf, qaa, qak, qau, qbx, zfa, qey, qdm, qbl, zea, zdr, zet, qdo, zbq, qbp, zbk, Bool.or_true, Bool.or_false, cond_true, cond_false, qez, qea, zcy, zcj, zez, zeh, qfa, qdj, zbg, qee, qeb, zao, zey, qfb, qav, qco, qdf, zbd, qcb, qaq, qac, zdg, zal, zan, zag, qag, AH.mark_get, AH.get_loose, qal, zap, qab, List.nil_append, List.cons_append, List.append_nil, Option.bind_some, Option.map_some, qeq, zes, qeo, decide_true, decide_false, Bool.not_true, Bool.not_false, qby, Nat.zero_add, Nat.add_zero, Nat.mul_one, Int.toNat_zero, Int.toNat_one, AH.mark_mark, true_and, AH.mark_n, t11, t12, C.t2, g, hjl, hjl', p1, p3, p4, r1, r3, r4, n1, n2, eq_true n3]
      exact ⟨C.step xm (by simp (disch := decide) only [qco]) (by simp (disch := decide) only [qco]), skip (by simp [apartE, n3])⟩
    by_cases n4 : e.2 = d.2
    · simp (maxSteps := 1000000) (disch := first | decide | assumption | omega | (simp only [AH.add_n, AH.put_n, AH.mark_n, zcq, AH.back_n] <;> omega) | (repeat (first | assumption | exact zca.eq_1 _ | (refine zfc ?_ ?_; (first | omega | (simp only [AH.add_n, AH.put_n, AH.mark_n, zcq, AH.back_n] <;> omega))) | refine AH.ok.add ?_ _ | refine AH.ok.mark ?_ | (refine AH.ok_put1 ?_ ?_; (first | omega | (simp only [AH.add_n, AH.put_n, AH.mark_n, zcq, AH.back_n] <;> omega))) | refine AH.has_put ?_ _ _ | refine AH.has_mark ?_ | (refine AH.has_new1 ?_ ?_; (first | omega | (simp only [AH.add_n, AH.put_n, AH.mark_n, zcq, AH.back_n] <;> omega))) | refine AH.has_add ?_ _ ?_ | (apply AH.has_of; assumption)))) only [qdb, qdv, zdx, zcp, qcs, zbm, zcg, zdz, qch, zef, zaw, qah, qbv, qat, qar, zaf, qaa, qak, qau, qbx, zfa, qey, qdm, qbl, zea, zdr, zet, qdo, zbq, qbp, zbk, Bool.or_true, Bool.or_false, cond_true, cond_false, qez, qea, zcy, zcj, zez, zeh, qfa, qdj, zbg, qee, qeb, zao, zey, qfb, qav, qco, qdf, zbd, qcb, qaq, qac, zdg, zal, zan, zag, qag, AH.mark_get, AH.get_loose, qal, zap, qab, List.nil_append, List.cons_append, List.append_nil, Option.bind_some, Option.map_some, qeq, zes, qeo, decide_true, decide_false, Bool.not_true, Bool.not_false, qby, Nat.zero_add, Nat.add_zero, Nat.mul_one, Int.toNat_zero, Int.toNat_one, AH.mark_mark, true_and, AH.mark_n, t11, t12, C.t2, g, hjl, hjl', p1, p3, p4, r1, r3, r4, n1, n2, n3, eq_true n4]
      exact ⟨C.step xm (by simp (disch := decide) only [qco]) (by simp (disch := decide) only [qco]), skip (by simp [apartE, n4])⟩
    have hap' : apartE e d = true := by simp [apartE, n1, n2, n3, n4]
    simp (maxSteps := 1000000) (disch := first | decide | assumption | omega | (simp only [AH.add_n, AH.put_n, AH.mark_n, zcq, AH.back_n] <;> omega) | (repeat (first | assumption | exact zca.eq_1 _ | (refine zfc ?_ ?_; (first | omega | (simp only [AH.add_n, AH.put_n, AH.mark_n, zcq, AH.back_n] <;> omega))) | refine AH.ok.add ?_ _ | refine AH.ok.mark ?_ | (refine AH.ok_put1 ?_ ?_; (first | omega | (simp only [AH.add_n, AH.put_n, AH.mark_n, zcq, AH.back_n] <;> omega))) | refine AH.has_put ?_ _ _ | refine AH.has_mark ?_ | (refine AH.has_new1 ?_ ?_; (first | omega | (simp only [AH.add_n, AH.put_n, AH.mark_n, zcq, AH.back_n] <;> omega))) | refine AH.has_add ?_ _ ?_ | (apply AH.has_of; assumption)))) only [qdb, qdv, zdx, zcp, qcs, zbm, zcg, zdz, qch, zef, zaw, qah, qbv, qat, zaf, qbx, zfa, qey, qdm, qbl, zea, zdr, zet, zde, zdc, qds, qdo, zbq, qbp, zbk, qca, Bool.or_true, Bool.or_false, cond_true, cond_false, qez, qea, zcy, zez, zer, zeh, qfa, qdj, zbg, qee, qeb, zao, zey, qfb, qcg, zbi, qav, qco, qdf, zbd, qcb, qaq, qac, zdg, zal, zan, zag, qag, AH.mark_get, AH.get_loose, qal, zap, qab, List.nil_append, List.cons_append, List.append_nil, Option.bind_some, Option.map_some, zes, qeo, decide_true, decide_false, Bool.not_false, Nat.zero_add, Nat.add_zero, Nat.mul_one, Int.toNat_zero, Int.toNat_one, zbn, AH.mark_mark, AH.mark_n, t11, t12, C.t1, C.t2, g, hjl', p1, p3, p4, r1, r3, r4, n1, n2, n3, n4, a1, a2, b1, b2, c1, c2, d1, d2]
    refine WF.val (Meet_spec B (pt P e.1) (pt P e.2) (pt P d.1) (pt P d.2) Ia Ib Ic Id _ (xm.ok ok')) fun G eG => ?_
    have x2 := xm.trans eG
    have CG := C.step x2 rfl rfl
    cases ho : MeetB (pt P e.1) (pt P e.2) (pt P d.1) (pt P d.2) with
    | true =>
      have hno' : ¬ ClearR E P := fun hc => by
        have := hc.2 i hlt d hdj (by rw [he]; exact hap')
        rw [he, ho] at this; cases this
      simp (maxSteps := 1000000) (disch := first | decide | assumption | omega | (simp only [AH.add_n, AH.put_n, AH.mark_n, zcq, AH.back_n] <;> omega) | (repeat (first | assumption | exact zca.eq_1 _ | (refine zfc ?_ ?_; (first | omega | (simp only [AH.add_n, AH.put_n, AH.mark_n, zcq, AH.back_n] <;> omega))) | refine AH.ok.add ?_ _ | refine AH.ok.mark ?_ | (refine AH.ok_put1 ?_ ?_; (first | omega | (simp only [AH.add_n, AH.put_n, AH.mark_n, zcq, AH.back_n] <;> omega))) | refine AH.has_put ?_ _ _ | refine AH.has_mark ?_ | (refine AH.has_new1 ?_ ?_; (first | omega | (simp only [AH.add_n, AH.put_n, AH.mark_n, zcq, AH.back_n] <;> omega))) | refine AH.has_add ?_ _ ?_ | (apply AH.has_of; assumption)))) only [qdb, qdv, zdx, zdl, zcg, zdz, qch, zef, zaw, zaf, qbh, qaj, qcf, qbx, zfa, qbl, Bool.or_true, qez, qea, zcy, zey, qfb, qav, qco, qdf, zbd, Option.map_some, qec, qbe, qdd, qei]
      exact nor G CG.e hno'
    | false =>
      simp (maxSteps := 1000000) (disch := first | decide | assumption | omega | (simp only [AH.add_n, AH.put_n, AH.mark_n, zcq, AH.back_n] <;> omega) | (repeat (first | assumption | exact zca.eq_1 _ | (refine zfc ?_ ?_; (first | omega | (simp only [AH.add_n, AH.put_n, AH.mark_n, zcq, AH.back_n] <;> omega))) | refine AH.ok.add ?_ _ | refine AH.ok.mark ?_ | (refine AH.ok_put1 ?_ ?_; (first | omega | (simp only [AH.add_n, AH.put_n, AH.mark_n, zcq, AH.back_n] <;> omega))) | refine AH.has_put ?_ _ _ | refine AH.has_mark ?_ | (refine AH.has_new1 ?_ ?_; (first | omega | (simp only [AH.add_n, AH.put_n, AH.mark_n, zcq, AH.back_n] <;> omega))) | refine AH.has_add ?_ _ ?_ | (apply AH.has_of; assumption)))) only [qdb, zdx, qcs, zcg, zdz, qch, zef, zaw, zaf, qaa, qak, qau, qbx, zfa, qbl, Bool.or_true, qez, qea, zcy, zcj, zeh, zey, qfb, qav, qco, qdf, zbd, qeq, qby, true_and, t11, t12, hjl]
      refine ⟨C.step x2 (by simp (disch := decide) only [qco]) (by simp (disch := decide) only [qco]), fun q hq hq2 => ?_⟩
      rw [htake] at hq
      rcases List.mem_append.mp hq with hq | hq
      · exact hge q hq hq2
      · have : q = d := by simpa using hq
        rw [this]; exact ho
  have hlt' : (i : Int) < N := by omega
  simp (maxSteps := 1000000) (disch := first | decide | assumption | omega | (simp only [AH.add_n, AH.put_n, AH.mark_n, zcq, AH.back_n] <;> omega) | (repeat (first | assumption | exact zca.eq_1 _ | (refine zfc ?_ ?_; (first | omega | (simp only [AH.add_n, AH.put_n, AH.mark_n, zcq, AH.back_n] <;> omega))) | refine AH.ok.add ?_ _ | refine AH.ok.mark ?_ | (refine AH.ok_put1 ?_ ?_; (first | omega | (simp only [AH.add_n, AH.put_n, AH.mark_n, zcq, AH.back_n] <;> omega))) | refine AH.has_put ?_ _ _ | refine AH.has_mark ?_ | (refine AH.has_new1 ?_ ?_; (first | omega | (simp only [AH.add_n, AH.put_n, AH.mark_n, zcq, AH.back_n] <;> omega))) | refine AH.has_add ?_ _ ?_ | (apply AH.has_of; assumption)))) only [qdb, qdv, zdx, qcs, zbm, zcg, zdz, zaf, qbx, zfa, qez, zcy, zez, zeh, qdj, zbg, zey, qfb, qav, qco, qdf, zbd, qcb, qaq, qac, zdg, zal, zag, qag, Option.bind_some, Option.map_some, zes, decide_true, Nat.add_zero, t5, C.t2, g, hlt']
  refine WC.up i (fun j t hh => Cd h ps es N E P t hh ∧ tget t s005 = .i .i64 i ∧ tget t s006 = .i .i64 j ∧ pt P i ∉ P.take j) ?_ 0 _ _ (Nat.zero_le _) ?_
  rotate_left
  · simp (maxSteps := 1000000) (disch := first | decide | assumption | omega | (simp only [AH.add_n, AH.put_n, AH.mark_n, zcq, AH.back_n] <;> omega) | (repeat (first | assumption | exact zca.eq_1 _ | (refine zfc ?_ ?_; (first | omega | (simp only [AH.add_n, AH.put_n, AH.mark_n, zcq, AH.back_n] <;> omega))) | refine AH.ok.add ?_ _ | refine AH.ok.mark ?_ | (refine AH.ok_put1 ?_ ?_; (first | omega | (simp only [AH.add_n, AH.put_n, AH.mark_n, zcq, AH.back_n] <;> omega))) | refine AH.has_put ?_ _ _ | refine AH.has_mark ?_ | (refine AH.has_new1 ?_ ?_; (first | omega | (simp only [AH.add_n, AH.put_n, AH.mark_n, zcq, AH.back_n] <;> omega))) | refine AH.has_add ?_ _ ?_ | (apply AH.has_of; assumption)))) only [Int.natCast_zero, qav, qco, true_and]
    exact ⟨C.step (Ext.refl _) (by simp (disch := decide) only [qco]) (by simp (disch := decide) only [qco]), by simp (disch := decide) only [t5], by simp⟩
  clear hlt' C ok' g ln t5 t hh
  intro j t hh hj ⟨C, t5, t6, hnm⟩
  have ok' := C.ok
  have g := C.g
  have ln := ok'.lt g
  by_cases hjl : j < i
  · have hjl' : (j : Int) < (i : Int) := by omega
    have hjP : j < P.length := by omega
    obtain ⟨ix, ox, p1, p2, _, _, lp⟩ := C.sp.pair ok' hlt
    obtain ⟨iy, oy, r1, r2, _, _, lr⟩ := C.sp.pair ok' hjP
    by_cases hq : P[i].1 = P[j].1 ∧ P[i].2 = P[j].2
    · have hPij : P[i] = P[j] := Prod.ext hq.1 hq.2
      have hno' : ¬ ClearR E P := fun hc => (hc.1 i hlt).1 (by rw [pt_nat hlt, hPij]; exact List.mem_take_iff_getElem.mpr ⟨j, by omega, rfl⟩)
      simp (maxSteps := 1000000) (disch := first | decide | assumption | omega | (simp only [AH.add_n, AH.put_n, AH.mark_n, zcq, AH.back_n] <;> omega) | (repeat (first | assumption | exact zca.eq_1 _ | (refine zfc ?_ ?_; (first | omega | (simp only [AH.add_n, AH.put_n, AH.mark_n, zcq, AH.back_n] <;> omega))) | refine AH.ok.add ?_ _ | refine AH.ok.mark ?_ | (refine AH.ok_put1 ?_ ?_; (first | omega | (simp only [AH.add_n, AH.put_n, AH.mark_n, zcq, AH.back_n] <;> omega))) | refine AH.has_put ?_ _ _ | refine AH.has_mark ?_ | (refine AH.has_new1 ?_ ?_; (first | omega | (simp only [AH.add_n, AH.put_n, AH.mark_n, zcq, AH.back_n] <;> omega))) | refine AH.has_add ?_ _ ?_ | (apply AH.has_of; assumption)))) only [qdb, qdv, zdx, zcp, zdl, qcs, zbm, zcg, zdz, qch, zef, zaw, qah, zaf, qbh, qaj, qcf, qbx, zfa, qey, qdm, zde, zdc, qds, qdo, qbp, Bool.or_true, Bool.or_false, cond_false, qez, zcy, zer, zeh, qfa, qee, zey, qfb, qav, qco, qdf, zbd, qaq, AH.mark_get, AH.get_loose, qal, qab, List.append_nil, Option.map_some, zes, zdi, decide_true, Bool.not_true, qec, qbe, qdd, qei, AH.mark_mark, AH.mark_n, t5, t6, C.t1, hjl', p1, p2, r1, r2, eq_true hq]
      exact nor _ C.e.mark hno'
    · simp (maxSteps := 1000000) (disch := first | decide | assumption | omega | (simp only [AH.add_n, AH.put_n, AH.mark_n, zcq, AH.back_n] <;> omega) | (repeat (first | assumption | exact zca.eq_1 _ | (refine zfc ?_ ?_; (first | omega | (simp only [AH.add_n, AH.put_n, AH.mark_n, zcq, AH.back_n] <;> omega))) | refine AH.ok.add ?_ _ | refine AH.ok.mark ?_ | (refine AH.ok_put1 ?_ ?_; (first | omega | (simp only [AH.add_n, AH.put_n, AH.mark_n, zcq, AH.back_n] <;> omega))) | refine AH.has_put ?_ _ _ | refine AH.has_mark ?_ | (refine AH.has_new1 ?_ ?_; (first | omega | (simp only [AH.add_n, AH.put_n, AH.mark_n, zcq, AH.back_n] <;> omega))) | refine AH.has_add ?_ _ ?_ | (apply AH.has_of; assumption)))) only [qdb, qdv, zdx, zcp, qcs, zbm, zcg, zdz, qch, zef, zaw, qah, zaf, qaa, qak, qau, qbx, zfa, qey, qdm, zde, zdc, qds, qdo, qbp, Bool.or_true, Bool.or_false, cond_false, qez, zcy, zcj, zer, zeh, qfa, qee, zey, qfb, qav, qco, qdf, zbd, qaq, AH.mark_get, AH.get_loose, qal, qab, List.append_nil, qeq, zes, zdi, decide_true, decide_false, Bool.not_false, qby, AH.mark_mark, true_and, AH.mark_n, t5, t6, C.t1, hjl, hjl', p1, p2, r1, r2, hq]
      refine ⟨C.step (Ext.refl hh).mark (by simp (disch := decide) only [qco]) (by simp (disch := decide) only [qco]), ?_⟩
      rw [← List.take_append_getElem hjP]
      intro hm
      rcases List.mem_append.mp hm with hm | hm
      · exact hnm hm
      · have : pt P i = P[j] := by simpa using hm
        rw [pt_nat hlt] at this
        exact hq ⟨by rw [this], by rw [this]⟩
  have hjl' : ¬ (j : Int) < (i : Int) := by omega
  have hje : j = i := by omega
  rw [hje] at hnm
  simp (maxSteps := 1000000) (disch := first | decide | assumption | omega | (simp only [AH.add_n, AH.put_n, AH.mark_n, zcq, AH.back_n] <;> omega) | (repeat (first | assumption | exact zca.eq_1 _ | (refine zfc ?_ ?_; (first | omega | (simp only [AH.add_n, AH.put_n, AH.mark_n, zcq, AH.back_n] <;> omega))) | refine AH.ok.add ?_ _ | refine AH.ok.mark ?_ | (refine AH.ok_put1 ?_ ?_; (first | omega | (simp only [AH.add_n, AH.put_n, AH.mark_n, zcq, AH.back_n] <;> omega))) | refine AH.has_put ?_ _ _ | refine AH.has_mark ?_ | (refine AH.has_new1 ?_ ?_; (first | omega | (simp only [AH.add_n, AH.put_n, AH.mark_n, zcq, AH.back_n] <;> omega))) | refine AH.has_add ?_ _ ?_ | (apply AH.has_of; assumption)))) only [qdb, qdv, zdx, zcl, zbm, zcg, zdz, zaf, zat, zad, qbz, qbx, zfa, qez, zcj, zeh, zey, qfb, qav, qco, qdf, zbd, zes, decide_false, t5, t6, hjl']
  clear t6 hje hjl hjl' hj
  -- a node against edges
  refine WC.up E.length (fun k t hh => Cd h ps es N E P t hh ∧ tget t s005 = .i .i64 i ∧ tget t s007 = .i .i64 k ∧ lineV P (E.take k) i) ?_ 0 _ _ (Nat.zero_le _) ?_
  rotate_left
  · simp (maxSteps := 1000000) (disch := first | decide | assumption | omega | (simp only [AH.add_n, AH.put_n, AH.mark_n, zcq, AH.back_n] <;> omega) | (repeat (first | assumption | exact zca.eq_1 _ | (refine zfc ?_ ?_; (first | omega | (simp only [AH.add_n, AH.put_n, AH.mark_n, zcq, AH.back_n] <;> omega))) | refine AH.ok.add ?_ _ | refine AH.ok.mark ?_ | (refine AH.ok_put1 ?_ ?_; (first | omega | (simp only [AH.add_n, AH.put_n, AH.mark_n, zcq, AH.back_n] <;> omega))) | refine AH.has_put ?_ _ _ | refine AH.has_mark ?_ | (refine AH.has_new1 ?_ ?_; (first | omega | (simp only [AH.add_n, AH.put_n, AH.mark_n, zcq, AH.back_n] <;> omega))) | refine AH.has_add ?_ _ ?_ | (apply AH.has_of; assumption)))) only [Int.natCast_zero, qav, qco, true_and]
    exact ⟨C.step (Ext.refl _) (by simp (disch := decide) only [qco]) (by simp (disch := decide) only [qco]), by simp (disch := decide) only [t5], fun d hd => by simp at hd⟩
  clear C ok' g ln t5 t hh
  intro k t hh hk ⟨C, t5, t7, hln⟩
  have ok' := C.ok
  have g := C.g
  have ln := ok'.lt g
  have hle := C.se.len
  rw [List.length_map] at hle
  by_cases hkl : k < E.length
  rotate_left
  · have hkl' : ¬ (k : Int) < (E.length : Int) := by omega
    have hke : k = E.length := by omega
    rw [hke, List.take_length] at hln
    simp (maxSteps := 1000000) (disch := first | decide | assumption | omega | (simp only [AH.add_n, AH.put_n, AH.mark_n, zcq, AH.back_n] <;> omega) | (repeat (first | assumption | exact zca.eq_1 _ | (refine zfc ?_ ?_; (first | omega | (simp only [AH.add_n, AH.put_n, AH.mark_n, zcq, AH.back_n] <;> omega))) | refine AH.ok.add ?_ _ | refine AH.ok.mark ?_ | (refine AH.ok_put1 ?_ ?_; (first | omega | (simp only [AH.add_n, AH.put_n, AH.mark_n, zcq, AH.back_n] <;> omega))) | refine AH.has_put ?_ _ _ | refine AH.has_mark ?_ | (refine AH.has_new1 ?_ ?_; (first | omega | (simp only [AH.add_n, AH.put_n, AH.mark_n, zcq, AH.back_n] <;> omega))) | refine AH.has_add ?_ _ ?_ | (apply AH.has_of; assumption)))) only [qdb, qdv, zdx, zcl, zcg, zdz, zaf, zat, qaa, zad, qak, qbz, qau, qbx, zfa, qez, zcj, zez, zeh, qdj, zbg, qeh, zey, qfb, qav, qco, qdf, zbd, qcb, qaq, qac, zdg, zal, zan, zag, qag, Option.bind_some, Option.map_some, qeq, zes, decide_false, qby, Nat.zero_add, true_and, t5, t7, C.t2, g, hle, hkl', hlt]
    refine ⟨C.step (Ext.refl _) (by simp (disch := decide) only [qco]) (by simp (disch := decide) only [qco]), fun q hq => ?_⟩
    by_cases hqi : q = i
    · subst hqi; exact ⟨hnm, hln⟩
    · exact hno q (by omega)
  have hkl' : (k : Int) < (E.length : Int) := by omega
  obtain ⟨ix, ox, p1, p2, p3, p4, lp⟩ := C.se.pair ok' hkl
  obtain ⟨iy, oy, r1, r2, _, _, lr⟩ := C.sp.pair ok' hlt
  have hei := hck.2.2.2 E[k] (List.getElem_mem hkl)
  rw [← cN] at hei
  have htake : E.take (k + 1) = E.take k ++ [E[k]] := (List.take_append_getElem hkl).symm
  have hmem : E[k] ∈ E := List.getElem_mem hkl
  obtain ⟨ia, oa, a1, a2, la1⟩ := pairI ok' C.sp hei.1 hei.2.2.1
  obtain ⟨ib, ob, b1, b2, lb1⟩ := pairI ok' C.sp hei.2.1 hei.2.2.2.1
  have Ia := pt_in hPin hei.1 hei.2.2.1
  have Ib := pt_in hPin hei.2.1 hei.2.2.2.1
  have Ii := hPin _ (List.getElem_mem hlt)
  generalize he : E[k] = e at *
  have el := ext_loc hh (.cells true [.i .i64 0, .i .i64 0]) (.cells true [.i .i64 e.1, .i .i64 e.2])
  have skip : (e.1 = (i : Int) ∨ e.2 = (i : Int)) → lineV P (E.take (k + 1)) i := fun ha q hq q1 q2 => by
    rw [htake] at hq
    rcases List.mem_append.mp hq with hq | hq
    · exact hln q hq q1 q2
    · have : q = e := by simpa using hq
      rw [this] at q1 q2
      rcases ha with ha | ha
      · exact absurd ha q1
      · exact absurd ha q2
  by_cases n1 : e.1 = (i : Int)
  · simp (maxSteps := 1000000) (disch := first | decide | assumption | omega | (simp only [AH.add_n, AH.put_n, AH.mark_n, zcq, AH.back_n] <;> omega) | (repeat (first | assumption | exact zca.eq_1 _ | (refine zfc ?_ ?_; (first | omega | (simp only [AH.add_n, AH.put_n, AH.mark_n, zcq, AH.back_n] <;> omega))) | refine AH.ok.add ?_ _ | refine AH.ok.mark ?_ | (refine AH.ok_put1 ?_ ?_; (first | omega | (simp only [AH.add_n, AH.put_n, AH.mark_n, zcq, AH.back_n] <;> omega))) | refine AH.has_put ?_ _ _ | refine AH.has_mark ?_ | (refine AH.has_new1 ?_ ?_; (first | omega | (simp only [AH.add_n, AH.put_n, AH.mark_n, zcq, AH.back_n] <;> omega))) | refine AH.has_add ?_ _ ?_ | (apply AH.has_of; assumption)))) only [qdb, qdv, zdx, zcp, qcs, zbm, zcg, zdz, qch, zef, zaw, qbv, qar, zaf, qaa, qak, qau, qbx, zcb, zfa, qdm, qbl, zea, qdo, zbk, Bool.or_true, Bool.or_false, cond_true, qez, qea, zcy, zcj, zei, zez, zer, zfb, zeh, qfa, qdj, zbg, qee, qeb, zao, qeh, zey, qfb, qav, qco, zdn, qdf, qdi, zbp, qaf, zae, qcx, qay, zbd, qcb, qaq, qac, zdg, zal, zan, zag, qag, AH.get_new, AH.put_same, List.length_cons, List.length_nil, Option.bind_some, Option.map_some, qeq, zes, qeo, decide_true, Bool.not_true, qby, Nat.zero_add, Nat.add_zero, Nat.mul_one, Int.toNat_zero, true_and, t5, t7, C.t2, g, hle, hkl, hkl', p1, p2, eq_true n1]
    exact ⟨C.step el (by simp (disch := decide) only [qco]) (by simp (disch := decide) only [qco]), skip (.inl n1)⟩
  by_cases n2 : e.2 = (i : Int)
  · simp (maxSteps := 1000000) (disch := first | decide | assumption | omega | (simp only [AH.add_n, AH.put_n, AH.mark_n, zcq, AH.back_n] <;> omega) | (repeat (first | assumption | exact zca.eq_1 _ | (refine zfc ?_ ?_; (first | omega | (simp only [AH.add_n, AH.put_n, AH.mark_n, zcq, AH.back_n] <;> omega))) | refine AH.ok.add ?_ _ | refine AH.ok.mark ?_ | (refine AH.ok_put1 ?_ ?_; (first | omega | (simp only [AH.add_n, AH.put_n, AH.mark_n, zcq, AH.back_n] <;> omega))) | refine AH.has_put ?_ _ _ | refine AH.has_mark ?_ | (refine AH.has_new1 ?_ ?_; (first | omega | (simp only [AH.add_n, AH.put_n, AH.mark_n, zcq, AH.back_n] <;> omega))) | refine AH.has_add ?_ _ ?_ | (apply AH.has_of; assumption)))) only [qdb, qdv, zdx, zcp, qcs, zbm, zcg, zdz, qch, zef, zaw, qbv, qat, qar, zaf, qaa, qak, qau, qbx, zcb, zfa, qdm, qbl, zea, qdo, zbk, Bool.or_true, Bool.or_false, cond_true, qez, qea, zcy, zcj, zei, zez, zer, zfb, zeh, qfa, qdj, zbg, qee, qeb, zao, qeh, zey, qfb, qav, qco, zdn, qdf, qdi, zbp, qaf, zae, qcx, qay, zbd, qcb, qaq, qac, zdg, zal, zan, zag, qag, AH.get_new, AH.put_same, List.length_cons, List.length_nil, Option.bind_some, Option.map_some, qeq, zes, qeo, decide_true, decide_false, Bool.not_true, Bool.not_false, qby, Nat.zero_add, Nat.add_zero, Nat.mul_one, Int.toNat_zero, Int.toNat_one, true_and, t5, t7, C.t2, g, hle, hkl, hkl', p1, p2, n1, eq_true n2]
    exact ⟨C.step el (by simp (disch := decide) only [qco]) (by simp (disch := decide) only [qco]), skip (.inr n2)⟩
  simp (maxSteps := 1000000) (disch := first | decide | assumption | omega | (simp only [AH.add_n, AH.put_n, AH.mark_n, zcq, AH.back_n] <;> omega) | (repeat (first | assumption | exact zca.eq_1 _ | (refine zfc ?_ ?_; (first | omega | (simp only [AH.add_n, AH.put_n, AH.mark_n, zcq, AH.back_n] <;> omega))) | refine AH.ok.add ?_ _ | refine AH.ok.mark ?_ | (refine AH.ok_put1 ?_ ?_; (first | omega | (simp only [AH.add_n, AH.put_n, AH.mark_n, zcq, AH.back_n] <;> omega))) | refine AH.has_put ?_ _ _ | refine AH.has_mark ?_ | (refine AH.has_new1 ?_ ?_; (first | omega | (simp only [AH.add_n, AH.put_n, AH.mark_n, zcq, AH.back_n] <;> omega))) | refine AH.has_add ?_ _ ?_ | (apply AH.has_of; assumption)))) only [qdb, qdv, zdx, zcp, qcs, zbm, zcg, zdz, qch, zaw, qah, qbv, qat, zaf, qbx, zcb, zfa, qey, qdm, qbl, zea, zdr, zet, zde, zdc, qds, qdo, qbp, zbk, qca, Bool.or_true, Bool.or_false, cond_true, cond_false, qez, qea, zcy, zei, zez, zer, zfb, zeh, qfa, qdj, zbg, qee, qeb, zao, qeh, zey, qfb, qcg, zbi, qav, qco, zdn, qdf, qdi, zbp, qaf, zae, qcx, qay, zbd, qcb, qaq, qac, zdg, zal, zan, zag, qag, AH.get_new, AH.get_add_old, AH.get_put_other, AH.put_same, AH.mark_get, AH.get_loose, qal, zap, qab, List.nil_append, List.cons_append, List.append_nil, List.length_cons, List.length_nil, Option.bind_some, Option.map_some, zes, qeo, decide_true, decide_false, Bool.not_false, Nat.zero_add, Nat.add_zero, Nat.mul_one, Int.toNat_zero, Int.toNat_one, zbn, AH.mark_mark, true_and, AH.add_n, AH.put_n, AH.mark_n, t5, t7, C.t1, C.t2, g, hle, hkl', p1, p2, n1, n2, a1, a2, b1, b2, r1, r2]
  refine WF.val (OnLine_spec B (pt P e.1) (pt P e.2) P[i] Ia Ib Ii _ (el.mark.ok ok')) fun G eG => ?_
  have x2 := el.mark.trans eG
  have CG := C.step x2 rfl rfl
  cases ho : lineB (pt P e.1) (pt P e.2) P[i] with
  | true =>
    have hno' : ¬ ClearR E P := fun hc => by
      have := (hc.1 i hlt).2 e hmem n1 n2
      rw [pt_nat hlt, ho] at this; cases this
    simp (maxSteps := 1000000) (disch := first | decide | assumption | omega | (simp only [AH.add_n, AH.put_n, AH.mark_n, zcq, AH.back_n] <;> omega) | (repeat (first | assumption | exact zca.eq_1 _ | (refine zfc ?_ ?_; (first | omega | (simp only [AH.add_n, AH.put_n, AH.mark_n, zcq, AH.back_n] <;> omega))) | refine AH.ok.add ?_ _ | refine AH.ok.mark ?_ | (refine AH.ok_put1 ?_ ?_; (first | omega | (simp only [AH.add_n, AH.put_n, AH.mark_n, zcq, AH.back_n] <;> omega))) | refine AH.has_put ?_ _ _ | refine AH.has_mark ?_ | (refine AH.has_new1 ?_ ?_; (first | omega | (simp only [AH.add_n, AH.put_n, AH.mark_n, zcq, AH.back_n] <;> omega))) | refine AH.has_add ?_ _ ?_ | (apply AH.has_of; assumption)))) only [qdb, qdv, zdx, zdl, zcg, zdz, qch, zef, zaw, zaf, qbh, qaj, qcf, qbx, zfa, qbl, Bool.or_true, qez, qea, zcy, zey, qfb, qav, qco, qdf, zbd, Option.map_some, qec, qbe, qdd, qei]
    exact nor G CG.e hno'
  | false =>
    simp (maxSteps := 1000000) (disch := first | decide | assumption | omega | (simp only [AH.add_n, AH.put_n, AH.mark_n, zcq, AH.back_n] <;> omega) | (repeat (first | assumption | exact zca.eq_1 _ | (refine zfc ?_ ?_; (first | omega | (simp only [AH.add_n, AH.put_n, AH.mark_n, zcq, AH.back_n] <;> omega))) | refine AH.ok.add ?_ _ | refine AH.ok.mark ?_ | (refine AH.ok_put1 ?_ ?_; (first | omega | (simp only [AH.add_n, AH.put_n, AH.mark_n, zcq, AH.back_n] <;> omega))) | refine AH.has_put ?_ _ _ | refine AH.has_mark ?_ | (refine AH.has_new1 ?_ ?_; (first | omega | (simp only [AH.add_n, AH.put_n, AH.mark_n, zcq, AH.back_n] <;> omega))) | refine AH.has_add ?_ _ ?_ | (apply AH.has_of; assumption)))) only [qdb, zdx, qcs, zcg, zdz, qch, zef, zaw, zaf, qaa, qak, qau, qbx, zfa, qbl, Bool.or_true, qez, qea, zcy, zcj, zeh, zey, qfb, qav, qco, qdf, zbd, qeq, qby, true_and, t5, t7, hkl]
    refine ⟨C.step x2 (by simp (disch := decide) only [qco]) (by simp (disch := decide) only [qco]), fun q hq q1 q2 => ?_⟩
    rw [htake] at hq
    rcases List.mem_append.mp hq with hq | hq
    · exact hln q hq q1 q2
    · have : q = e := by simpa using hq
      rw [this, pt_nat hlt]; exact ho
end Go.AM.Zd
end
section
/- Plain: the program's test of a drawing and the document's are one. No condition. -/
namespace Go.AM.Zd
set_option maxHeartbeats 4000000
theorem sq_nonneg (x : Int) : 0 ≤ x * x := by
  rcases Int.le_total 0 x with h | h
  · exact Int.mul_nonneg h h
  · exact Int.mul_nonneg_of_nonpos_of_nonpos h h
theorem box_iff (u v : Int) : (min u v ≤ 0 ∧ 0 ≤ max u v) ↔ u * v ≤ 0 := by
  rcases Int.lt_trichotomy 0 u with hu | hu | hu
  · rcases Int.lt_trichotomy 0 v with hv | hv | hv
    · have := Int.mul_pos hu hv; constructor <;> intro h <;> omega
    · subst hv; simp; omega
    · have := Int.mul_neg_of_pos_of_neg hu hv; constructor <;> intro h <;> omega
  · subst hu; simp; omega
  · rcases Int.lt_trichotomy 0 v with hv | hv | hv
    · have := Int.mul_neg_of_neg_of_pos hu hv; constructor <;> intro h <;> omega
    · subst hv; simp; omega
    · have := Int.mul_pos_of_neg_of_neg hu hv; constructor <;> intro h <;> omega
theorem on_line (a b c : Pt) : onB a b c = lineB a b c := by
  obtain ⟨a1, a2⟩ := a; obtain ⟨b1, b2⟩ := b; obtain ⟨c1, c2⟩ := c
  unfold onB lineB
  by_cases hc : crs (a1, a2) (b1, b2) (c1, c2) = 0
  · simp only [hc, decide_true, Bool.true_and]
    have key : (min a1 b1 ≤ c1 ∧ c1 ≤ max a1 b1 ∧ min a2 b2 ≤ c2 ∧ c2 ≤ max a2 b2) ↔ dot (c1, c2) (a1, a2) (b1, b2) ≤ 0 := by
      have k1 := box_iff (a1 - c1) (b1 - c1)
      have k2 := box_iff (a2 - c2) (b2 - c2)
      have e1 : (min a1 b1 ≤ c1 ∧ c1 ≤ max a1 b1) ↔ (a1 - c1) * (b1 - c1) ≤ 0 := by rw [← k1]; omega
      have e2 : (min a2 b2 ≤ c2 ∧ c2 ≤ max a2 b2) ↔ (a2 - c2) * (b2 - c2) ≤ 0 := by rw [← k2]; omega
      have hx : (a1 - c1) * (b2 - c2) = (a2 - c2) * (b1 - c1) := by
        simp only [crs] at hc
        have h1 : (b1 - a1) * (c2 - a2) - (b2 - a2) * (c1 - a1) = (a1 - c1) * (b2 - c2) - (a2 - c2) * (b1 - c1) := by
          grind
        omega
      have hp : 0 ≤ ((a1 - c1) * (b1 - c1)) * ((a2 - c2) * (b2 - c2)) := by
        have : ((a1 - c1) * (b1 - c1)) * ((a2 - c2) * (b2 - c2)) = ((a1 - c1) * (b2 - c2)) * ((a2 - c2) * (b1 - c1)) := by
          generalize a1 - c1 = u1; generalize b1 - c1 = v1; generalize a2 - c2 = u2; generalize b2 - c2 = v2
          rw [Int.mul_assoc, Int.mul_assoc, Int.mul_left_comm v1, Int.mul_left_comm v2, Int.mul_comm v1 v2]
        rw [this, ← hx]; exact sq_nonneg _
      have hd : dot (c1, c2) (a1, a2) (b1, b2) = (a1 - c1) * (b1 - c1) + (a2 - c2) * (b2 - c2) := rfl
      rw [hd]
      generalize (a1 - c1) * (b1 - c1) = x at *
      generalize (a2 - c2) * (b2 - c2) = y at *
      constructor
      · rintro ⟨h1, h2, h3, h4⟩
        have := e1.mp ⟨h1, h2⟩; have := e2.mp ⟨h3, h4⟩; omega
      · intro h
        have hx0 : x ≤ 0 := by
          rcases Int.lt_or_le 0 x with hx | hx
          · rcases Int.lt_or_le y 0 with hy | hy
            · have := Int.mul_neg_of_pos_of_neg hx hy; omega
            · omega
          · exact hx
        have hy0 : y ≤ 0 := by
          rcases Int.lt_or_le 0 y with hy | hy
          · rcases Int.lt_or_le x 0 with hx | hx
            · have := Int.mul_neg_of_neg_of_pos hx hy; omega
            · omega
          · exact hy
        have f1 := e1.mpr hx0; have f2 := e2.mpr hy0
        exact ⟨f1.1, f1.2, f2.1, f2.2⟩
    rw [Bool.eq_iff_iff, decide_eq_true_eq, ← key]
    by_cases h1 : min a1 b1 ≤ c1 <;> by_cases h2 : c1 ≤ max a1 b1 <;> by_cases h3 : min a2 b2 ≤ c2 <;> by_cases h4 : c2 ≤ max a2 b2 <;> simp [h1, h2, h3, h4]
  · simp only [hc, decide_false, Bool.false_and]
theorem sgn_apart (p q : Int) : decide (p.sign * q.sign < 0) = apartB p q := by
  unfold apartB
  rcases Int.lt_trichotomy 0 p with hp | hp | hp <;> rcases Int.lt_trichotomy 0 q with hq | hq | hq
  · rw [Int.sign_eq_one_of_pos hp, Int.sign_eq_one_of_pos hq]; have : ¬ q < 0 := by omega
    have : ¬ p < 0 := by omega
    simp [*]
  · subst hq; simp
  · rw [Int.sign_eq_one_of_pos hp, Int.sign_eq_neg_one_of_neg hq]; simp [*]
  · subst hp; simp
  · subst hp; simp
  · subst hp; simp
  · rw [Int.sign_eq_neg_one_of_neg hp, Int.sign_eq_one_of_pos hq]; simp [*]
  · subst hq; simp
  · rw [Int.sign_eq_neg_one_of_neg hp, Int.sign_eq_neg_one_of_neg hq]; have : ¬ 0 < q := by omega
    have : ¬ 0 < p := by omega
    simp [*]
theorem meet_Meet (a b c d : Pt) : meetB a b c d = MeetB a b c d := by
  unfold meetB MeetB
  rw [sgn_apart, sgn_apart, on_line, on_line, on_line, on_line]
  cases lineB a b c <;> cases lineB a b d <;> cases lineB c d a <;> cases lineB c d b <;> cases (apartB (crs a b c) (crs a b d) && apartB (crs c d a) (crs c d b)) <;> rfl
theorem crs_swap (a b c : Pt) : crs b a c = - crs a b c := by
  obtain ⟨a1, a2⟩ := a; obtain ⟨b1, b2⟩ := b; obtain ⟨c1, c2⟩ := c
  simp only [crs]
  grind
theorem line_swap (a b c : Pt) : lineB b a c = lineB a b c := by
  unfold lineB
  have h1 : (crs b a c = 0) ↔ (crs a b c = 0) := by rw [crs_swap]; omega
  have h2 : dot c b a = dot c a b := by simp only [dot]; rw [Int.mul_comm (b.1 - c.1), Int.mul_comm (b.2 - c.2)]
  rw [h2, decide_eq_decide.mpr h1]
theorem apart_neg (p q : Int) : apartB (-p) (-q) = apartB p q := by
  unfold apartB
  have e1 : (0 < -p) ↔ p < 0 := by omega
  have e2 : (-q < 0) ↔ 0 < q := by omega
  have e3 : (-p < 0) ↔ 0 < p := by omega
  have e4 : (0 < -q) ↔ q < 0 := by omega
  rw [decide_eq_decide.mpr e1, decide_eq_decide.mpr e2, decide_eq_decide.mpr e3, decide_eq_decide.mpr e4]
  cases decide (p < 0) <;> cases decide (0 < q) <;> cases decide (0 < p) <;> cases decide (q < 0) <;> rfl
theorem apart_comm (p q : Int) : apartB p q = apartB q p := by
  unfold apartB
  cases decide (p < 0) <;> cases decide (0 < q) <;> cases decide (0 < p) <;> cases decide (q < 0) <;> rfl
theorem Meet_swap (a b c d : Pt) : MeetB b a c d = MeetB a b c d := by
  unfold MeetB
  rw [line_swap a b c, line_swap a b d, crs_swap a b c, crs_swap a b d, apart_neg, apart_comm (crs c d b)]
  cases lineB a b c <;> cases lineB a b d <;> cases lineB c d a <;> cases lineB c d b <;> rfl
theorem Meet_comm (a b c d : Pt) : MeetB c d a b = MeetB a b c d := by
  unfold MeetB
  cases lineB a b c <;> cases lineB a b d <;> cases lineB c d a <;> cases lineB c d b <;> cases apartB (crs a b c) (crs a b d) <;> cases apartB (crs c d a) (crs c d b) <;> rfl
theorem nm_cases (e : Int × Int) : nm e = e ∨ nm e = (e.2, e.1) := by
  obtain ⟨x, y⟩ := e
  simp only [nm, Prod.mk.injEq]; omega
theorem apart_nm (e d : Int × Int) : apartE (nm e) (nm d) = apartE e d := by
  have key : (((nm e).1 ≠ (nm d).1 ∧ (nm e).1 ≠ (nm d).2) ∧ (nm e).2 ≠ (nm d).1) ∧ (nm e).2 ≠ (nm d).2 ↔ ((e.1 ≠ d.1 ∧ e.1 ≠ d.2) ∧ e.2 ≠ d.1) ∧ e.2 ≠ d.2 := by simp only [nm]; omega
  rw [Bool.eq_iff_iff]
  simp only [apartE, Bool.and_eq_true, decide_eq_true_eq]
  exact key
theorem apart_symm (e d : Int × Int) : apartE e d = apartE d e := by
  rw [Bool.eq_iff_iff]
  simp only [apartE, Bool.and_eq_true, decide_eq_true_eq]; omega
theorem Meet_nm (P : List Pt) (e d : Int × Int) : MeetB (pt P (nm e).1) (pt P (nm e).2) (pt P (nm d).1) (pt P (nm d).2) = MeetB (pt P e.1) (pt P e.2) (pt P d.1) (pt P d.2) := by
  rcases nm_cases e with h | h <;> rcases nm_cases d with k | k <;> rw [h, k] <;> simp only
  · rw [Meet_comm, Meet_swap, Meet_comm]
  · rw [Meet_swap]
  · rw [Meet_swap, Meet_comm, Meet_swap, Meet_comm]
theorem line_nm (P : List Pt) (e : Int × Int) (p : Pt) : lineB (pt P (nm e).1) (pt P (nm e).2) p = lineB (pt P e.1) (pt P e.2) p := by
  rcases nm_cases e with h | h <;> rw [h]
  exact line_swap _ _ _
theorem pairs_iff {R : Int × Int → Int × Int → Prop} {l : List (Int × Int)} : (∀ i (h : i < l.length), ∀ d ∈ l.take i, R l[i] d) ↔ l.Pairwise (fun a b => R b a) := by
  rw [List.pairwise_iff_getElem]
  constructor
  · intro h i j hi hj hij
    exact h j hj _ (List.mem_take_iff_getElem.mpr ⟨i, by omega, rfl⟩)
  · intro h i hi d hd
    obtain ⟨j, hj, rfl⟩ := List.mem_take_iff_getElem.mp hd
    exact h j i (by omega) hi (by omega)
theorem clear_iff (E : List (Int × Int)) (P : List Pt) : ClearP (form E) P ↔ ClearR E P := by
  have hv : (∀ i (h : i < (form E).length), goodV P (form E)[i] P.length) ↔ ∀ e ∈ E, goodV P (nm e) P.length := by
    constructor
    · intro h e he
      have hm : nm e ∈ form E := (form_perm E).mem_iff.mpr (List.mem_map.mpr ⟨e, he, rfl⟩)
      obtain ⟨i, hi, hie⟩ := List.mem_iff_getElem.mp hm
      rw [← hie]; exact h i hi
    · intro h i hi
      obtain ⟨e, he, hee⟩ := List.mem_map.mp ((form_perm E).mem_iff.mp (List.getElem_mem hi))
      rw [← hee]; exact h e he
  have hv2 : (∀ e ∈ E, goodV P (nm e) P.length) ↔ ∀ i, i < P.length → lineV P E i := by
    have step : ∀ e (i : Nat), ((i : Int) ≠ (nm e).1 → (i : Int) ≠ (nm e).2 → onB (pt P (nm e).1) (pt P (nm e).2) (pt P i) = false) ↔ (e.1 ≠ (i : Int) → e.2 ≠ (i : Int) → lineB (pt P e.1) (pt P e.2) (pt P i) = false) := fun e i => by
      rw [on_line, line_nm]
      constructor
      · intro h h1 h2; exact h (by simp only [nm]; omega) (by simp only [nm]; omega)
      · intro h h1 h2; exact h (by simp only [nm] at h1 h2; omega) (by simp only [nm] at h1 h2; omega)
    constructor
    · intro h i hi e he; exact (step e i).mp (h e he i hi)
    · intro h e he i hi; exact (step e i).mpr (h i hi e he)
  have hp : (∀ i (h : i < (form E).length), goodE P (form E)[i] ((form E).take i)) ↔ ∀ i (h : i < E.length), goodM P E[i] (E.take i) := by
    have e1 := pairs_iff (l := form E) (R := fun e d => apartE e d = true → meetB (pt P e.1) (pt P e.2) (pt P d.1) (pt P d.2) = false)
    have e2 := pairs_iff (l := E) (R := fun e d => apartE e d = true → MeetB (pt P e.1) (pt P e.2) (pt P d.1) (pt P d.2) = false)
    refine Iff.trans e1 (Iff.trans ?_ e2.symm)
    rw [(form_perm E).pairwise_iff, List.pairwise_map]
    · simp only [apart_nm, meet_Meet, Meet_nm]
    · intro a b h hab
      rw [apart_symm] at hab
      have := h hab
      rw [meet_Meet] at this ⊢
      rw [← Meet_comm]; exact this
  constructor
  · rintro ⟨h1, h2⟩
    have q1 := hv2.mp (hv.mp fun i hi => (h2 i hi).1)
    exact ⟨fun i hi => ⟨h1 i hi, q1 i hi⟩, hp.mp fun i hi => (h2 i hi).2⟩
  · rintro ⟨h1, h2⟩
    have q1 := hv.mpr (hv2.mpr fun i hi => (h1 i hi).2)
    have q2 := hp.mpr h2
    exact ⟨fun i hi => (h1 i hi).1, fun i hi => ⟨q1 i hi, q2 i hi⟩⟩
end Go.AM.Zd
end
section
/- The law 'DrawClear', walked. Conditions: lists no longer than 2^43; coordinates are int64. -/
namespace Go.AM.Zd
set_option maxHeartbeats 32000000
variable {F : Tr AFunc} {orc : Orc}
theorem chkGo_zero {N : Int} : ∀ {r pre : List (Int × Int)} {i : Nat}, (chkGo N pre r i).1 = 0 → chkGo N pre r i = (0, 0)
  | [], _, _, _ => rfl
  | d :: r, pre, i, h => by
    rw [chkGo] at h ⊢
    by_cases c : fc N pre d = 0
    · rw [if_pos c] at h ⊢; exact chkGo_zero h
    · rw [if_neg c] at h; exact absurd h c
theorem chk_zero {N : Int} {E : List (Int × Int)} (h : (chk N E).1 = 0) : chk N E = (0, 0) := by
  unfold chk at h ⊢
  by_cases c : N < 0 ∨ 100 < N ∨ 1000 < E.length
  · rw [if_pos c] at h; cases h
  · rw [if_neg c] at h ⊢; exact chkGo_zero h
theorem rng_zero : ∀ {P : List Pt} {i : Nat}, (rngAt P i).1 = 0 → rngAt P i = (0, 0)
  | [], _, _ => rfl
  | p :: r, i, h => by
    rw [rngAt] at h ⊢
    by_cases c : InP p
    · rw [if_pos c] at h ⊢; exact rng_zero h
    · rw [if_neg c] at h; cases h
theorem fClear_zero {N : Int} {E : List (Int × Int)} {P : List Pt} (h : (fClear N E P).1 = 0) : (chk N E).1 = 0 ∧ (P.length : Int) = N ∧ (∀ p ∈ P, InP p) ∧ fClear N E P = (0, 0) := by
  unfold fClear at h ⊢
  by_cases c : (chk N E).1 ≠ 0
  · rw [if_pos c] at h; exact absurd h c
  · rw [if_neg c] at h ⊢
    by_cases cN : (P.length : Int) ≠ N
    · rw [if_pos cN] at h; cases h
    · rw [if_neg cN] at h ⊢
      exact ⟨by simpa using c, by simpa using cN, rng_in (rng_zero h), rng_zero h⟩
/-- A copy, made in a region whose order is open. -/
theorem app_loose {H : AH} (ok : H.ok) {es bytes : Nat} {x : AV} {L : List (List AV)} (s : SlAt H es x L) (hl : ∀ l ∈ L, l.length = es) (h1 : L.length * bytes ≤ 140737488355328) (h2 : L.length ≤ 140737488355328) :
    ∃ v d, aAppend (H.loose []) es bytes .nils x = some (v, d) ∧ OwnAt H.n (d.on H.mark) es v L ∧ Ext H (d.on H.mark) := by
  rcases app_nils (bytes := bytes) (s.loose (hid := []) fun _ _ _ _ _ _ => rfl) h1 h2 with ⟨rfl, h⟩ | ⟨h0, h⟩
  · exact ⟨_, _, h, OwnAt.nil _ _ _, (Ext.refl H).mark⟩
  · refine ⟨_, _, h, ⟨hl, .inr ⟨H.n, rfl, ?_, Nat.le_refl _⟩⟩, ((Ext.refl H).mark).add _⟩
    exact AH.get_new ok.mark _ (Nat.le_refl _) (Nat.le_refl _)
def orcT : List AV → AH → Option (AV × AH)
  | [], h => some (.b true, h)
  | _, _ => none
theorem law_spec (B : TB F orc) (hs : orc 48 = some (orcSort 49 cfO)) (hb : orc 8 = some orcT) (N : Int) (E : List (Int × Int)) (es : AV) (P : List Pt) (ps : AV) (h : AH) (ok : h.ok) (s : SlAt h 2 es (E.map pr)) (sp : SlAt h 2 ps (P.map pr)) (hE : E.length ≤ 8796093022207) (hP : P.length ≤ 8796093022207) (h64 : ∀ p ∈ P, In64 p.1 ∧ In64 p.2) :
    WF F orc 4 [.agg [.i .i64 N, es], ps] h (fun v h' => v = .b true ∧ Ext h h') := by
  refine WF.enter B.o4 B.f4 rfl ?_
  have hlp := sp.len
  rw [List.length_map] at hlp
  have fl : AV.flat es = [es] := s.flat
  have flp : AV.flat ps = [ps] := sp.flat
  have x0 : Ext h (h.add (.cells true [.i .i64 N, es])) := (Ext.refl h).add _
  have k0 := x0.ok ok
  simp (maxSteps := 1000000) (disch := first | decide | assumption | omega | (simp only [AH.add_n, AH.put_n, AH.mark_n, zcq, AH.back_n] <;> omega) | (repeat (first | assumption | exact zca.eq_1 _ | (refine zfc ?_ ?_; (first | omega | (simp only [AH.add_n, AH.put_n, AH.mark_n, zcq, AH.back_n] <;> omega))) | refine AH.ok.add ?_ _ | refine AH.ok.mark ?_ | (refine AH.ok_put1 ?_ ?_; (first | omega | (simp only [AH.add_n, AH.put_n, AH.mark_n, zcq, AH.back_n] <;> omega))) | refine AH.has_put ?_ _ _ | refine AH.has_mark ?_ | (refine AH.has_new1 ?_ ?_; (first | omega | (simp only [AH.add_n, AH.put_n, AH.mark_n, zcq, AH.back_n] <;> omega))) | refine AH.has_add ?_ _ ?_ | (apply AH.has_of; assumption)))) only [qdv, zdx, zcg, zdz, zaf, qbx, zfa, qez, zeo, zer, zey, qfb, qcg, zbi, qav, qco, zdn, qdf, zbp, zbd, qaq, qac, zdg, zal, zag, qag, AH.get_new, List.length_cons, List.length_nil, Option.bind_some, Option.map_some, qer, Nat.zero_add, zbn, true_and, g4]
  refine (Own_spec B N E es _ k0 (s.ext ok x0) (by omega)).mono ?_
  rintro v H1 ⟨⟨es', rfl, oE⟩, e1⟩
  have x1 := x0.trans e1
  have k1 := x1.ok ok
  have n1 := e1.n
  simp only [AH.add_n] at n1 oE
  have fl' : AV.flat es' = [es'] := oE.flat
  have g0 : H1.get h.n = some (.cells true [.i .i64 N, es]) := by simp (maxSteps := 1000000) (disch := first | decide | assumption | omega | (simp only [AH.add_n, AH.put_n, AH.mark_n, zcq, AH.back_n] <;> omega) | (repeat (first | assumption | exact zca.eq_1 _ | (refine zfc ?_ ?_; (first | omega | (simp only [AH.add_n, AH.put_n, AH.mark_n, zcq, AH.back_n] <;> omega))) | refine AH.ok.add ?_ _ | refine AH.ok.mark ?_ | (refine AH.ok_put1 ?_ ?_; (first | omega | (simp only [AH.add_n, AH.put_n, AH.mark_n, zcq, AH.back_n] <;> omega))) | refine AH.has_put ?_ _ _ | refine AH.has_mark ?_ | (refine AH.has_new1 ?_ ?_; (first | omega | (simp only [AH.add_n, AH.put_n, AH.mark_n, zcq, AH.back_n] <;> omega))) | refine AH.has_add ?_ _ ?_ | (apply AH.has_of; assumption)))) only [AH.get_new, e1.get]
  simp (maxSteps := 1000000) (disch := first | decide | assumption | omega | (simp only [AH.add_n, AH.put_n, AH.mark_n, zcq, AH.back_n] <;> omega) | (repeat (first | assumption | exact zca.eq_1 _ | (refine zfc ?_ ?_; (first | omega | (simp only [AH.add_n, AH.put_n, AH.mark_n, zcq, AH.back_n] <;> omega))) | refine AH.ok.add ?_ _ | refine AH.ok.mark ?_ | (refine AH.ok_put1 ?_ ?_; (first | omega | (simp only [AH.add_n, AH.put_n, AH.mark_n, zcq, AH.back_n] <;> omega))) | refine AH.has_put ?_ _ _ | refine AH.has_mark ?_ | (refine AH.has_new1 ?_ ?_; (first | omega | (simp only [AH.add_n, AH.put_n, AH.mark_n, zcq, AH.back_n] <;> omega))) | refine AH.has_add ?_ _ ?_ | (apply AH.has_of; assumption)))) only [qdv, zdx, zcg, zdz, zaf, qbx, zcb, zfa, zei, zer, zfb, zey, qcg, zbi, qav, qco, zdn, qdf, qdi, zbp, qaf, zae, qcx, qay, zbd, qaq, qac, zdg, zal, zag, qag, AH.get_new, AH.get_add_old, AH.get_put_other, List.length_cons, List.length_nil, Option.bind_some, Option.map_some, Nat.zero_add, zbn, true_and, g0]
  have x2 : ∀ a b, Ext h ((H1.add a).put H1.n b) := fun a b => (x1.add _).put _ (by omega) (Nat.lt_succ_self _)
  refine WF.val (RCheck_spec B N E es _ ((x2 _ _).ok ok) (s.ext ok (x2 _ _)) (by omega)) fun H2 e2 => ?_
  have n2 := e2.n
  simp only [AH.add_n, AH.put_n] at n2
  have x3 := (x2 _ _).trans e2
  have k3 := x3.ok ok
  have g0' : H2.get h.n = some (.cells true [.i .i64 N, es]) := by simp (maxSteps := 1000000) (disch := first | decide | assumption | omega | (simp only [AH.add_n, AH.put_n, AH.mark_n, zcq, AH.back_n] <;> omega) | (repeat (first | assumption | exact zca.eq_1 _ | (refine zfc ?_ ?_; (first | omega | (simp only [AH.add_n, AH.put_n, AH.mark_n, zcq, AH.back_n] <;> omega))) | refine AH.ok.add ?_ _ | refine AH.ok.mark ?_ | (refine AH.ok_put1 ?_ ?_; (first | omega | (simp only [AH.add_n, AH.put_n, AH.mark_n, zcq, AH.back_n] <;> omega))) | refine AH.has_put ?_ _ _ | refine AH.has_mark ?_ | (refine AH.has_new1 ?_ ?_; (first | omega | (simp only [AH.add_n, AH.put_n, AH.mark_n, zcq, AH.back_n] <;> omega))) | refine AH.has_add ?_ _ ?_ | (apply AH.has_of; assumption)))) only [AH.get_add_old, AH.get_put_other, e2.get, g0]
  have g5 : H2.get H1.n = some (.cells true [.i .i64 N, es']) := by simp (maxSteps := 1000000) (disch := first | decide | assumption | omega | (simp only [AH.add_n, AH.put_n, AH.mark_n, zcq, AH.back_n] <;> omega) | (repeat (first | assumption | exact zca.eq_1 _ | (refine zfc ?_ ?_; (first | omega | (simp only [AH.add_n, AH.put_n, AH.mark_n, zcq, AH.back_n] <;> omega))) | refine AH.ok.add ?_ _ | refine AH.ok.mark ?_ | (refine AH.ok_put1 ?_ ?_; (first | omega | (simp only [AH.add_n, AH.put_n, AH.mark_n, zcq, AH.back_n] <;> omega))) | refine AH.has_put ?_ _ _ | refine AH.has_mark ?_ | (refine AH.has_new1 ?_ ?_; (first | omega | (simp only [AH.add_n, AH.put_n, AH.mark_n, zcq, AH.back_n] <;> omega))) | refine AH.has_add ?_ _ ?_ | (apply AH.has_of; assumption)))) only [AH.put_same, e2.get]
  have oE2 : OwnAt (h.n + 1) H2 2 es' (E.map pr) := (oE.ext k1 (((Ext.refl H1).add _).put _ (Nat.le_refl _) (Nat.lt_succ_self _))).ext (((Ext.refl H1).add _).put _ (Nat.le_refl _) (Nat.lt_succ_self _) |>.ok k1) e2
  generalize hn1 : H1.n = n5 at *
  simp (maxSteps := 1000000) (disch := first | decide | assumption | omega | (simp only [AH.add_n, AH.put_n, AH.mark_n, zcq, AH.back_n] <;> omega) | (repeat (first | assumption | exact zca.eq_1 _ | (refine zfc ?_ ?_; (first | omega | (simp only [AH.add_n, AH.put_n, AH.mark_n, zcq, AH.back_n] <;> omega))) | refine AH.ok.add ?_ _ | refine AH.ok.mark ?_ | (refine AH.ok_put1 ?_ ?_; (first | omega | (simp only [AH.add_n, AH.put_n, AH.mark_n, zcq, AH.back_n] <;> omega))) | refine AH.has_put ?_ _ _ | refine AH.has_mark ?_ | (refine AH.has_new1 ?_ ?_; (first | omega | (simp only [AH.add_n, AH.put_n, AH.mark_n, zcq, AH.back_n] <;> omega))) | refine AH.has_add ?_ _ ?_ | (apply AH.has_of; assumption)))) only [zcg, zdz, qbx, zcb, zfa, zei, zfb, zey, qav, qco, zdn, qdi, zbp, qaf, zae, qcx, qay, zbd, AH.get_new, List.length_cons, List.length_nil, Option.map_some, Nat.zero_add, true_and, pr]
  rw [zaf, qdv]
  generalize hn6 : H2.n = n6 at *
  let M : Tmps → AH → Prop := fun t hh => tget t s001 = ps ∧ tget t s002 = .ptr h.n 0 ∧ tget t s005 = .ptr n5 0 ∧ tget t s006 = .ptr n6 0 ∧ Ext h hh ∧ (∀ j x, j < n6 → H2.get j = some x → hh.get j = some x) ∧ ∃ w : Int × Int, hh.get n6 = some (.cells true [.i .i64 w.1, .i .i64 w.2]) ∧ ((w.1 ≠ 0 ∧ w = fClear N E P) ∨ (w = (0, 0) ∧ fClear N E P = rngAt P 0))
  have y1 : ∀ a b, Ext H2 ((H2.add a).put n6 b) := fun a b => ((Ext.refl H2).add _).put _ (by omega) (by simp only [AH.add_n]; omega)
  have ln6 : h.n < n6 := by omega
  refine WC.mono (Q := fun e t hh => e = .normal ∧ M t hh) ?_ ?_
  · have y2 := fun a b => x3.trans (y1 a b)
    have kp : ∀ a b, ∀ j x, j < n6 → H2.get j = some x → ((H2.add a).put n6 b).get j = some x := fun a b j x _ hj => (y1 a b).get_some k3 hj
    by_cases c : (chk N E).1 = 0
    · by_cases cN : (P.length : Int) = N
      · have hf : fClear N E P = rngAt P 0 := by unfold fClear; rw [if_neg (by simpa using c), if_neg (by simpa using cN)]
        simp (maxSteps := 1000000) (disch := first | decide | assumption | omega | (simp only [AH.add_n, AH.put_n, AH.mark_n, zcq, AH.back_n] <;> omega) | (repeat (first | assumption | exact zca.eq_1 _ | (refine zfc ?_ ?_; (first | omega | (simp only [AH.add_n, AH.put_n, AH.mark_n, zcq, AH.back_n] <;> omega))) | refine AH.ok.add ?_ _ | refine AH.ok.mark ?_ | (refine AH.ok_put1 ?_ ?_; (first | omega | (simp only [AH.add_n, AH.put_n, AH.mark_n, zcq, AH.back_n] <;> omega))) | refine AH.has_put ?_ _ _ | refine AH.has_mark ?_ | (refine AH.has_new1 ?_ ?_; (first | omega | (simp only [AH.add_n, AH.put_n, AH.mark_n, zcq, AH.back_n] <;> omega))) | refine AH.has_add ?_ _ ?_ | (apply AH.has_of; assumption)))) only [qdb, qdv, zdx, qcs, zcg, zdz, zbt, qat, zaf, qbx, zfa, cond_true, cond_false, qez, qea, zcy, zcj, zez, qfa, qdj, zbg, qeh, zey, qfb, qav, qco, qdf, zbd, qcb, qaq, qac, zdg, zal, zag, qag, AH.get_add_old, AH.get_put_other, AH.put_same, Option.bind_some, Option.map_some, qeo, decide_true, Bool.not_true, Nat.add_zero, true_and, eq_true c, g0', hlp, eq_true cN]
        refine ⟨by simp (disch := decide) only [qav, qco], by simp (disch := decide) only [qav, qco], by simp (disch := decide) only [qav, qco], by simp (disch := decide) only [qav, qco], y2 _ _, kp _ _, chk N E, by simp (maxSteps := 1000000) (disch := first | decide | assumption | omega | (simp only [AH.add_n, AH.put_n, AH.mark_n, zcq, AH.back_n] <;> omega) | (repeat (first | assumption | exact zca.eq_1 _ | (refine zfc ?_ ?_; (first | omega | (simp only [AH.add_n, AH.put_n, AH.mark_n, zcq, AH.back_n] <;> omega))) | refine AH.ok.add ?_ _ | refine AH.ok.mark ?_ | (refine AH.ok_put1 ?_ ?_; (first | omega | (simp only [AH.add_n, AH.put_n, AH.mark_n, zcq, AH.back_n] <;> omega))) | refine AH.has_put ?_ _ _ | refine AH.has_mark ?_ | (refine AH.has_new1 ?_ ?_; (first | omega | (simp only [AH.add_n, AH.put_n, AH.mark_n, zcq, AH.back_n] <;> omega))) | refine AH.has_add ?_ _ ?_ | (apply AH.has_of; assumption)))) only [AH.put_same], .inr ⟨chk_zero c, hf⟩⟩
      · have hf : fClear N E P = (6, 0) := by unfold fClear; rw [if_neg (by simpa using c), if_pos (by simpa using cN)]
        simp (maxSteps := 1000000) (disch := first | decide | assumption | omega | (simp only [AH.add_n, AH.put_n, AH.mark_n, zcq, AH.back_n] <;> omega) | (repeat (first | assumption | exact zca.eq_1 _ | (refine zfc ?_ ?_; (first | omega | (simp only [AH.add_n, AH.put_n, AH.mark_n, zcq, AH.back_n] <;> omega))) | refine AH.ok.add ?_ _ | refine AH.ok.mark ?_ | (refine AH.ok_put1 ?_ ?_; (first | omega | (simp only [AH.add_n, AH.put_n, AH.mark_n, zcq, AH.back_n] <;> omega))) | refine AH.has_put ?_ _ _ | refine AH.has_mark ?_ | (refine AH.has_new1 ?_ ?_; (first | omega | (simp only [AH.add_n, AH.put_n, AH.mark_n, zcq, AH.back_n] <;> omega))) | refine AH.has_add ?_ _ ?_ | (apply AH.has_of; assumption)))) only [qdb, qdv, zdx, zcg, zdz, zbt, qat, zaf, qbx, zfa, cond_true, cond_false, qez, qea, zcy, zez, qfa, qdj, zbg, qeh, zey, qfb, qcg, zbi, qav, qco, qdf, zbd, qcb, qaq, qac, zdg, zal, zag, qag, AH.get_add_old, AH.get_put_other, AH.put_same, Option.bind_some, Option.map_some, qeo, decide_true, decide_false, Bool.not_false, Nat.add_zero, zbn, eq_true c, g0', hlp, cN]
        refine WF.val (F_spec B _ _ _ ((y2 _ _).ok ok)) fun G eG => ?_
        have kk := (y2 (.cells true [.i .i64 0, .i .i64 0]) (.cells true [.i .i64 (chk N E).1, .i .i64 (chk N E).2])).ok ok
        have nG := eG.n
        simp only [AH.add_n, AH.put_n] at nG
        have x4 := (y2 _ _).trans eG
        have k4 := x4.ok ok
        have r6 : G.get n6 = some (.cells true [.i .i64 (chk N E).1, .i .i64 (chk N E).2]) := eG.get_some kk (by simp (maxSteps := 1000000) (disch := first | decide | assumption | omega | (simp only [AH.add_n, AH.put_n, AH.mark_n, zcq, AH.back_n] <;> omega) | (repeat (first | assumption | exact zca.eq_1 _ | (refine zfc ?_ ?_; (first | omega | (simp only [AH.add_n, AH.put_n, AH.mark_n, zcq, AH.back_n] <;> omega))) | refine AH.ok.add ?_ _ | refine AH.ok.mark ?_ | (refine AH.ok_put1 ?_ ?_; (first | omega | (simp only [AH.add_n, AH.put_n, AH.mark_n, zcq, AH.back_n] <;> omega))) | refine AH.has_put ?_ _ _ | refine AH.has_mark ?_ | (refine AH.has_new1 ?_ ?_; (first | omega | (simp only [AH.add_n, AH.put_n, AH.mark_n, zcq, AH.back_n] <;> omega))) | refine AH.has_add ?_ _ ?_ | (apply AH.has_of; assumption)))) only [AH.put_same])
        have lo := k4.lt r6
        simp (maxSteps := 1000000) (disch := first | decide | assumption | omega | (simp only [AH.add_n, AH.put_n, AH.mark_n, zcq, AH.back_n] <;> omega) | (repeat (first | assumption | exact zca.eq_1 _ | (refine zfc ?_ ?_; (first | omega | (simp only [AH.add_n, AH.put_n, AH.mark_n, zcq, AH.back_n] <;> omega))) | refine AH.ok.add ?_ _ | refine AH.ok.mark ?_ | (refine AH.ok_put1 ?_ ?_; (first | omega | (simp only [AH.add_n, AH.put_n, AH.mark_n, zcq, AH.back_n] <;> omega))) | refine AH.has_put ?_ _ _ | refine AH.has_mark ?_ | (refine AH.has_new1 ?_ ?_; (first | omega | (simp only [AH.add_n, AH.put_n, AH.mark_n, zcq, AH.back_n] <;> omega))) | refine AH.has_add ?_ _ ?_ | (apply AH.has_of; assumption)))) only [zcg, zdz, zcb, zfa, zfb, zey, qav, qco, qdi, zbp, qaf, zae, qcx, qay, zbd, List.length_cons, List.length_nil, Option.map_some, Nat.zero_add, true_and, r6]
        refine ⟨by simp (disch := decide) only [qav, qco], by simp (disch := decide) only [qav, qco], by simp (disch := decide) only [qav, qco], by simp (disch := decide) only [qav, qco], x4.put _ (by omega) lo, fun j x hj hg => ?_, (6, 0), by simp (maxSteps := 1000000) (disch := first | decide | assumption | omega | (simp only [AH.add_n, AH.put_n, AH.mark_n, zcq, AH.back_n] <;> omega) | (repeat (first | assumption | exact zca.eq_1 _ | (refine zfc ?_ ?_; (first | omega | (simp only [AH.add_n, AH.put_n, AH.mark_n, zcq, AH.back_n] <;> omega))) | refine AH.ok.add ?_ _ | refine AH.ok.mark ?_ | (refine AH.ok_put1 ?_ ?_; (first | omega | (simp only [AH.add_n, AH.put_n, AH.mark_n, zcq, AH.back_n] <;> omega))) | refine AH.has_put ?_ _ _ | refine AH.has_mark ?_ | (refine AH.has_new1 ?_ ?_; (first | omega | (simp only [AH.add_n, AH.put_n, AH.mark_n, zcq, AH.back_n] <;> omega))) | refine AH.has_add ?_ _ ?_ | (apply AH.has_of; assumption)))) only [AH.put_same], .inl ⟨by decide, hf.symm⟩⟩
        rw [AH.get_put_other _ (by omega)]; exact eG.get_some kk (kp _ _ j x hj hg)
    · have hf : fClear N E P = chk N E := by unfold fClear; rw [if_pos c]
      simp (maxSteps := 1000000) (disch := first | decide | assumption | omega | (simp only [AH.add_n, AH.put_n, AH.mark_n, zcq, AH.back_n] <;> omega) | (repeat (first | assumption | exact zca.eq_1 _ | (refine zfc ?_ ?_; (first | omega | (simp only [AH.add_n, AH.put_n, AH.mark_n, zcq, AH.back_n] <;> omega))) | refine AH.ok.add ?_ _ | refine AH.ok.mark ?_ | (refine AH.ok_put1 ?_ ?_; (first | omega | (simp only [AH.add_n, AH.put_n, AH.mark_n, zcq, AH.back_n] <;> omega))) | refine AH.has_put ?_ _ _ | refine AH.has_mark ?_ | (refine AH.has_new1 ?_ ?_; (first | omega | (simp only [AH.add_n, AH.put_n, AH.mark_n, zcq, AH.back_n] <;> omega))) | refine AH.has_add ?_ _ ?_ | (apply AH.has_of; assumption)))) only [qdb, qdv, zdx, qcs, zcg, zdz, zbt, qar, zaf, qbx, zfa, cond_false, qez, qea, zcj, zez, qfa, qdj, zbg, zey, qfb, qav, qco, qdf, zbd, qcb, qaq, qac, zdg, zal, zag, qag, AH.put_same, Option.bind_some, Option.map_some, qeo, decide_false, Nat.add_zero, true_and, c]
      refine ⟨by simp (disch := decide) only [qav, qco], by simp (disch := decide) only [qav, qco], by simp (disch := decide) only [qav, qco], by simp (disch := decide) only [qav, qco], y2 _ _, kp _ _, chk N E, by simp (maxSteps := 1000000) (disch := first | decide | assumption | omega | (simp only [AH.add_n, AH.put_n, AH.mark_n, zcq, AH.back_n] <;> omega) | (repeat (first | assumption | exact zca.eq_1 _ | (refine zfc ?_ ?_; (first | omega | (simp only [AH.add_n, AH.put_n, AH.mark_n, zcq, AH.back_n] <;> omega))) | refine AH.ok.add ?_ _ | refine AH.ok.mark ?_ | (refine AH.ok_put1 ?_ ?_; (first | omega | (simp only [AH.add_n, AH.put_n, AH.mark_n, zcq, AH.back_n] <;> omega))) | refine AH.has_put ?_ _ _ | refine AH.has_mark ?_ | (refine AH.has_new1 ?_ ?_; (first | omega | (simp only [AH.add_n, AH.put_n, AH.mark_n, zcq, AH.back_n] <;> omega))) | refine AH.has_add ?_ _ ?_ | (apply AH.has_of; assumption)))) only [AH.put_same], .inl ⟨c, hf.symm⟩⟩
  clear y1
  rintro e t hh ⟨rfl, t1, t2, t5, t6, e, kp, w, g6, hw⟩
  rw [zaf, qdv]
  let M2 : Tmps → AH → Prop := fun t hh => tget t s001 = ps ∧ tget t s002 = .ptr h.n 0 ∧ tget t s005 = .ptr n5 0 ∧ tget t s006 = .ptr n6 0 ∧ Ext h hh ∧ (∀ j x, j < n6 → H2.get j = some x → hh.get j = some x) ∧ hh.get n6 = some (.cells true [.i .i64 (fClear N E P).1, .i .i64 (fClear N E P).2])
  refine WC.mono (Q := fun e t hh => e = .normal ∧ M2 t hh) ?_ ?_
  · simp (maxSteps := 1000000) (disch := first | decide | assumption | omega | (simp only [AH.add_n, AH.put_n, AH.mark_n, zcq, AH.back_n] <;> omega) | (repeat (first | assumption | exact zca.eq_1 _ | (refine zfc ?_ ?_; (first | omega | (simp only [AH.add_n, AH.put_n, AH.mark_n, zcq, AH.back_n] <;> omega))) | refine AH.ok.add ?_ _ | refine AH.ok.mark ?_ | (refine AH.ok_put1 ?_ ?_; (first | omega | (simp only [AH.add_n, AH.put_n, AH.mark_n, zcq, AH.back_n] <;> omega))) | refine AH.has_put ?_ _ _ | refine AH.has_mark ?_ | (refine AH.has_new1 ?_ ?_; (first | omega | (simp only [AH.add_n, AH.put_n, AH.mark_n, zcq, AH.back_n] <;> omega))) | refine AH.has_add ?_ _ ?_ | (apply AH.has_of; assumption)))) only [qdv, zdx, zbm, zcg, zdz, zaf, qbx, zfa, qez, qfb, qdf]
    refine WC.up P.length (fun i t hh => tget t s001 = ps ∧ tget t s002 = .ptr h.n 0 ∧ tget t s005 = .ptr n5 0 ∧ tget t s006 = .ptr n6 0 ∧ tget t s007 = .i .i64 i ∧ Ext h hh ∧ (∀ j x, j < n6 → H2.get j = some x → hh.get j = some x) ∧ ∃ w : Int × Int, hh.get n6 = some (.cells true [.i .i64 w.1, .i .i64 w.2]) ∧ ((w.1 ≠ 0 ∧ w = fClear N E P) ∨ (w = (0, 0) ∧ fClear N E P = rngAt (P.drop i) i))) ?_ 0 _ _ (Nat.zero_le _) ?_
    rotate_left
    · refine ⟨by simp (disch := decide) only [qco, t1], by simp (disch := decide) only [qco, t2], by simp (disch := decide) only [qco, t5], by simp (disch := decide) only [qco, t6], by simp (disch := decide) only [qav]; rfl, e, kp, w, g6, ?_⟩
      rw [List.drop_zero]; exact hw
    clear t1 t2 t5 t6 e kp g6 hw
    intro i t hh hi ⟨t1, t2, t5, t6, t7, e, kp, w, g6, hw⟩
    have ok' := e.ok ok
    have l6 := ok'.lt g6
    by_cases hlt : i < P.length
    rotate_left
    · have hlt' : ¬ (i : Int) < (P.length : Int) := by omega
      have hie : i = P.length := by omega
      have hwf : w = fClear N E P := by
        rcases hw with hw | hw
        · exact hw.2
        · rw [hw.2, hie, rng_end]; exact hw.1
      rw [hwf] at g6
      simp (maxSteps := 1000000) (disch := first | decide | assumption | omega | (simp only [AH.add_n, AH.put_n, AH.mark_n, zcq, AH.back_n] <;> omega) | (repeat (first | assumption | exact zca.eq_1 _ | (refine zfc ?_ ?_; (first | omega | (simp only [AH.add_n, AH.put_n, AH.mark_n, zcq, AH.back_n] <;> omega))) | refine AH.ok.add ?_ _ | refine AH.ok.mark ?_ | (refine AH.ok_put1 ?_ ?_; (first | omega | (simp only [AH.add_n, AH.put_n, AH.mark_n, zcq, AH.back_n] <;> omega))) | refine AH.has_put ?_ _ _ | refine AH.has_mark ?_ | (refine AH.has_new1 ?_ ?_; (first | omega | (simp only [AH.add_n, AH.put_n, AH.mark_n, zcq, AH.back_n] <;> omega))) | refine AH.has_add ?_ _ ?_ | (apply AH.has_of; assumption)))) only [qdb, qdv, zdx, zcl, zcg, zdz, zbt, qar, zaf, zat, zad, qbz, qbx, zfa, qez, qea, zcj, zeh, qeh, zey, qfb, qav, qco, qdf, zbd, zes, decide_false, true_and, t1, t7, hlp, hlt']
      exact ⟨by simp (disch := decide) only [qco, t1], by simp (disch := decide) only [qco, t2], by simp (disch := decide) only [qco, t5], by simp (disch := decide) only [qco, t6], e, kp, g6⟩
    have hlt' : (i : Int) < (P.length : Int) := by omega
    rcases hw with ⟨hw1, hw2⟩ | ⟨hw1, hw2⟩
    · have hwf : w = fClear N E P := hw2
      rw [hwf] at g6 hw1
      have hw1' : ¬ (fClear N E P).1 = 0 := hw1
      simp (maxSteps := 1000000) (disch := first | decide | assumption | omega | (simp only [AH.add_n, AH.put_n, AH.mark_n, zcq, AH.back_n] <;> omega) | (repeat (first | assumption | exact zca.eq_1 _ | (refine zfc ?_ ?_; (first | omega | (simp only [AH.add_n, AH.put_n, AH.mark_n, zcq, AH.back_n] <;> omega))) | refine AH.ok.add ?_ _ | refine AH.ok.mark ?_ | (refine AH.ok_put1 ?_ ?_; (first | omega | (simp only [AH.add_n, AH.put_n, AH.mark_n, zcq, AH.back_n] <;> omega))) | refine AH.has_put ?_ _ _ | refine AH.has_mark ?_ | (refine AH.has_new1 ?_ ?_; (first | omega | (simp only [AH.add_n, AH.put_n, AH.mark_n, zcq, AH.back_n] <;> omega))) | refine AH.has_add ?_ _ ?_ | (apply AH.has_of; assumption)))) only [qdb, qdv, zdx, zcl, zcg, zdz, zbt, qat, zaf, zat, zad, qbz, qbx, zfa, cond_false, qez, qea, zcy, zcj, zez, zeh, qfa, qdj, zbg, qeh, zey, qfb, qav, qco, qdf, zbd, qcb, qaq, qac, zdg, zal, zag, qag, Option.bind_some, Option.map_some, zes, qeo, decide_true, decide_false, Nat.add_zero, true_and, t1, t6, t7, hlp, hlt', g6, hw1']
      exact ⟨by simp (disch := decide) only [qco, t1], by simp (disch := decide) only [qco, t2], by simp (disch := decide) only [qco, t5], by simp (disch := decide) only [qco, t6], e, kp, g6⟩
    rw [hw1] at g6
    rw [rng_step hlt] at hw2
    obtain ⟨id, off, p1, p2, p3, p4, lt⟩ := (sp.ext ok e).pair ok' hlt
    have z0 : ((0 : Int) = 0) = True := eq_true rfl
    by_cases b : InP P[i]
    · rw [if_pos b] at hw2
      unfold InP In at b
      have c1 : ¬ P[i].1 < -1000000 := by omega
      have c2 : ¬ 1000000 < P[i].1 := by omega
      have c3 : ¬ P[i].2 < -1000000 := by omega
      have c4 : ¬ 1000000 < P[i].2 := by omega
      simp (maxSteps := 1000000) (disch := first | decide | assumption | omega | (simp only [AH.add_n, AH.put_n, AH.mark_n, zcq, AH.back_n] <;> omega) | (repeat (first | assumption | exact zca.eq_1 _ | (refine zfc ?_ ?_; (first | omega | (simp only [AH.add_n, AH.put_n, AH.mark_n, zcq, AH.back_n] <;> omega))) | refine AH.ok.add ?_ _ | refine AH.ok.mark ?_ | (refine AH.ok_put1 ?_ ?_; (first | omega | (simp only [AH.add_n, AH.put_n, AH.mark_n, zcq, AH.back_n] <;> omega))) | refine AH.has_put ?_ _ _ | refine AH.has_mark ?_ | (refine AH.has_new1 ?_ ?_; (first | omega | (simp only [AH.add_n, AH.put_n, AH.mark_n, zcq, AH.back_n] <;> omega))) | refine AH.has_add ?_ _ ?_ | (apply AH.has_of; assumption)))) only [qdb, qdv, zdx, qcs, zbm, zcg, zdz, zbt, qat, qaw, zaf, qaa, qak, qau, qbx, zfa, cond_false, qez, qea, zcy, zcj, zez, zeh, qfa, qdj, zbg, qee, qeh, zey, qfb, qav, qco, qdf, zbd, qcb, qaq, qac, zdg, zal, zag, qag, Option.bind_some, Option.map_some, qeq, zes, qek, qeo, decide_true, decide_false, qby, Nat.add_zero, true_and, t1, t6, t7, hlp, hlt, hlt', g6, p1, p3, p4, c1, c2, c3, c4]
      refine ⟨t2, t5, e, kp, (0, 0), rfl, .inr ⟨rfl, hw2⟩⟩
    · rw [if_neg b] at hw2
      unfold InP In at b
      have fin : ∀ (Q : AV → AH → Prop), (∀ G, Ext h G → n6 < G.n → G.ok → G.get n6 = some (.cells true [.i .i64 0, .i .i64 0]) → (∀ j x, j < n6 → H2.get j = some x → G.get j = some x) → Q (.agg [.i .i64 3, .i .i64 i]) G) → WF F orc 11 [.i .i64 3, .i .i64 i] hh Q := fun Q k =>
        WF.val (F_spec B _ _ _ ok') fun G eG => k G (e.trans eG) (by have := eG.n; omega) (eG.ok ok') (eG.get_some ok' g6) (fun j x hj hg => eG.get_some ok' (kp j x hj hg))
      have fin2 : ∀ G : AH, (∀ j x, j < n6 → H2.get j = some x → G.get j = some x) → ∀ j x, j < n6 → H2.get j = some x → (G.put n6 (.cells true [.i .i64 3, .i .i64 i])).get j = some x := fun G hG j x hj hg => by
        rw [AH.get_put_other _ (by omega)]; exact hG j x hj hg
      have hw3 : ((3 : Int), (i : Int)) = fClear N E P := hw2.symm
      by_cases c1 : P[i].1 < -1000000
      · simp (maxSteps := 1000000) (disch := first | decide | assumption | omega | (simp only [AH.add_n, AH.put_n, AH.mark_n, zcq, AH.back_n] <;> omega) | (repeat (first | assumption | exact zca.eq_1 _ | (refine zfc ?_ ?_; (first | omega | (simp only [AH.add_n, AH.put_n, AH.mark_n, zcq, AH.back_n] <;> omega))) | refine AH.ok.add ?_ _ | refine AH.ok.mark ?_ | (refine AH.ok_put1 ?_ ?_; (first | omega | (simp only [AH.add_n, AH.put_n, AH.mark_n, zcq, AH.back_n] <;> omega))) | refine AH.has_put ?_ _ _ | refine AH.has_mark ?_ | (refine AH.has_new1 ?_ ?_; (first | omega | (simp only [AH.add_n, AH.put_n, AH.mark_n, zcq, AH.back_n] <;> omega))) | refine AH.has_add ?_ _ ?_ | (apply AH.has_of; assumption)))) only [qdb, qdv, zdx, qcs, zbm, zcg, zdz, zbt, qat, zav, zaf, qbx, zfa, cond_false, qez, qea, zcy, zez, zeh, qfa, qdj, zbg, qee, qeh, zey, qfb, qcg, zbi, qav, qco, qdf, zbd, qcb, qaq, qac, zdg, zal, zag, qag, Option.bind_some, Option.map_some, zes, qeo, decide_true, Nat.add_zero, zbn, t1, t6, t7, hlp, hlt', g6, p1, p3, c1]
        refine fin _ fun G e1 e2 e3 e4 e5 => ?_
        simp (maxSteps := 1000000) (disch := first | decide | assumption | omega | (simp only [AH.add_n, AH.put_n, AH.mark_n, zcq, AH.back_n] <;> omega) | (repeat (first | assumption | exact zca.eq_1 _ | (refine zfc ?_ ?_; (first | omega | (simp only [AH.add_n, AH.put_n, AH.mark_n, zcq, AH.back_n] <;> omega))) | refine AH.ok.add ?_ _ | refine AH.ok.mark ?_ | (refine AH.ok_put1 ?_ ?_; (first | omega | (simp only [AH.add_n, AH.put_n, AH.mark_n, zcq, AH.back_n] <;> omega))) | refine AH.has_put ?_ _ _ | refine AH.has_mark ?_ | (refine AH.has_new1 ?_ ?_; (first | omega | (simp only [AH.add_n, AH.put_n, AH.mark_n, zcq, AH.back_n] <;> omega))) | refine AH.has_add ?_ _ ?_ | (apply AH.has_of; assumption)))) only [zdx, zcg, zdz, zaf, qaa, qak, qau, qbx, zcb, zfa, qez, zfb, zeh, zey, qfb, qav, qco, qdf, qdi, zbp, qaf, zae, qcx, qay, zbd, AH.put_same, List.length_cons, List.length_nil, Option.map_some, qeq, qby, Nat.zero_add, true_and, t1, t6, t7, e4, hlt]
        exact ⟨t2, t5, e1.put _ (by omega) e2, fin2 G e5, (3, (i : Int)), rfl, .inl ⟨by simp, hw3⟩⟩
      by_cases c2 : 1000000 < P[i].1
      · simp (maxSteps := 1000000) (disch := first | decide | assumption | omega | (simp only [AH.add_n, AH.put_n, AH.mark_n, zcq, AH.back_n] <;> omega) | (repeat (first | assumption | exact zca.eq_1 _ | (refine zfc ?_ ?_; (first | omega | (simp only [AH.add_n, AH.put_n, AH.mark_n, zcq, AH.back_n] <;> omega))) | refine AH.ok.add ?_ _ | refine AH.ok.mark ?_ | (refine AH.ok_put1 ?_ ?_; (first | omega | (simp only [AH.add_n, AH.put_n, AH.mark_n, zcq, AH.back_n] <;> omega))) | refine AH.has_put ?_ _ _ | refine AH.has_mark ?_ | (refine AH.has_new1 ?_ ?_; (first | omega | (simp only [AH.add_n, AH.put_n, AH.mark_n, zcq, AH.back_n] <;> omega))) | refine AH.has_add ?_ _ ?_ | (apply AH.has_of; assumption)))) only [qdb, qdv, zdx, qcs, zbm, zcg, zdz, zbt, qat, qaw, zav, zaf, qbx, zfa, cond_false, qez, qea, zcy, zcj, zez, zeh, qfa, qdj, zbg, qee, qeh, zey, qfb, qcg, zbi, qav, qco, qdf, zbd, qcb, qaq, qac, zdg, zal, zag, qag, Option.bind_some, Option.map_some, zes, qek, qeo, decide_true, decide_false, Nat.add_zero, zbn, t1, t6, t7, hlp, hlt', g6, p1, p3, c1, c2]
        refine fin _ fun G e1 e2 e3 e4 e5 => ?_
        simp (maxSteps := 1000000) (disch := first | decide | assumption | omega | (simp only [AH.add_n, AH.put_n, AH.mark_n, zcq, AH.back_n] <;> omega) | (repeat (first | assumption | exact zca.eq_1 _ | (refine zfc ?_ ?_; (first | omega | (simp only [AH.add_n, AH.put_n, AH.mark_n, zcq, AH.back_n] <;> omega))) | refine AH.ok.add ?_ _ | refine AH.ok.mark ?_ | (refine AH.ok_put1 ?_ ?_; (first | omega | (simp only [AH.add_n, AH.put_n, AH.mark_n, zcq, AH.back_n] <;> omega))) | refine AH.has_put ?_ _ _ | refine AH.has_mark ?_ | (refine AH.has_new1 ?_ ?_; (first | omega | (simp only [AH.add_n, AH.put_n, AH.mark_n, zcq, AH.back_n] <;> omega))) | refine AH.has_add ?_ _ ?_ | (apply AH.has_of; assumption)))) only [zdx, zcg, zdz, zaf, qaa, qak, qau, qbx, zcb, zfa, qez, zfb, zeh, zey, qfb, qav, qco, qdf, qdi, zbp, qaf, zae, qcx, qay, zbd, AH.put_same, List.length_cons, List.length_nil, Option.map_some, qeq, qby, Nat.zero_add, true_and, t1, t6, t7, e4, hlt]
        exact ⟨t2, t5, e1.put _ (by omega) e2, fin2 G e5, (3, (i : Int)), rfl, .inl ⟨by simp, hw3⟩⟩
      by_cases c3 : P[i].2 < -1000000
      · simp (maxSteps := 1000000) (disch := first | decide | assumption | omega | (simp only [AH.add_n, AH.put_n, AH.mark_n, zcq, AH.back_n] <;> omega) | (repeat (first | assumption | exact zca.eq_1 _ | (refine zfc ?_ ?_; (first | omega | (simp only [AH.add_n, AH.put_n, AH.mark_n, zcq, AH.back_n] <;> omega))) | refine AH.ok.add ?_ _ | refine AH.ok.mark ?_ | (refine AH.ok_put1 ?_ ?_; (first | omega | (simp only [AH.add_n, AH.put_n, AH.mark_n, zcq, AH.back_n] <;> omega))) | refine AH.has_put ?_ _ _ | refine AH.has_mark ?_ | (refine AH.has_new1 ?_ ?_; (first | omega | (simp only [AH.add_n, AH.put_n, AH.mark_n, zcq, AH.back_n] <;> omega))) | refine AH.has_add ?_ _ ?_ | (apply AH.has_of; assumption)))) only [qdb, qdv, zdx, qcs, zbm, zcg, zdz, zbt, qat, qaw, zav, zaf, qbx, zfa, cond_false, qez, qea, zcy, zcj, zez, zeh, qfa, qdj, zbg, qee, qeh, zey, qfb, qcg, zbi, qav, qco, qdf, zbd, qcb, qaq, qac, zdg, zal, zag, qag, Option.bind_some, Option.map_some, zes, qek, qeo, decide_true, decide_false, Nat.add_zero, zbn, t1, t6, t7, hlp, hlt', g6, p1, p3, p4, c1, c2, c3]
        refine fin _ fun G e1 e2 e3 e4 e5 => ?_
        simp (maxSteps := 1000000) (disch := first | decide | assumption | omega | (simp only [AH.add_n, AH.put_n, AH.mark_n, zcq, AH.back_n] <;> omega) | (repeat (first | assumption | exact zca.eq_1 _ | (refine zfc ?_ ?_; (first | omega | (simp only [AH.add_n, AH.put_n, AH.mark_n, zcq, AH.back_n] <;> omega))) | refine AH.ok.add ?_ _ | refine AH.ok.mark ?_ | (refine AH.ok_put1 ?_ ?_; (first | omega | (simp only [AH.add_n, AH.put_n, AH.mark_n, zcq, AH.back_n] <;> omega))) | refine AH.has_put ?_ _ _ | refine AH.has_mark ?_ | (refine AH.has_new1 ?_ ?_; (first | omega | (simp only [AH.add_n, AH.put_n, AH.mark_n, zcq, AH.back_n] <;> omega))) | refine AH.has_add ?_ _ ?_ | (apply AH.has_of; assumption)))) only [zdx, zcg, zdz, zaf, qaa, qak, qau, qbx, zcb, zfa, qez, zfb, zeh, zey, qfb, qav, qco, qdf, qdi, zbp, qaf, zae, qcx, qay, zbd, AH.put_same, List.length_cons, List.length_nil, Option.map_some, qeq, qby, Nat.zero_add, true_and, t1, t6, t7, e4, hlt]
        exact ⟨t2, t5, e1.put _ (by omega) e2, fin2 G e5, (3, (i : Int)), rfl, .inl ⟨by simp, hw3⟩⟩
      · have c4 : 1000000 < P[i].2 := by omega
        simp (maxSteps := 1000000) (disch := first | decide | assumption | omega | (simp only [AH.add_n, AH.put_n, AH.mark_n, zcq, AH.back_n] <;> omega) | (repeat (first | assumption | exact zca.eq_1 _ | (refine zfc ?_ ?_; (first | omega | (simp only [AH.add_n, AH.put_n, AH.mark_n, zcq, AH.back_n] <;> omega))) | refine AH.ok.add ?_ _ | refine AH.ok.mark ?_ | (refine AH.ok_put1 ?_ ?_; (first | omega | (simp only [AH.add_n, AH.put_n, AH.mark_n, zcq, AH.back_n] <;> omega))) | refine AH.has_put ?_ _ _ | refine AH.has_mark ?_ | (refine AH.has_new1 ?_ ?_; (first | omega | (simp only [AH.add_n, AH.put_n, AH.mark_n, zcq, AH.back_n] <;> omega))) | refine AH.has_add ?_ _ ?_ | (apply AH.has_of; assumption)))) only [qdb, qdv, zdx, qcs, zbm, zcg, zdz, zbt, qat, qaw, zaf, qbx, zfa, cond_false, qez, qea, zcy, zcj, zez, zeh, qfa, qdj, zbg, qee, qeh, zey, qfb, qcg, zbi, qav, qco, qdf, zbd, qcb, qaq, qac, zdg, zal, zag, qag, Option.bind_some, Option.map_some, zes, qek, qeo, decide_true, decide_false, Nat.add_zero, zbn, t1, t6, t7, hlp, hlt', g6, p1, p3, p4, c1, c2, c3, c4]
        refine fin _ fun G e1 e2 e3 e4 e5 => ?_
        simp (maxSteps := 1000000) (disch := first | decide | assumption | omega | (simp only [AH.add_n, AH.put_n, AH.mark_n, zcq, AH.back_n] <;> omega) | (repeat (first | assumption | exact zca.eq_1 _ | (refine zfc ?_ ?_; (first | omega | (simp only [AH.add_n, AH.put_n, AH.mark_n, zcq, AH.back_n] <;> omega))) | refine AH.ok.add ?_ _ | refine AH.ok.mark ?_ | (refine AH.ok_put1 ?_ ?_; (first | omega | (simp only [AH.add_n, AH.put_n, AH.mark_n, zcq, AH.back_n] <;> omega))) | refine AH.has_put ?_ _ _ | refine AH.has_mark ?_ | (refine AH.has_new1 ?_ ?_; (first | omega | (simp only [AH.add_n, AH.put_n, AH.mark_n, zcq, AH.back_n] <;> omega))) | refine AH.has_add ?_ _ ?_ | (apply AH.has_of; assumption)))) only [zdx, zcg, zdz, zaf, qaa, qak, qau, qbx, zcb, zfa, qez, zfb, zeh, zey, qfb, qav, qco, qdf, qdi, zbp, qaf, zae, qcx, qay, zbd, AH.put_same, List.length_cons, List.length_nil, Option.map_some, qeq, qby, Nat.zero_add, true_and, t1, t6, t7, e4, hlt]
        exact ⟨t2, t5, e1.put _ (by omega) e2, fin2 G e5, (3, (i : Int)), rfl, .inl ⟨by simp, hw3⟩⟩
  clear t1 t2 t5 t6 e kp g6 hw t hh w
  rintro e t hh ⟨rfl, t1, t2, t5, t6, e, kp, g6⟩
  have ok' := e.ok ok
  have l6 := ok'.lt g6
  have g0 := kp _ _ (by omega) g0'
  have g5' := kp _ _ (by omega) g5
  have oE : OwnAt (h.n + 1) hh 2 es' (E.map pr) := by
    obtain ⟨hl, hh' | ⟨id, q1, q2, q3⟩⟩ := oE2
    · exact ⟨hl, .inl hh'⟩
    · exact ⟨hl, .inr ⟨id, q1, kp _ _ (by have := k3.lt q2; omega) q2, q3⟩⟩
  have sp' := sp.ext ok e
  obtain ⟨ps', d, hap, oP, xd⟩ := app_loose (bytes := 16) ok' sp' (fun l hl => by obtain ⟨p, _, rfl⟩ := List.mem_map.mp hl; rfl) (by rw [List.length_map]; omega) (by rw [List.length_map]; omega)
  have kd := xd.ok ok'
  have nd := xd.n
  have flp' : AV.flat ps' = [ps'] := oP.flat
  have gH : ∀ j x, hh.get j = some x → (d.on hh.mark).get j = some x := fun j x hg => xd.get_some ok' hg
  have gH5 := gH _ _ g5'
  have gH6 := gH _ _ g6
  have gH0 := gH _ _ g0
  have oEH := oE.ext ok' xd
  have xH := e.trans xd
  have spH := sp'.ext ok' xd
  simp (maxSteps := 1000000) (disch := first | decide | assumption | omega | (simp only [AH.add_n, AH.put_n, AH.mark_n, zcq, AH.back_n] <;> omega) | (repeat (first | assumption | exact zca.eq_1 _ | (refine zfc ?_ ?_; (first | omega | (simp only [AH.add_n, AH.put_n, AH.mark_n, zcq, AH.back_n] <;> omega))) | refine AH.ok.add ?_ _ | refine AH.ok.mark ?_ | (refine AH.ok_put1 ?_ ?_; (first | omega | (simp only [AH.add_n, AH.put_n, AH.mark_n, zcq, AH.back_n] <;> omega))) | refine AH.has_put ?_ _ _ | refine AH.has_mark ?_ | (refine AH.has_new1 ?_ ?_; (first | omega | (simp only [AH.add_n, AH.put_n, AH.mark_n, zcq, AH.back_n] <;> omega))) | refine AH.has_add ?_ _ ?_ | (apply AH.has_of; assumption)))) only [qdv, zcp, qch, zaw, qah, zaf, qbx, zfa, qey, qdm, zde, zdc, qds, zch, zcs, zdy, zau, Bool.or_true, Bool.or_false, cond_false, qez, zer, zey, qfb, qav, qco, qdf, zej, qaq, AH.get_loose, qal, qab, List.append_nil, AH.mark_n, t1, t5, hap, dp_some]
  generalize d.on hh.mark = H at *
  have lH5 := kd.lt gH5
  have lH6 := kd.lt gH6
  have lH0 := kd.lt gH0
  have l55 := ok'.lt g5'
  simp (maxSteps := 1000000) (disch := first | decide | assumption | omega | (simp only [AH.add_n, AH.put_n, AH.mark_n, zcq, AH.back_n] <;> omega) | (repeat (first | assumption | exact zca.eq_1 _ | (refine zfc ?_ ?_; (first | omega | (simp only [AH.add_n, AH.put_n, AH.mark_n, zcq, AH.back_n] <;> omega))) | refine AH.ok.add ?_ _ | refine AH.ok.mark ?_ | (refine AH.ok_put1 ?_ ?_; (first | omega | (simp only [AH.add_n, AH.put_n, AH.mark_n, zcq, AH.back_n] <;> omega))) | refine AH.has_put ?_ _ _ | refine AH.has_mark ?_ | (refine AH.has_new1 ?_ ?_; (first | omega | (simp only [AH.add_n, AH.put_n, AH.mark_n, zcq, AH.back_n] <;> omega))) | refine AH.has_add ?_ _ ?_ | (apply AH.has_of; assumption)))) only [qch, qah, qbx, qca, zcw, Bool.or_false, zey, qcg, zbi, qav, qco, zbd, qac, zdg, zal, zag, qag, qal, zap, Option.bind_some, Option.map_some, zbh, AH.mark_n, gH5]
  refine WLF.of (R := fun v _ => ∃ b, v = .tup [.b b, .agg (pr (fClear N E P))] ∧ ((fClear N E P).1 ≠ 0 → b = false) ∧ ((fClear N E P).1 = 0 → (b = true ↔ ClearP (form E) P))) (Clear_spec B hs N E es' P ps' _ (kd.mark.loose hid_nil) ((oEH.sl.ext kd (Ext.refl H).mark).loose fun _ _ _ _ _ _ => rfl) ((oP.sl.ext kd (Ext.refl H).mark).loose fun _ _ _ _ _ _ => rfl) hE hP h64) ?_
  rintro v h' ⟨b, rfl, hb1, hb2⟩ _ eG
  generalize AH.back H.mark h' = G at *
  have xG := xH.trans ((Ext.refl H).mark.trans eG)
  have kG := xG.ok ok
  have nG := eG.n
  simp only [AH.mark_n] at nG
  have eHG : Ext H G := (Ext.refl H).mark.trans eG
  have gG5 := eHG.get_some kd gH5
  have gG6 := eHG.get_some kd gH6
  have gG0 := eHG.get_some kd gH0
  have oEG := oEH.ext kd eHG
  simp (maxSteps := 1000000) (disch := first | decide | assumption | omega | (simp only [AH.add_n, AH.put_n, AH.mark_n, zcq, AH.back_n] <;> omega) | (repeat (first | assumption | exact zca.eq_1 _ | (refine zfc ?_ ?_; (first | omega | (simp only [AH.add_n, AH.put_n, AH.mark_n, zcq, AH.back_n] <;> omega))) | refine AH.ok.add ?_ _ | refine AH.ok.mark ?_ | (refine AH.ok_put1 ?_ ?_; (first | omega | (simp only [AH.add_n, AH.put_n, AH.mark_n, zcq, AH.back_n] <;> omega))) | refine AH.has_put ?_ _ _ | refine AH.has_mark ?_ | (refine AH.has_new1 ?_ ?_; (first | omega | (simp only [AH.add_n, AH.put_n, AH.mark_n, zcq, AH.back_n] <;> omega))) | refine AH.has_add ?_ _ ?_ | (apply AH.has_of; assumption)))) only [qdv, zdx, zcg, qch, zef, zaw, qah, zaf, qbx, zcb, zfa, qey, qdm, zda, zdd, zec, zdo, zci, Bool.or_true, Bool.or_false, cond_true, qez, zei, zfb, qev, zbx, zey, qcg, qav, qco, zdn, qdf, qdi, zbp, qaf, zae, qcx, qay, zbd, AH.get_new, qal, qab, List.nil_append, List.cons_append, List.append_nil, List.length_cons, List.length_nil, Option.map_some, List.getElem?_cons_zero, List.getElem?_cons_succ, Nat.zero_add, zbn, true_and, AH.add_n, AH.mark_n, zcq, pr]
  refine WF_orc hb (v := .b true) rfl ?_
  have q1 : ((fClear N E P).1 = (fClear N E P).1 ∧ (fClear N E P).2 = (fClear N E P).2) = True := eq_true ⟨rfl, rfl⟩
  simp (maxSteps := 1000000) (disch := first | decide | assumption | omega | (simp only [AH.add_n, AH.put_n, AH.mark_n, zcq, AH.back_n] <;> omega) | (repeat (first | assumption | exact zca.eq_1 _ | (refine zfc ?_ ?_; (first | omega | (simp only [AH.add_n, AH.put_n, AH.mark_n, zcq, AH.back_n] <;> omega))) | refine AH.ok.add ?_ _ | refine AH.ok.mark ?_ | (refine AH.ok_put1 ?_ ?_; (first | omega | (simp only [AH.add_n, AH.put_n, AH.mark_n, zcq, AH.back_n] <;> omega))) | refine AH.has_put ?_ _ _ | refine AH.has_mark ?_ | (refine AH.has_new1 ?_ ?_; (first | omega | (simp only [AH.add_n, AH.put_n, AH.mark_n, zcq, AH.back_n] <;> omega))) | refine AH.has_add ?_ _ ?_ | (apply AH.has_of; assumption)))) only [zcg, zbt, qaw, qbx, zfa, cond_true, qez, qea, zcj, zer, qfa, qef, qdk, zey, qfb, qcg, zbi, qav, qco, qdf, zbd, qaq, qac, zdg, zal, zag, qag, AH.get_add_old, AH.get_put_other, AH.put_same, AH.mark_get, Option.bind_some, Option.map_some, zdi, decide_true, Bool.not_true, zbn, and_true, t2, t5, t6, gG5, gG6, gG0]
  have xq : ∀ x y, Ext G ((G.mark.add x).put G.n y) := fun x y => (((Ext.refl G).mark).add _).put _ (Nat.le_refl _) (Nat.lt_succ_self _)
  refine WF.val (kept_spec B N E es' es _ ((xq _ _).ok kG) (oEG.sl.ext kG (xq _ _)) (s.ext ok (xG.trans (xq _ _))) (by omega)) fun K eK => ?_
  have xK := (xq _ _).trans eK
  have kK := xK.ok kG
  have nK := xK.n
  have hK6 := xK.get_some kG gG6
  have hK0 := xK.get_some kG gG0
  have yK := xG.trans xK
  by_cases c : (fClear N E P).1 = 0
  · obtain ⟨c1, cN, hPin, hz⟩ := fClear_zero c
    simp (maxSteps := 1000000) (disch := first | decide | assumption | omega | (simp only [AH.add_n, AH.put_n, AH.mark_n, zcq, AH.back_n] <;> omega) | (repeat (first | assumption | exact zca.eq_1 _ | (refine zfc ?_ ?_; (first | omega | (simp only [AH.add_n, AH.put_n, AH.mark_n, zcq, AH.back_n] <;> omega))) | refine AH.ok.add ?_ _ | refine AH.ok.mark ?_ | (refine AH.ok_put1 ?_ ?_; (first | omega | (simp only [AH.add_n, AH.put_n, AH.mark_n, zcq, AH.back_n] <;> omega))) | refine AH.has_put ?_ _ _ | refine AH.has_mark ?_ | (refine AH.has_new1 ?_ ?_; (first | omega | (simp only [AH.add_n, AH.put_n, AH.mark_n, zcq, AH.back_n] <;> omega))) | refine AH.has_add ?_ _ ?_ | (apply AH.has_of; assumption)))) only [qdb, qdv, zdx, qcs, zcg, zdz, zbt, qaw, zaf, qbx, zfa, cond_true, qez, qea, zcj, zez, zer, qfa, qef, qdk, qdj, zbg, zey, qfb, qcg, zbi, qav, qco, qdf, zbd, qcb, qaq, qac, zdg, zal, zag, qag, Option.bind_some, Option.map_some, qeo, decide_true, Bool.not_true, Nat.add_zero, zbn, t1, t2, t6, hK6, hK0, eq_true c]
    refine (ClearDrawing_spec B N E es P ps _ kK (s.ext ok yK) (sp.ext ok yK) c1 cN hPin).mono ?_
    rintro v h2 ⟨⟨b2, rfl, hb3⟩, eL⟩
    have hbb : (b == b2) = true := by
      have h1 := hb2 c
      have h2 := clear_iff E P
      have : (b = true) ↔ (b2 = true) := h1.trans (h2.trans hb3.symm)
      cases b <;> cases b2 <;> simp_all
    simp (maxSteps := 1000000) (disch := first | decide | assumption | omega | (simp only [AH.add_n, AH.put_n, AH.mark_n, zcq, AH.back_n] <;> omega) | (repeat (first | assumption | exact zca.eq_1 _ | (refine zfc ?_ ?_; (first | omega | (simp only [AH.add_n, AH.put_n, AH.mark_n, zcq, AH.back_n] <;> omega))) | refine AH.ok.add ?_ _ | refine AH.ok.mark ?_ | (refine AH.ok_put1 ?_ ?_; (first | omega | (simp only [AH.add_n, AH.put_n, AH.mark_n, zcq, AH.back_n] <;> omega))) | refine AH.has_put ?_ _ _ | refine AH.has_mark ?_ | (refine AH.has_new1 ?_ ?_; (first | omega | (simp only [AH.add_n, AH.put_n, AH.mark_n, zcq, AH.back_n] <;> omega))) | refine AH.has_add ?_ _ ?_ | (apply AH.has_of; assumption)))) only [zdl, zcg, zdz, zaf, qbx, zfa, cond_false, qez, qfa, zey, qav, qco, qdf, zbd, Option.map_some, qdn, Bool.not_true, qec, qbe, qdd, qei, true_and, hbb]
    exact yK.trans eL
  · have hbf := hb1 c
    simp (maxSteps := 1000000) (disch := first | decide | assumption | omega | (simp only [AH.add_n, AH.put_n, AH.mark_n, zcq, AH.back_n] <;> omega) | (repeat (first | assumption | exact zca.eq_1 _ | (refine zfc ?_ ?_; (first | omega | (simp only [AH.add_n, AH.put_n, AH.mark_n, zcq, AH.back_n] <;> omega))) | refine AH.ok.add ?_ _ | refine AH.ok.mark ?_ | (refine AH.ok_put1 ?_ ?_; (first | omega | (simp only [AH.add_n, AH.put_n, AH.mark_n, zcq, AH.back_n] <;> omega))) | refine AH.has_put ?_ _ _ | refine AH.has_mark ?_ | (refine AH.has_new1 ?_ ?_; (first | omega | (simp only [AH.add_n, AH.put_n, AH.mark_n, zcq, AH.back_n] <;> omega))) | refine AH.has_add ?_ _ ?_ | (apply AH.has_of; assumption)))) only [qdb, qdv, zdx, zdl, qcs, zcg, zdz, zbt, qaw, zaf, qbh, qbx, zfa, cond_true, qez, qea, zcy, zcj, zez, qfa, qef, qdk, qdj, zbg, zey, qfb, qav, qco, qdf, zbd, qcb, qaq, qac, zdg, zal, zag, qag, Option.bind_some, Option.map_some, qeo, decide_false, Bool.not_true, Bool.not_false, qec, qbe, qdd, qei, Nat.add_zero, true_and, t6, hK6, c, hbf]
    exact yK
end Go.AM.Zd
end
section
/- A table of functions, held against the program entry by entry. No condition. -/
namespace Go.AM

def Tr.All {α : Type} (p : Nat → α → Prop) : Tr α → (Nat → Nat) → Prop
  | .nil, _ => True
  | .nd v l r, φ => (match v with | some a => p (φ 0) a | none => True) ∧ Tr.All p l (fun j => φ (2 * j + 1)) ∧ Tr.All p r (fun j => φ (2 * j + 2))

theorem Tr.all_get {α : Type} {p : Nat → α → Prop} : ∀ (t : Tr α) (φ : Nat → Nat), Tr.All p t φ → ∀ n a, t.get n = some a → p (φ n) a
  | .nil, φ, _, n, a, h => by cases h
  | .nd v l r, φ, h, n, a, hg => by
    obtain ⟨h1, h2, h3⟩ := h
    cases n with
    | zero =>
      have : v = some a := hg
      subst this; exact h1
    | succ m =>
      have hg' : (match Nat.mod m 2 with | 0 => l.get (Nat.div m 2) | _ + 1 => r.get (Nat.div m 2)) = some a := hg
      have e1 : Nat.mod m 2 = m % 2 := rfl
      have e2 : Nat.div m 2 = m / 2 := rfl
      rw [e1, e2] at hg'
      split at hg'
      · rename_i hm
        have := Tr.all_get l _ h2 _ a hg'
        have e : 2 * (m / 2) + 1 = m + 1 := by omega
        simp only [e] at this; exact this
      · rename_i k hm
        have := Tr.all_get r _ h3 _ a hg'
        have e : 2 * (m / 2) + 2 = m + 1 := by omega
        simp only [e] at this; exact this

theorem tabOk_of {P : Program} {F : Tr AFunc} (h : Tr.All (fun f af => ∃ fn, P.funcs[f]? = some fn ∧ compFunc P some fn = some af) F id) : TabOk some P F := by
  intro f g hfg af hg
  injection hfg with hfg; subst hfg
  exact Tr.all_get F id h f af hg
end Go.AM
end
