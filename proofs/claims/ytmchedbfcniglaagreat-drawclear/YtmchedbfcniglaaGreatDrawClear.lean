/- 'arborlaw.DrawClear' answers true for every input and leaves its arguments as they were. Conditions: none. -/
import Derived.OpenShut
import Derived.ProofKit
import Derived.SizedLaws
import Derived.Test.YtmchedbfcniglaaGreatAmm
import Derived.Test.YtmchedbfcniglaaGreatRows
import Derived.WalkKit
set_option linter.unusedSimpArgs false
set_option linter.unusedVariables false
set_option linter.unusedSectionVars false
set_option linter.unnecessarySimpa false
section
/- The law 'DrawClear' holds. -/
namespace Go.Proofs.YtmchedbfcniglaaGreat.drawClear
open Go.ChangeShapes Go.WideShapes Go.ChangeAt Go.RowKit Go.AM Go.AM.Zd
set_option maxRecDepth 100000
theorem own : ownKnob Tryz.prog.godebug = none := by kernel_rfl
theorem cells3 : Tryz.prog.cellsOf 3 = 1 := by kernel_rfl
theorem cells22 : Tryz.prog.cellsOf 22 = 1 := by kernel_rfl
theorem cells24 : Tryz.prog.cellsOf 24 = 2 := by kernel_rfl
theorem cells44 : Tryz.prog.cellsOf 44 = 2 := by kernel_rfl
theorem cells55 : Tryz.prog.cellsOf 55 = 2 := by kernel_rfl
theorem bytes44 : Tryz.prog.bytesOf 44 = 16 := by kernel_rfl
theorem bytes55 : Tryz.prog.bytesOf 55 = 16 := by kernel_rfl
theorem types24 : Tryz.prog.cellTypes Tryz.prog.depth 24 = some [3, 22] := by kernel_rfl
theorem p55 : PairTy Tryz.prog 55 := .of_array Tryz.underlying55 Tryz.underlying3 cells3 cells55 bytes55
theorem p44 : PairTy Tryz.prog 44 := .of_struct Tryz.underlying44 rfl rfl rfl rfl Tryz.underlying3 cells3 cells44 bytes44
theorem full : fullB Tryz.prog [24, 29, 22, 55, 44, 3] = true := by kernel_rfl
theorem fullP : ∀ t ∈ Tryz.f4.params.toList, t ∈ [24, 29, 22, 55, 44, 3] := by rw [Tryz.params4]; decide
theorem okCell {w : World} {b : Nat} {t e : TypeId} {v : Value} (ht : Tryz.prog.underlying t = some (.slice e)) (h : Cell.okWide Tryz.prog w .any b t v) : Cell.ok Tryz.prog w .any b t v := by
  unfold Cell.okWide at h
  rw [ht] at h
  exact h

theorem pslAV_one (i : Nat) (v : Value) : (pslAV i v).one = true := by unfold pslAV; split <;> rfl
theorem contract (H : Type) (enc : TypeId × Value → H) (W : World) (base : Nat) (args : Array Value) (ds gs : List (DataW H)) (before : List MemPlace)
    (hval : ∀ (j : Nat) t v, Tryz.f4.params[j]? = some t → args[j]? = some v → Value.okWide Tryz.prog W .any base t v)
    (hW : DataW.Whole enc Tryz.prog Tryz.f4.params.toList Rows.drawClearSpec.vars false W args.toList ds gs before)
    (hsz : (DataW.weightsEach Tryz.prog (Tryz.f4.params.toList ++ Rows.drawClearSpec.plain.varTypes Tryz.prog) (ds ++ gs)).all (· ≤ reachBytes) = true) :
    Calls Tryz.prog 4 args W fun e W' => ∃ v, e = .returned v ∧ Rows.drawClearSpec.post enc Tryz.prog Tryz.f4 false true false false W args v W' := by
  have hW' := hW
  obtain ⟨p, q, hA0, hV, rfl, hfz, hnd⟩ := hW
  have hA : DataW.TrodAll enc Tryz.prog W 0 (fun _ => true) true Tryz.f4.params.toList args.toList ds p := hA0
  rw [Tryz.params4] at hA hval hsz
  obtain ⟨v0, vs0, d0, ds0, p0, q0, hargs, rfl, rfl, h0, r0⟩ := trodAll_cons hA
  obtain ⟨v1, vs1, d1, ds1, p1, q1, rfl, rfl, rfl, h1, r1⟩ := trodAll_cons r0
  obtain ⟨rfl, rfl, rfl⟩ := trodAll_nil r1
  obtain rfl : args = #[v0, v1] := by cases args; simp_all
  obtain ⟨rfl, rfl⟩ := trodVars_none hV
  have o0 := hval 0 24 v0 rfl rfl
  have o1 := hval 1 29 v1 rfl rfl
  unfold Value.okWide at o0 o1
  rw [Tryz.underlying24] at o0
  rw [Tryz.underlying29] at o1
  obtain ⟨cs, rfl, hcs, ts, hts, _, hrow⟩ := o0
  rw [types24] at hts
  injection hts with hts
  subst hts
  rw [cells24] at hcs
  obtain ⟨c0, c1, rfl⟩ : ∃ a b, cs = #[a, b] := by
    obtain ⟨l⟩ := cs
    obtain ⟨a, b, rfl⟩ := two_list (show l.length = 2 from hcs)
    exact ⟨a, b, rfl⟩
  obtain ⟨u, hu, oc1⟩ := hrow 1 c1 rfl
  injection hu with hu
  subst hu
  have oc := okCell Tryz.underlying22 oc1
  have oo := okCell Tryz.underlying29 o1
  obtain ⟨k0, h0⟩ := h0
  obtain ⟨k1, h1⟩ := h1
  obtain ⟨y0, y1, m, hx, hl, g0, g1⟩ := trod_struct2 Tryz.underlying24 h0
  simp only [Prod.mk.injEq] at hx
  obtain ⟨rfl, rfl⟩ := hx
  simp only [Value.cells, List.drop_zero, cells3, cells22, List.take_succ_cons, List.take_zero, List.drop_succ_cons] at g0 g1
  obtain ⟨N, e0, iN, f0⟩ := int_read Tryz.underlying3 g0
  simp only [List.cons.injEq, and_true] at e0
  subst e0
  obtain ⟨z1, s1, t1⟩ := open_psl Tryz.underlying22 p55 oc g1
  obtain ⟨a1, l1, cp1, rfl⟩ := okWide_slice Tryz.underlying29 (hval 1 29 v1 rfl rfl)
  obtain ⟨z2, s2, t2⟩ := open_psl Tryz.underlying29 p44 oo h1
  have len1 : z1.length ≤ 8796093022207 := by
    rcases t1 with ⟨_, rfl⟩ | ⟨rest, t1⟩
    · exact Nat.zero_le _
    · have hm : ((z1.map (litP (H := H))).length + rest.length) * Tryz.prog.bytesOf 55 ∈ DataW.weightsEach Tryz.prog (#[24, 29].toList ++ Rows.drawClearSpec.plain.varTypes Tryz.prog) ([DataW.agg [y0.1, y1.1], d1] ++ []) := by
        simp [DataW.weightsEach, DataW.weights, Tryz.underlying24, Tryz.underlying22, f0, t1]
      have := List.all_eq_true.1 hsz _ hm
      rw [bytes55, List.length_map] at this
      unfold reachBytes at this
      simp only [decide_eq_true_eq] at this
      omega
  have len2 : z2.length ≤ 8796093022207 := by
    rcases t2 with ⟨_, rfl⟩ | ⟨rest, t2⟩
    · exact Nat.zero_le _
    · have := sized_slice hsz (j := 1) (t := 29) (e := 44) (elems := z2.map litP) (spare := rest) rfl (by simpa using t2) Tryz.underlying29
      rw [bytes44, List.length_map] at this
      unfold reachBytes at this
      omega
  generalize hv : Value.slice a1 l1 cp1 = v1 at *
  obtain ⟨n, v, h', hr, rfl, _⟩ := law_spec tb rfl rfl N z1 (pslAV 0 c1) z2 (pslAV 1 v1) (twoH (pslAO c1 z1) (pslAO v1 z2)) (twoH_ok _ _)
    (s1.sl (twoH_get0 _ _)) (s2.sl (twoH_get1 _ _)) len1 len2 (fun p hp => s2.range p hp)
  have hvr : VRL some (twoR (pslRM W c1) (pslRM W v1)) [.agg [.i .i64 N, pslAV 0 c1], pslAV 1 v1] [.agg #[.int .i64 N, c1], v1] := by
    refine ((VRL.nil _).cons (s2.vr rfl)).cons ?_
    refine .agg rfl (fun x hx => ?_) (fun j a b ha hb => ?_)
    · rcases List.mem_cons.mp hx with rfl | hx
      · rfl
      · rw [List.mem_singleton.mp hx]; exact pslAV_one _ _
    · match j with
      | 0 => simp at ha hb; subst ha; subst hb; exact .i _ _
      | 1 => simp at ha hb; subst ha; subst hb; exact s1.vr rfl
      | j + 2 => simp at ha
  refine ((arunG_ok tabOk2 orcZ_ok mixed n 4 _ _ _ h' hr (twoH_ok _ _).wf 4 rfl).2 (twoR (pslRM W c1) (pslRM W v1)) W.heap.size W #[.agg #[.int .i64 N, c1], v1] (two_HR s1 s2) hvr (fun i hi _ => by have : 2 ≤ i := hi; unfold twoR; rw [if_neg (by omega), if_neg (by omega)])).mono fun e W' he => ?_
  obtain ⟨v', ρ', rfl, e2, p⟩ := he
  have e2 := e2.bool_inv
  subst e2
  have hfr := fun b hb => p.frame b hb fun i o e hi ho => by rw [two_ro hi] at ho; cases ho
  refine ⟨_, rfl, post_same full fullP rfl hW' (fun _ _ _ => trodAll_cons_mk (shut_bool Tryz.underlying4 _) trodAll_mk0) rfl rfl p.os p.output hfr
    (ok_one (by kernel_rfl) rfl (okWide_bool_mk Tryz.underlying4 _))⟩

theorem lifted (os : Os) (started : os.Started) (H : Type) (enc : TypeId × Value → H) :
    ReturnsInHanded {} Tryz.checked os 4 .any (Rows.drawClearSpec.pre6 enc Tryz.prog Tryz.f4 Rows.drawClearRow.domain false) (Rows.drawClearSpec.post enc Tryz.prog Tryz.f4 false true false false) := by
  refine returnsInHanded_of_change_sized (C := Tryz.checked) own started (by kernel_rfl) Tryz.func4
    (ChangeSpec.witness6 (enc := enc) (C := Tryz.checked) false ⟨#[], #[.agg #[.int .i64 0, .slice none 0 0], .slice none 0 0], []⟩ 8 (by kernel_rfl) (by kernel_rfl) (by kernel_rfl) (by kernel_rfl)) ?_
  intro W base args ds gs before hval hW _ hsz _
  exact contract H enc W base args ds gs before hval hW hsz

theorem proved : Rows.DrawClearSaid :=
  OpenClaim.holds_of_wide 4 Tryz.f4 rfl rfl rfl rfl rfl rfl rfl ⟨rfl, rfl, rfl, rfl, rfl⟩ rfl rfl rfl rfl rfl (by kernel_rfl) Tryz.func4 (by kernel_rfl)
    (of_decide_eq_true (by kernel_rfl)) (by unfold Func.isWrapper; first | (rw [if_pos (by decide +kernel)]; kernel_rfl) | (rw [if_neg (by decide +kernel)]; exact ⟨rfl, rfl⟩))
    (fun os started H enc _ => lifted os started H enc)
end Go.Proofs.YtmchedbfcniglaaGreat.drawClear
end
