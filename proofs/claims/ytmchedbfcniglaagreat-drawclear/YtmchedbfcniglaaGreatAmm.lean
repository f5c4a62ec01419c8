/- Part 13 of the proof that 'DrawClear' holds. Conditions: as each part says. -/
import Derived.Ground.SlsfProg
import Derived.KernelRfl
import Derived.OpenShut
import Derived.ProofKit
import Derived.Shelf.SlGeneric
import Derived.Shelf.SlSortCmp.NoneTotal
import Derived.SizedLaws
import Derived.Test.YtmchedbfcniglaaGreatAmb
import Derived.Test.YtmchedbfcniglaaGreatAme
import Derived.Test.YtmchedbfcniglaaGreatAmf
import Derived.Test.YtmchedbfcniglaaGreatAmh
import Derived.Test.YtmchedbfcniglaaGreatAmi
import Derived.Test.YtmchedbfcniglaaGreatAmj
import Derived.Test.YtmchedbfcniglaaGreatAmk
import Derived.Test.YtmchedbfcniglaaGreatAml
import Derived.Test.YtmchedbfcniglaaGreatProg
set_option linter.unusedSimpArgs false
set_option linter.unusedVariables false
set_option linter.unusedSectionVars false
set_option linter.unnecessarySimpa false
section
/- 'drawBegun' answers true, from any memory, and leaves alone all that was there. No condition. -/
namespace Go.AM.Zd
theorem mixed : Go.Proofs.Tryz.prog.follows .mixedOrders = true := by kernel_rfl
theorem ents : ∀ e ∈ tab, e.ok F 1000000 24 := by
  intro e he
  simp only [tab, List.mem_cons, List.not_mem_nil, or_false] at he
  rcases he with rfl | rfl | rfl | rfl | rfl | rfl | rfl | rfl | rfl | rfl | rfl
  · exact e0_ok
  · exact e1_ok
  · exact e2_ok
  · exact e3_ok
  · exact e4_ok
  · exact e5_ok
  · exact e6_ok
  · exact e7_ok
  · exact e8_ok
  · exact e9_ok
  · exact e10_ok
theorem begun (w : World) : Calls Go.Proofs.Tryz.prog 8 #[] w (fun e w' => e = .returned (.bool true) ∧ w'.os = w.os ∧ w'.tape = w.tape ∧ w'.output = w.output ∧ w.drawn ≤ w'.drawn ∧ w.heap.size ≤ w'.heap.size ∧ ∀ b, b < w.heap.size → w'.heap[b]? = w.heap[b]?) :=
  true_from_nothing (g := 8) tabOk mixed ents rfl begun_run w
end Go.AM.Zd
end
section
/-
  DERIVED: THE SHELF's CONTRACTS AT THIS DUMP, IN PLAIN WORDS (tools/lay-plain.mjs out of 'AmZdShelf.lean', which tools/lay-shelf.mjs wrote): THE SAME DECLARATIONS UNDER THE SAME NAMES: 'import', 'namespace', 'open', 'def', 'theorem' AND NOTHING ELSE: no command of the shelf's: FOR A HAND-IN. Each laying: the table of numbers ('.._ren') and one theorem, a field a fact of the dump's own or the kernel's comparison; each contract: ONE APPLICATION.
-/
namespace Go.Proofs
open Go.Shelf
def Tryz.sortP_ren : Go.Shelf.Ren := ⟨fun | 6 => 48 | 15 => 62 | 14 => 61 | 28 => 83 | 29 => 84 | 20 => 75 | 21 => 76 | 22 => 77 | 23 => 78 | 24 => 79 | 25 => 80 | 26 => 81 | 27 => 82 | 46 => 90 | 47 => 91 | 48 => 92 | 49 => 93 | 50 => 94 | 57 => 104 | n => n, fun | 22 => 22 | 24 => 55 | 25 => 78 | 3 => 3 | 39 => 97 | 0 => 0 | 53 => 120 | 55 => 122 | 4 => 4 | 46 => 113 | 45 => 112 | 50 => 117 | 5 => 5 | 9 => 9 | 66 => 127 | 70 => 131 | 76 => 139 | 77 => 140 | n => n, fun | n => n⟩
theorem Tryz.sortP : Go.Proofs.SlLaysF0.n6 Tryz.prog Tryz.sortP_ren := {
  mixed := by kernel_rfl
  f6 := ⟨Tryz.f48.name, by decide, Tryz.func48.trans (congrArg some (by kernel_rfl))⟩
  f14 := ⟨Tryz.f61.name, by decide, Tryz.func61.trans (congrArg some (by kernel_rfl))⟩
  f15 := Tryz.func62.trans (congrArg some (by kernel_rfl))
  f20 := ⟨Tryz.f75.name, by decide, Tryz.func75.trans (congrArg some (by kernel_rfl))⟩
  f21 := ⟨Tryz.f76.name, by decide, Tryz.func76.trans (congrArg some (by kernel_rfl))⟩
  f22 := ⟨Tryz.f77.name, by decide, Tryz.func77.trans (congrArg some (by kernel_rfl))⟩
  f23 := ⟨Tryz.f78.name, by decide, Tryz.func78.trans (congrArg some (by kernel_rfl))⟩
  f24 := ⟨Tryz.f79.name, by decide, Tryz.func79.trans (congrArg some (by kernel_rfl))⟩
  f25 := ⟨Tryz.f80.name, by decide, Tryz.func80.trans (congrArg some (by kernel_rfl))⟩
  f26 := ⟨Tryz.f81.name, by decide, Tryz.func81.trans (congrArg some (by kernel_rfl))⟩
  f27 := ⟨Tryz.f82.name, by decide, Tryz.func82.trans (congrArg some (by kernel_rfl))⟩
  f28 := Tryz.func83.trans (congrArg some (by kernel_rfl))
  f29 := Tryz.func84.trans (congrArg some (by kernel_rfl))
  f46 := ⟨Tryz.f90.name, by decide, Tryz.func90.trans (congrArg some (by kernel_rfl))⟩
  f47 := Tryz.func91.trans (congrArg some (by kernel_rfl))
  f48 := Tryz.func92.trans (congrArg some (by kernel_rfl))
  f49 := ⟨Tryz.f93.name, by decide, Tryz.func93.trans (congrArg some (by kernel_rfl))⟩
  f50 := ⟨Tryz.f94.name, by decide, Tryz.func94.trans (congrArg some (by kernel_rfl))⟩
  f57 := ⟨Tryz.f104.name, by decide, Tryz.func104.trans (congrArg some (by kernel_rfl))⟩
  t0 := Tryz.underlying0
  a0 := Tryz.isAgg0
  z0 := Tryz.sizeOf0
  v0 := Tryz.zeroValue0
  t3 := Tryz.underlying3
  a3 := Tryz.isAgg3
  z3 := Tryz.sizeOf3
  v3 := Tryz.zeroValue3
  t4 := Tryz.underlying4
  a4 := Tryz.isAgg4
  z4 := Tryz.sizeOf4
  v4 := Tryz.zeroValue4
  t5 := Tryz.underlying5
  a5 := Tryz.isAgg5
  z5 := Tryz.sizeOf5
  v5 := Tryz.zeroValue5
  t9 := Tryz.underlying9
  a9 := Tryz.isAgg9
  z9 := Tryz.sizeOf9
  v9 := Tryz.zeroValue9
  t22 := Tryz.underlying22
  a22 := Tryz.isAgg22
  z22 := Tryz.sizeOf22
  v22 := Tryz.zeroValue22
  t25 := Tryz.underlying78
  a25 := Tryz.isAgg78
  z25 := Tryz.sizeOf78
  v25 := Tryz.zeroValue78
  t39 := Tryz.underlying97
  a39 := Tryz.isAgg97
  z39 := Tryz.sizeOf97
  v39 := Tryz.zeroValue97
  t45 := Tryz.underlying112
  a45 := Tryz.isAgg112
  z45 := Tryz.sizeOf112
  v45 := Tryz.zeroValue112
  t46 := Tryz.underlying113
  a46 := Tryz.isAgg113
  z46 := Tryz.sizeOf113
  v46 := Tryz.zeroValue113
  t50 := Tryz.underlying117
  a50 := Tryz.isAgg117
  z50 := Tryz.sizeOf117
  v50 := Tryz.zeroValue117
  t53 := Tryz.underlying120
  a53 := Tryz.isAgg120
  z53 := Tryz.sizeOf120
  v53 := Tryz.zeroValue120
  t55 := Tryz.underlying122
  a55 := Tryz.isAgg122
  z55 := Tryz.sizeOf122
  v55 := Tryz.zeroValue122
  t66 := Tryz.underlying127
  a66 := Tryz.isAgg127
  z66 := Tryz.sizeOf127
  v66 := Tryz.zeroValue127
  t70 := Tryz.underlying131
  a70 := Tryz.isAgg131
  z70 := Tryz.sizeOf131
  v70 := Tryz.zeroValue131
  t76 := Tryz.underlying139
  a76 := Tryz.isAgg139
  z76 := Tryz.sizeOf139
  v76 := Tryz.zeroValue139
  t77 := Tryz.underlying140
  a77 := Tryz.isAgg140
  z77 := Tryz.sizeOf140
  v77 := Tryz.zeroValue140 }
end Go.Proofs
end
section
/- What is answered from outside is so; the whole table. No condition. -/
namespace Go.AM.Zd
set_option maxRecDepth 100000
set_option maxHeartbeats 4000000
open Go.Proofs
def F2 : Tr AFunc := (((((((((((F.set 4 g4).set 5 g5).set 9 g9).set 15 g15).set 16 g16).set 23 g23).set 27 g27).set 28 g28).set 29 g29).set 43 g43).set 44 g44)
theorem F2_get (n : Nat) : F2.get n = if n = 44 then some g44 else if n = 43 then some g43 else if n = 29 then some g29 else if n = 28 then some g28 else if n = 27 then some g27 else if n = 23 then some g23 else if n = 16 then some g16 else if n = 15 then some g15 else if n = 9 then some g9 else if n = 5 then some g5 else if n = 4 then some g4 else F.get n := by simp only [F2, Tr.get_set]
theorem tabOk2 : TabOk some Tryz.prog F2 := by
  intro f g hf af haf
  injection hf with hf
  subst hf
  rw [F2_get] at haf
  by_cases h44 : f = 44
  · rw [if_pos h44] at haf; injection haf with haf; subst haf; subst h44; exact ⟨_, Tryz.func44, c44⟩
  rw [if_neg h44] at haf
  by_cases h43 : f = 43
  · rw [if_pos h43] at haf; injection haf with haf; subst haf; subst h43; exact ⟨_, Tryz.func43, c43⟩
  rw [if_neg h43] at haf
  by_cases h29 : f = 29
  · rw [if_pos h29] at haf; injection haf with haf; subst haf; subst h29; exact ⟨_, Tryz.func29, c29⟩
  rw [if_neg h29] at haf
  by_cases h28 : f = 28
  · rw [if_pos h28] at haf; injection haf with haf; subst haf; subst h28; exact ⟨_, Tryz.func28, c28⟩
  rw [if_neg h28] at haf
  by_cases h27 : f = 27
  · rw [if_pos h27] at haf; injection haf with haf; subst haf; subst h27; exact ⟨_, Tryz.func27, c27⟩
  rw [if_neg h27] at haf
  by_cases h23 : f = 23
  · rw [if_pos h23] at haf; injection haf with haf; subst haf; subst h23; exact ⟨_, Tryz.func23, c23⟩
  rw [if_neg h23] at haf
  by_cases h16 : f = 16
  · rw [if_pos h16] at haf; injection haf with haf; subst haf; subst h16; exact ⟨_, Tryz.func16, c16⟩
  rw [if_neg h16] at haf
  by_cases h15 : f = 15
  · rw [if_pos h15] at haf; injection haf with haf; subst haf; subst h15; exact ⟨_, Tryz.func15, c15⟩
  rw [if_neg h15] at haf
  by_cases h9 : f = 9
  · rw [if_pos h9] at haf; injection haf with haf; subst haf; subst h9; exact ⟨_, Tryz.func9, c9⟩
  rw [if_neg h9] at haf
  by_cases h5 : f = 5
  · rw [if_pos h5] at haf; injection haf with haf; subst haf; subst h5; exact ⟨_, Tryz.func5, c5⟩
  rw [if_neg h5] at haf
  by_cases h4 : f = 4
  · rw [if_pos h4] at haf; injection haf with haf; subst haf; subst h4; exact ⟨_, Tryz.func4, c4⟩
  rw [if_neg h4] at haf
  exact tabOk f f rfl af haf
def orcZ : Orc := fun g => if g = 8 then some orcT else if g = 48 then some (orcSort 49 cfO) else none
def orc0 : Orc := fun _ => none
theorem tb : TB F2 orcZ := {
  f4 := by rw [F2_get]; kernel_rfl
  o4 := rfl
  f5 := by rw [F2_get]; kernel_rfl
  o5 := rfl
  f9 := by rw [F2_get]; kernel_rfl
  o9 := rfl
  f11 := by rw [F2_get]; kernel_rfl
  o11 := rfl
  f15 := by rw [F2_get]; kernel_rfl
  o15 := rfl
  f16 := by rw [F2_get]; kernel_rfl
  o16 := rfl
  f17 := by rw [F2_get]; kernel_rfl
  o17 := rfl
  f18 := by rw [F2_get]; kernel_rfl
  o18 := rfl
  f19 := by rw [F2_get]; kernel_rfl
  o19 := rfl
  f23 := by rw [F2_get]; kernel_rfl
  o23 := rfl
  f27 := by rw [F2_get]; kernel_rfl
  o27 := rfl
  f28 := by rw [F2_get]; kernel_rfl
  o28 := rfl
  f29 := by rw [F2_get]; kernel_rfl
  o29 := rfl
  f30 := by rw [F2_get]; kernel_rfl
  o30 := rfl
  f31 := by rw [F2_get]; kernel_rfl
  o31 := rfl
  f32 := by rw [F2_get]; kernel_rfl
  o32 := rfl
  f33 := by rw [F2_get]; kernel_rfl
  o33 := rfl
  f34 := by rw [F2_get]; kernel_rfl
  o34 := rfl
  f43 := by rw [F2_get]; kernel_rfl
  o43 := rfl
  f44 := by rw [F2_get]; kernel_rfl
  o44 := rfl
  f45 := by rw [F2_get]; kernel_rfl
  o45 := rfl
  f46 := by rw [F2_get]; kernel_rfl
  o46 := rfl
  f47 := by rw [F2_get]; kernel_rfl
  o47 := rfl }
theorem tc : TC F2 orc0 := {
  f49 := by rw [F2_get]; kernel_rfl
  o49 := rfl
  f63 := by rw [F2_get]; kernel_rfl
  o63 := rfl
  f64 := by rw [F2_get]; kernel_rfl
  o64 := rfl
  f85 := by rw [F2_get]; kernel_rfl
  o85 := rfl }
theorem orc0_ok : OrcOk some Tryz.prog orc0 := ⟨fun g o h => (by cases h), fun g o h => (by cases h)⟩
theorem emptyH_ok : emptyH.ok := ⟨emptyH_wf, fun p hp => by cases hp⟩
theorem grow_of {w w' : World} (h1 : w'.os = w.os) (h2 : w'.tape = w.tape) (h3 : w'.output = w.output) (h4 : w.drawn ≤ w'.drawn) (h5 : w.heap.size ≤ w'.heap.size) (h6 : ∀ b, b < w.heap.size → w'.heap[b]? = w.heap[b]?) :
    ∃ q os', w' = Go.Sort.grow (w.drewN q) os' := by
  refine ⟨w'.drawn - w.drawn, w'.heap.extract w.heap.size w'.heap.size, ?_⟩
  have hh : w'.heap = w.heap ++ w'.heap.extract w.heap.size w'.heap.size := by
    apply Array.ext_getElem?
    intro i
    by_cases hi : i < w.heap.size
    · rw [Array.getElem?_append_left hi]; exact h6 i hi
    · rw [Array.getElem?_append_right (by omega), Array.getElem?_extract]
      by_cases hj : i < w'.heap.size
      · rw [if_pos (by omega)]; congr 1; omega
      · rw [if_neg (by omega), Array.getElem?_eq_none (by omega)]
  have hd : w'.drawn = w.drawn + (w'.drawn - w.drawn) := by omega
  obtain ⟨hp, tp, dr, o, ou⟩ := w'
  simp only at h1 h2 h3 hh hd
  subst h1; subst h2; subst h3
  simp only [Go.Sort.grow, World.drewN]
  congr 1
theorem order_calls (x y : Int × Int) (W : World) : Calls Tryz.prog 49 #[.agg (encP x).toArray, .agg (encP y).toArray] W fun e w' => e = .returned (.int .i64 (cfO x y)) ∧ ∃ q os', w' = Go.Sort.grow (W.drewN q) os' := by
  obtain ⟨n, v, h', hr, rfl, _⟩ := order_spec tc x y emptyH emptyH_ok
  have hv : VRL some (fun _ => none) [.agg (pr x), .agg (pr y)] [.agg (encP x).toArray, .agg (encP y).toArray] := by
    have one : ∀ z : Int × Int, VR some (fun _ => none) (.agg (pr z)) (.agg (encP z).toArray) := fun z =>
      .agg rfl (by simp [pr, AV.one]) (fun j a b ha hb => by
        match j with
        | 0 => simp [pr] at ha; simp [encP] at hb; subst ha; subst hb; exact .i _ _
        | 1 => simp [pr] at ha; simp [encP] at hb; subst ha; subst hb; exact .i _ _
        | j + 2 => simp [pr] at ha)
    exact ((VRL.nil _).cons (one y)).cons (one x)
  refine ((arunG_ok tabOk2 orc0_ok mixed n 49 _ emptyH _ h' hr emptyH_wf 49 rfl).2 (fun _ => none) W.heap.size W #[_, _] (emptyH_HR _ W) hv (fun _ _ _ => rfl)).mono fun e w' he => ?_
  obtain ⟨v', ρ', e1, e2, p⟩ := he
  rw [e2.int_inv] at e1
  exact ⟨e1, grow_of p.os p.tape p.output p.drw p.size fun b hb => p.frame b hb fun i o e hi => by cases hi⟩
theorem lt_cfO (x y : Int × Int) : ltOf cfO x y = decide (x.1 < y.1 ∨ (x.1 = y.1 ∧ x.2 < y.2)) := by
  unfold ltOf
  rw [decide_eq_decide]
  simp only [cfO, cmpI]
  by_cases a : x.1 < y.1 <;> by_cases b : y.1 < x.1 <;> by_cases c : x.2 < y.2 <;> by_cases d : y.2 < x.2 <;> simp [a, b, c, d] <;> omega
theorem swo : Go.Sort.SWO (ltOf cfO) where
  irrefl x := by rw [lt_cfO]; simp
  trans x y z h1 h2 := by rw [lt_cfO] at *; simp only [decide_eq_true_eq] at *; omega
  ntrans x y z h1 h2 := by rw [lt_cfO] at *; simp only [decide_eq_false_iff_not] at *; omega
theorem orcZ_ok : OrcOk some Tryz.prog orcZ := by
  have sk : ∀ l h v h', orcT l h = some (v, h') → Kp h h' := fun l h v h' hr => by
    unfold orcT at hr; split at hr
    · cases hr; exact Kp.refl _
    · cases hr
  refine ⟨fun g o h l hh v h' hr => ?_, fun g o h => ?_⟩
  · unfold orcZ at h
    split at h
    · injection h with h; subst h; exact sk _ _ _ _ hr
    · split at h
      · injection h with h; subst h; exact orcSort_kp _ _ hr
      · cases h
  · unfold orcZ at h
    split at h
    · rename_i hg
      injection h with h; subst h; subst hg
      intro g l hh v h' hr hwf f hf
      injection hf with hf; subst hf
      simp only at hr
      by_cases c : f = 8
      rotate_left
      · rw [if_neg c] at hr; cases hr
      rw [if_pos c] at hr; subst c
      unfold orcT at hr
      split at hr
      rotate_left
      · cases hr
      cases hr
      refine ⟨⟨_, Tryz.func8, by kernel_rfl, by kernel_rfl⟩, fun ρ B0 w cl hHR hV _ => ?_⟩
      have : cl = #[] := by have := hV.1; simp at this; exact Array.eq_empty_of_size_eq_zero this.symm
      subst this
      exact (begun w).mono fun e w' ⟨k1, k2, k3, k4, k5, k6, k7⟩ => ⟨.bool true, ρ, k1, .b _, Post.grow hHR k2 k3 k4 k5 k6 k7⟩
    · split at h
      · rename_i hg
        injection h with h; subst h; subst hg
        exact orcSort_ok Tryz.sortP 48 49 rfl ⟨_, Tryz.func48, by kernel_rfl, by kernel_rfl⟩ Tryz.isAgg55 Tryz.sizeOf55 cfO swo (fun x y h1 h2 => by
          rw [lt_cfO] at h1 h2; simp only [decide_eq_false_iff_not] at h1 h2; exact Prod.ext (by omega) (by omega))
          (enters_of Tryz.func49 (by kernel_rfl) rfl) order_calls
      · cases h
end Go.AM.Zd
end
section
/- What was read with spare places is read where fewer are asked, and behind a call that leaves old blocks alone. Condition: no slice that the types reach has elements of no cells. -/
namespace Go.AM
section
variable {H : Type} {enc : TypeId × Value → H} {P : Program} {w w' : World} {base : Nat}
/-- The list holds the parts of each of its types; no slice in it has elements of no cells. -/
def fullB (P : Program) (L : List TypeId) : Bool := L.all fun t => match P.underlying t with
  | some (.pointer e) => L.contains e
  | some (.slice e) => L.contains e && decide (0 < P.cellsOf e)
  | some (.struct fs) => fs.toList.all fun f => L.contains f.type
  | some (.array _ e) => L.contains e
  | some (.map _ e) => L.contains e
  | _ => true
theorem full_at {L : List TypeId} (h : fullB P L = true) {t : TypeId} (ht : t ∈ L) : (match P.underlying t with
  | some (.pointer e) => e ∈ L
  | some (.slice e) => e ∈ L ∧ 0 < P.cellsOf e
  | some (.struct fs) => ∀ f ∈ fs.toList, f.type ∈ L
  | some (.array _ e) => e ∈ L
  | some (.map _ e) => e ∈ L
  | _ => True) := by
  have := List.all_eq_true.1 h t ht
  split <;> rename_i hu <;> first | trivial | (rw [hu] at this; first | simpa using this | (intro f hf; simpa using List.all_eq_true.1 this f hf))

theorem thinStep {L : List TypeId} (hL : fullB P L = true) {sp : Nat → Bool} {r r' : TypeId → List Value → Option (DataW H × List MemPlace)}
    (hr : ∀ t cs x, t ∈ L → r t cs = some x → (∀ p ∈ x.2, sp p.block = true) → r' t cs = some x) {t : TypeId} (ht : t ∈ L) {cs : List Value} {x : DataW H × List MemPlace}
    (h : DataW.trodStep enc P w base (fun _ => true) true r t cs = some x) (hs : ∀ p ∈ x.2, sp p.block = true) : DataW.trodStep enc P w base sp true r' t cs = some x := by
  have el : ∀ {α : Type} {f : α → Option (DataW H × List MemPlace)} {g : α → Option (DataW H × List MemPlace)} {l : List α} {ys : List (DataW H × List MemPlace)}, l.mapM f = some ys → (∀ a y, a ∈ l → y ∈ ys → f a = some y → g a = some y) → l.mapM g = some ys :=
    fun hm hk => mapM_carry hm hk
  have hf := full_at hL ht
  unfold DataW.trodStep at h ⊢
  split at h
  case h_6 e a _ =>
    obtain ⟨y, hy, hx⟩ := Option.map_eq_some_iff.mp h
    obtain ⟨cs', hc, hy⟩ := Option.bind_eq_some_iff.mp hy
    subst hx
    refine Option.map_eq_some_iff.mpr ⟨y, Option.bind_eq_some_iff.mpr ⟨cs', hc, hr _ _ _ (by rw [(by assumption : P.underlying t = some _)] at hf; exact hf) hy fun p hp => hs p (List.mem_append_right _ hp)⟩, rfl⟩
  case h_8 e a len cap hte =>
    have hpos : e ∈ L ∧ 0 < P.cellsOf e := by rw [(by assumption : P.underlying t = some _)] at hf; exact hf
    dsimp only at h ⊢
    split at h
    rotate_left
    · cases h
    rename_i hc
    rw [if_pos hc]
    rw [if_pos rfl] at h
    obtain ⟨elems, he, h⟩ := Option.bind_eq_some_iff.mp h
    obtain ⟨rest, hrest, hx⟩ := Option.map_eq_some_iff.mp h
    subst hx
    have one : ∀ (i : Nat) (y : DataW H × List MemPlace), y ∈ elems ++ rest → (w.cells? base (a.add (i * P.cellsOf e)) (P.cellsOf e)).bind (r e) = some y → (w.cells? base (a.add (i * P.cellsOf e)) (P.cellsOf e)).bind (r' e) = some y := fun i y hy hv => by
      obtain ⟨cs', hc', hy'⟩ := Option.bind_eq_some_iff.mp hv
      exact Option.bind_eq_some_iff.mpr ⟨cs', hc', hr _ _ _ hpos.1 hy' fun p hp => hs p (List.mem_append_right _ (List.mem_flatMap.mpr ⟨y, hy, hp⟩))⟩
    refine Option.bind_eq_some_iff.mpr ⟨elems, el he fun i y _ hy hv => one i y (List.mem_append_left _ hy) hv, Option.map_eq_some_iff.mpr ⟨rest, ?_, rfl⟩⟩
    by_cases hsp : sp a.block = true
    · rw [if_pos hsp]
      exact el hrest fun j y _ hy hv => one (len + j) y (List.mem_append_right _ hy) hv
    · rw [if_neg hsp]
      have hrow : ∀ n, 0 < n → ∃ p ∈ MemPlace.row a n, p.block = a.block := fun n hn => ⟨.cell a.block (a.off + 0), MemPlace.mem_row.mpr ⟨0, hn, rfl⟩, rfl⟩
      have hr0 : rest.length = 0 := by
        by_cases hl : rest.length = 0
        · exact hl
        · obtain ⟨p, hp, hpb⟩ := hrow ((elems.length + rest.length) * P.cellsOf e) (Nat.mul_pos (by omega) hpos.2)
          have := hs p (List.mem_append_left _ hp)
          rw [hpb] at this
          exact absurd this hsp
      rw [List.length_eq_zero_iff.mp hr0]
  case h_9 =>
    split at h
    rotate_left
    · cases h
    rename_i hc
    rw [if_pos hc]
    obtain ⟨xs, hx, he⟩ := Option.map_eq_some_iff.mp h
    subst he
    exact Option.map_eq_some_iff.mpr ⟨xs, el hx fun f y ha hy hv => hr _ _ _ (by rw [(by assumption : P.underlying t = some _)] at hf; exact hf f ha) hv fun p hp => hs p (List.mem_flatMap.mpr ⟨y, hy, hp⟩), rfl⟩
  case h_10 =>
    split at h
    rotate_left
    · cases h
    rename_i hc
    rw [if_pos hc]
    obtain ⟨xs, hx, he⟩ := Option.map_eq_some_iff.mp h
    subst he
    exact Option.map_eq_some_iff.mpr ⟨xs, el hx fun f y ha hy hv => hr _ _ _ (by rw [(by assumption : P.underlying t = some _)] at hf; exact hf) hv fun p hp => hs p (List.mem_flatMap.mpr ⟨y, hy, hp⟩), rfl⟩
  case h_12 =>
    split at h
    · exact h
    · rename_i hb _; cases hb
    · cases h
  case h_14 k e b _ =>
    split at h
    rotate_left
    · cases h
    rename_i es clock hb
    split at h
    rotate_left
    · cases h
    rename_i hc
    simp only [if_pos hc]
    obtain ⟨entries, he, hd⟩ := Option.bind_eq_some_iff.mp h
    dsimp only at hd
    split at hd
    rotate_left
    · cases hd
    rename_i hris
    have hx := Option.some.inj hd
    subst hx
    refine Option.bind_eq_some_iff.mpr ⟨entries, mapM_carry he (fun x y _ hy hv => ?_), by simp [hris]⟩
    obtain ⟨key, hk, hq⟩ := Option.bind_eq_some_iff.mp hv
    refine Option.bind_eq_some_iff.mpr ⟨key, hk, ?_⟩
    split at hq
    rotate_left
    · cases hq
    rename_i hfo
    rw [if_pos hfo]
    obtain ⟨q, hq1, hq2⟩ := Option.map_eq_some_iff.mp hq
    subst hq2
    exact Option.map_eq_some_iff.mpr ⟨q, hr _ _ _ (by rw [(by assumption : P.underlying t = some _)] at hf; exact hf) hq1 fun p hp => hs p (List.mem_cons_of_mem _ (List.mem_flatMap.mpr ⟨_, hy, hp⟩)), rfl⟩
  all_goals exact h
theorem trod_thin {L : List TypeId} (hL : fullB P L = true) {sp : Nat → Bool} : ∀ (n : Nat) (t : TypeId) (cs : List Value) (x : DataW H × List MemPlace), t ∈ L →
    DataW.trod enc P w base (fun _ => true) true n t cs = some x → (∀ p ∈ x.2, sp p.block = true) → DataW.trod enc P w base sp true n t cs = some x
  | 0, t, cs, x, _, h, _ => by simp [DataW.trod] at h
  | n + 1, t, cs, x, ht, h, hs => by
    rw [DataW.trod_step] at h ⊢
    exact thinStep hL (fun t cs x ht hx hp => trod_thin hL n t cs x ht hx hp) ht h hs
theorem trodAll_thin {L : List TypeId} (hL : fullB P L = true) {sp : Nat → Bool} (hsame : ∀ p, (∀ b, p.block = b → b < w.heap.size) → w.sameAt w' p) :
    ∀ (ts : List TypeId) (vs : List Value) (ds : List (DataW H)) (ps : List MemPlace), (∀ t ∈ ts, t ∈ L) → DataW.TrodAll enc P w base (fun _ => true) true ts vs ds ps → (∀ p ∈ ps, sp p.block = true) → (∀ p ∈ ps, p.block < w.heap.size) → DataW.TrodAll enc P w' base sp true ts vs ds ps
  | [], [], [], ps, _, h, _, _ => h
  | t :: ts, v :: vs, d :: ds, ps, hm, ⟨p, q, ⟨n, h1⟩, h2, e⟩, hs, hl => by
    subst e
    refine ⟨p, q, ⟨n, ?_⟩, trodAll_thin hL hsame ts vs ds q (fun t h => hm t (List.mem_cons_of_mem _ h)) h2 (fun x hx => hs x (List.mem_append_right _ hx)) (fun x hx => hl x (List.mem_append_right _ hx)), rfl⟩
    exact DataW.trod_carry n t v.cells.toList (d, p) (trod_thin hL n _ _ _ (hm t (List.mem_cons_self ..)) h1 fun x hx => hs x (List.mem_append_left _ hx)) fun x hx => hsame x fun b e => e ▸ hl x (List.mem_append_left _ hx)
  | [], [], _ :: _, _, _, h, _, _ => h.elim
  | [], _ :: _, _, _, _, h, _, _ => h.elim
  | _ :: _, [], _, _, _, h, _, _ => h.elim
  | _ :: _, _ :: _, [], _, _, h, _, _ => h.elim
end
end Go.AM
end
section
/- Arguments opened: slices of pairs as objects of the abstract machine. No condition. -/
namespace Go.AM
def I64 (a : Int) : Prop := -9223372036854775808 ≤ a ∧ a ≤ 9223372036854775807
def litP {H : Type} (p : Int × Int) : DataW H := .agg [.lit (.int .i64 p.1), .lit (.int .i64 p.2)]
/-- A type of two integers. -/
structure PairTy (P : Program) (e : TypeId) : Prop where
  cells : P.cellsOf e = 2
  bytes : P.bytesOf e = 16
  elem : ∀ {H : Type} {enc : TypeId × Value → H} {w : World} {base : Nat} {sp : Nat → Bool} {held : Bool} {n : Nat} {cs : List Value} {x : DataW H × List MemPlace}, DataW.trod enc P w base sp held n e cs = some x →
    ∃ p : Int × Int, cs = encP p ∧ I64 p.1 ∧ I64 p.2 ∧ x.1 = litP p
section
variable {P : Program}
theorem int_read {H : Type} {enc : TypeId × Value → H} {w : World} {base : Nat} {sp : Nat → Bool} {held : Bool} {n : Nat} {t : TypeId} {cs : List Value} {x : DataW H × List MemPlace} (ht : P.underlying t = some (.int .i64)) (h : DataW.trod enc P w base sp held n t cs = some x) :
    ∃ a, cs = [.int .i64 a] ∧ I64 a ∧ x.1 = .lit (.int .i64 a) := by
  obtain ⟨a, rfl, rfl, hw⟩ := DataW.trod_int ht h
  refine ⟨a, rfl, ?_, rfl⟩
  simp [Lit.wf, IntKind.min, IntKind.max, IntKind.signed, IntKind.bits] at hw
  unfold I64; omega
theorem two_list {α : Type} {l : List α} (h : l.length = 2) : ∃ a b, l = [a, b] := by
  match l, h with
  | [a, b], _ => exact ⟨a, b, rfl⟩
theorem PairTy.of_array {e i : TypeId} (he : P.underlying e = some (.array 2 i)) (hi : P.underlying i = some (.int .i64)) (c1 : P.cellsOf i = 1) (c2 : P.cellsOf e = 2) (b : P.bytesOf e = 16) : PairTy P e := by
  refine ⟨c2, b, fun {H enc w base sp held n cs x} h => ?_⟩
  obtain ⟨xs, m, _, rfl, hl, hlen, hf⟩ := DataW.trod_array he h
  rw [c2] at hl
  obtain ⟨u, v, rfl⟩ := two_list hl
  obtain ⟨y0, y1, rfl⟩ := two_list hlen
  have h0 := hf 0 (by omega)
  have h1 := hf 1 (by omega)
  rw [c1] at h0 h1
  simp only [Nat.zero_mul, List.drop_zero, List.take_succ_cons, List.take_zero, List.getElem?_cons_zero, Nat.one_mul, List.drop_succ_cons, List.getElem?_cons_succ] at h0 h1
  obtain ⟨a, e1, i1, f1⟩ := int_read hi h0
  obtain ⟨b, e2, i2, f2⟩ := int_read hi h1
  simp only [List.cons.injEq, and_true] at e1 e2
  exact ⟨(a, b), by rw [e1, e2]; rfl, i1, i2, by simp only [List.map_cons, List.map_nil, f1, f2]; rfl⟩
theorem PairTy.of_struct {e i : TypeId} {f0 f1 : Field} (he : P.underlying e = some (.struct #[f0, f1])) (t0 : f0.type = i) (t1 : f1.type = i) (o0 : f0.offset = 0) (o1 : f1.offset = 1) (hi : P.underlying i = some (.int .i64)) (c1 : P.cellsOf i = 1) (c2 : P.cellsOf e = 2) (b : P.bytesOf e = 16) : PairTy P e := by
  refine ⟨c2, b, fun {H enc w base sp held n cs x} h => ?_⟩
  obtain ⟨y0, y1, m, rfl, hl, h0, h1⟩ := ChangeShapes.trod_struct2 he h
  rw [c2] at hl
  obtain ⟨u, v, rfl⟩ := two_list hl
  rw [t0, o0, c1] at h0
  rw [t1, o1, c1] at h1
  simp only [List.drop_zero, List.take_succ_cons, List.take_zero, List.drop_succ_cons] at h0 h1
  obtain ⟨a, e1, i1, f1⟩ := int_read hi h0
  obtain ⟨b, e2, i2, f2⟩ := int_read hi h1
  simp only [List.cons.injEq, and_true] at e1 e2
  exact ⟨(a, b), by rw [e1, e2]; rfl, i1, i2, by simp only [f1, f2]; rfl⟩

/-- A slice of pairs that came in. -/
structure PSl (w : World) (v : Value) (zs : List (Int × Int)) : Prop where
  cases : (v = .slice none 0 0 ∧ zs = []) ∨ ∃ blk off cap c el fz, v = .slice (some ⟨blk, off, none⟩) zs.length cap ∧ w.heap[blk]? = some (.cells c el fz) ∧ zs.length ≤ cap ∧ (0 < cap → off < c.size) ∧
    ∀ j, j < zs.length * 2 → c[off + j]? = some (.int .i64 (if j % 2 = 0 then (zs[j / 2]!).1 else (zs[j / 2]!).2))
  range : ∀ z ∈ zs, I64 z.1 ∧ I64 z.2
theorem open_psl {H : Type} {enc : TypeId × Value → H} {w : World} {base : Nat} {t e : TypeId} {n : Nat} {v : Value} {x : DataW H × List MemPlace} {r : Reach} {b0 : Nat} (ht : P.underlying t = some (.slice e)) (hp : PairTy P e) (hok : Cell.ok P w r b0 t v)
    (h : DataW.trod enc P w base (fun _ => true) true n t [v] = some x) : ∃ zs, PSl w v zs ∧ ((x.1 = .nil ∧ zs = []) ∨ ∃ rest, x.1 = .slice (zs.map litP) rest) := by
  rcases DataW.trod_slice ht h with ⟨h0, rfl⟩ | ⟨a, len, cap, elems, rest, m, _, h1, rfl, hb, hl, hm, hlen, hel, hsp, _⟩
  · injection h0 with h0
    exact ⟨[], ⟨.inl ⟨h0, rfl⟩, by simp⟩, .inl ⟨rfl, rfl⟩⟩
  · injection h1 with h1
    subst h1
    obtain ⟨hrl, hr⟩ := hsp rfl
    unfold Cell.ok at hok
    rw [ht] at hok
    obtain ⟨_, _, _, hspot, row, cells, hsh, _⟩ := hok
    obtain ⟨blk, off, spot⟩ := a
    simp only at hspot
    subst hspot
    have hblk : ∃ c el fz, w.heap[blk]? = some (.cells c el fz) := by
      unfold World.shape? at hsh
      split at hsh
      · rename_i c el fz hh
        exact ⟨_, _, _, hh⟩
      · cases hsh
    obtain ⟨c, el, fz, hb1⟩ := hblk
    have hadd : ∀ o i, (⟨blk, o, none⟩ : Addr).add i = ⟨blk, o + i, none⟩ := fun o i => by
      unfold Addr.add; by_cases h : i = 0 <;> simp [h]
    have one : ∀ (i : Nat) (y : DataW H × List MemPlace), (w.cells? base ((⟨blk, off, none⟩ : Addr).add (i * P.cellsOf e)) (P.cellsOf e)).bind (DataW.trod enc P w base (fun _ => true) true m e) = some y →
        ∃ p : Int × Int, y.1 = litP p ∧ I64 p.1 ∧ I64 p.2 ∧ c[off + i * 2]? = some (.int .i64 p.1) ∧ c[off + i * 2 + 1]? = some (.int .i64 p.2) := fun i y hy => by
      obtain ⟨cs, hcs, hy⟩ := Option.bind_eq_some_iff.mp hy
      obtain ⟨p, rfl, i1, i2, hx⟩ := hp.elem hy
      obtain ⟨_, _, hget⟩ := World.cells?_some hcs
      rw [hp.cells] at hget
      have g0 := hget 0 (by omega)
      have g1 := hget 1 (by omega)
      rw [hadd, hadd] at g0 g1
      have hc : ∀ k, w.cell? ⟨blk, k, none⟩ = c[k]? := fun k => by simp [World.cell?, hb1]
      simp only [hc] at g0 g1
      refine ⟨p, hx, i1, i2, ?_, ?_⟩
      · simpa [encP] using g0
      · simpa [encP] using g1
    have ex : ∃ zs : List (Int × Int), zs.length = len ∧ elems.map (·.1) = zs.map litP ∧ (∀ z ∈ zs, I64 z.1 ∧ I64 z.2) ∧ ∀ i (hi : i < zs.length), c[off + i * 2]? = some (.int .i64 zs[i].1) ∧ c[off + i * 2 + 1]? = some (.int .i64 zs[i].2) := by
      have step : ∀ k, k ≤ len → ∃ zs : List (Int × Int), zs.length = k ∧ (elems.take k).map (·.1) = zs.map litP ∧ (∀ z ∈ zs, I64 z.1 ∧ I64 z.2) ∧ ∀ i (hi : i < zs.length), c[off + i * 2]? = some (.int .i64 zs[i].1) ∧ c[off + i * 2 + 1]? = some (.int .i64 zs[i].2) := by
        intro k
        induction k with
        | zero => intro _; exact ⟨[], rfl, by simp, by simp, fun i hi => by simp at hi⟩
        | succ k ih =>
          intro hk
          obtain ⟨zs, z1, z2, z3, z4⟩ := ih (by omega)
          have hke : k < elems.length := by omega
          have hy := hel k (by omega)
          rw [List.getElem?_eq_getElem hke] at hy
          obtain ⟨p, p1, p2, p3, p4, p5⟩ := one k _ hy
          refine ⟨zs ++ [p], by simp [z1], ?_, ?_, fun i hi => ?_⟩
          · rw [← List.take_append_getElem hke, List.map_append, z2, List.map_append]; simp [p1]
          · intro z hz
            rcases List.mem_append.mp hz with hz | hz
            · exact z3 z hz
            · have : z = p := by simpa using hz
              rw [this]; exact ⟨p2, p3⟩
          · by_cases hik : i < zs.length
            · rw [List.getElem_append_left hik]; exact z4 i hik
            · have : i = zs.length := by simp at hi; omega
              subst this
              rw [List.getElem_append_right (Nat.le_refl _)]
              simp only [Nat.sub_self, List.getElem_cons_zero, z1]
              exact ⟨p4, p5⟩
      obtain ⟨zs, z1, z2, z3, z4⟩ := step len (Nat.le_refl _)
      rw [← hlen, List.take_length] at z2
      exact ⟨zs, z1, z2, z3, z4⟩
    obtain ⟨zs, z1, z2, z3, z4⟩ := ex
    refine ⟨zs, ⟨.inr ⟨blk, off, cap, c, el, fz, by rw [z1], hb1, by omega, fun hc0 => ?_, fun j hj => ?_⟩, z3⟩, .inr ⟨rest.map (·.1), by rw [z2]⟩⟩
    · by_cases hl0 : 0 < len
      · have := (z4 0 (by omega)).1
        have := (Array.getElem?_eq_some_iff.1 this).1
        omega
      · have h0 : len = 0 := by omega
        subst h0
        have hr0 := hr 0 (by omega)
        have hrl0 : 0 < rest.length := by omega
        rw [List.getElem?_eq_getElem hrl0] at hr0
        obtain ⟨p, _, _, _, p4, _⟩ := one (0 + 0) _ hr0
        have := (Array.getElem?_eq_some_iff.1 p4).1
        omega
    · have hj2 : j / 2 < zs.length := by omega
      have e1 : zs[j / 2]! = zs[j / 2] := by simp [hj2]
      rw [e1]
      have := z4 (j / 2) hj2
      rcases Nat.mod_two_eq_zero_or_one j with h0 | h0
      · rw [if_pos h0, ← this.1]; congr 1; omega
      · rw [if_neg (by omega), ← this.2]; congr 1; omega

/-- The object of such a slice, its value, where it lies. -/
def pslAO (v : Value) (zs : List (Int × Int)) : AO := match v with | .slice (some _) _ _ => .cells false (zs.flatMap pr) | _ => .dead
def pslRM (w : World) (v : Value) : Option RM := match v with
  | .slice (some a) _ cap => some ⟨a.block, if cap = 0 then 0 else a.off, match w.heap[a.block]? with | some (.cells c _ _) => c.size | _ => 0⟩
  | _ => none
def pslAV (id : Nat) (v : Value) : AV := match v with | .slice (some _) len cap => .sl id 0 len (some cap) 2 | _ => .nils
theorem PSl.vr {ren : FuncId → Option Nat} {w : World} {v : Value} {zs : List (Int × Int)} (h : PSl w v zs) {ρ : Rho} {id : Nat} (hρ : ρ id = pslRM w v) : VR ren ρ (pslAV id v) v := by
  rcases h.cases with ⟨rfl, rfl⟩ | ⟨blk, off, cap, c, el, fz, rfl, hb, hl, _⟩
  · exact .nils
  · refine .slx (hρ.trans rfl) hl ?_
    by_cases h0 : cap = 0
    · exact .inr h0
    · left; simp [h0]
theorem PSl.sl {w : World} {v : Value} {zs : List (Int × Int)} (h : PSl w v zs) {hp : AH} {id : Nat} (hg : hp.get id = some (pslAO v zs)) : SlAt hp 2 (pslAV id v) (zs.map pr) := by
  rcases h.cases with ⟨rfl, rfl⟩ | ⟨blk, off, cap, c, el, fz, rfl, hb, hl, _⟩
  · exact .inl ⟨rfl, rfl⟩
  · have hall : ∀ l ∈ zs.map pr, l.length = 2 := fun l hl => by obtain ⟨p, _, rfl⟩ := List.mem_map.mp hl; rfl
    refine .inr ⟨id, 0, some cap, false, zs.flatMap pr, by simp [pslAV], hg, fun c' e => (by cases e; simpa using hl), ?_, fun k l hk => ?_⟩
    · rw [← flatten_len hall, ← List.flatMap_def]; exact cut_whole _
    · rw [Nat.zero_add, List.flatMap_def]; exact flatten_cut hall hk
theorem PSl.or {ren : FuncId → Option Nat} {w : World} {v : Value} {zs : List (Int × Int)} (h : PSl w v zs) {ρ : Rho} {B0 : Nat} (hl : (pslAO v zs).live = true) : ∃ e, pslRM w v = some e ∧ OR ren ρ B0 w e (pslAO v zs) := by
  rcases h.cases with ⟨rfl, rfl⟩ | ⟨blk, off, cap, c, el, fz, rfl, hb, hlc, h0, hc⟩
  · cases hl
  · refine ⟨_, rfl, c, el, fz, hb, by simp only [hb], ?_, fun j x hx => ?_, fun e => by cases e⟩
    · simp only [hb, flat_len]
      by_cases hz : zs.length = 0
      · rw [hz]
        by_cases hcap : cap = 0
        · rw [if_pos hcap]; omega
        · rw [if_neg hcap]; have := h0 (by omega); omega
      · have := hc (zs.length * 2 - 1) (by omega)
        have := (Array.getElem?_eq_some_iff.1 this).1
        rw [if_neg (by omega)]; omega
    · have hj : j < zs.length * 2 := by
        have := (List.getElem?_eq_some_iff.1 hx).1
        rw [flat_len] at this; exact this
      rw [if_neg (by omega)]
      have hj2 : j / 2 < zs.length := by omega
      rw [flat_get, List.getElem?_eq_getElem hj2] at hx
      injection hx with hx
      refine ⟨_, hc j hj, ?_, by rw [← hx]; rfl⟩
      rw [← hx]
      have : zs[j / 2]! = zs[j / 2] := by simp [hj2]
      rw [this]; exact .i _ _
/-- Memory of two such slices. -/
def twoH (a b : AO) : AH := { os := (Tr.nil.set 0 a).set 1 b, n := 2, wm := big, hid := [] }
theorem twoH_get0 (a b : AO) : (twoH a b).get 0 = some a := by
  show ((Tr.nil.set 0 a).set 1 b).get 0 = _
  rw [Tr.get_set, if_neg (by omega), Tr.get_set, if_pos rfl]
theorem twoH_get1 (a b : AO) : (twoH a b).get 1 = some b := by
  show ((Tr.nil.set 0 a).set 1 b).get 1 = _
  rw [Tr.get_set, if_pos rfl]
theorem twoH_ge (a b : AO) {i : Nat} (h : 2 ≤ i) : (twoH a b).get i = none := by
  show ((Tr.nil.set 0 a).set 1 b).get i = _
  rw [Tr.get_set, if_neg (by omega), Tr.get_set, if_neg (by omega)]; rfl
theorem twoH_ok (a b : AO) : (twoH a b).ok := ⟨fun i h => twoH_ge a b h, fun p hp => by cases hp⟩
def twoR (a b : Option RM) : Rho := fun i => if i = 0 then a else if i = 1 then b else none
theorem pslAO_ro (v : Value) (zs : List (Int × Int)) : (pslAO v zs).wr = false := by unfold pslAO; split <;> rfl
theorem two_HR {ren : FuncId → Option Nat} {w : World} {v1 v2 : Value} {z1 z2 : List (Int × Int)} (h1 : PSl w v1 z1) (h2 : PSl w v2 z2) : HR ren (twoR (pslRM w v1) (pslRM w v2)) w.heap.size (twoH (pslAO v1 z1) (pslAO v2 z2)) w := by
  refine ⟨Nat.le_refl _, fun i o hg hl => ?_, fun i j o o' e e' _ hg _ hw => ?_⟩
  · match i with
    | 0 => rw [twoH_get0] at hg; injection hg with hg; subst hg; exact h1.or hl
    | 1 => rw [twoH_get1] at hg; injection hg with hg; subst hg; exact h2.or hl
    | i + 2 => rw [twoH_ge _ _ (by omega)] at hg; cases hg
  · match i with
    | 0 => rw [twoH_get0] at hg; injection hg with hg; subst hg; rw [pslAO_ro] at hw; cases hw
    | 1 => rw [twoH_get1] at hg; injection hg with hg; subst hg; rw [pslAO_ro] at hw; cases hw
    | i + 2 => rw [twoH_ge _ _ (by omega)] at hg; cases hg
theorem two_ro {v1 v2 : Value} {z1 z2 : List (Int × Int)} {i : Nat} {o : AO} (hg : (twoH (pslAO v1 z1) (pslAO v2 z2)).get i = some o) : o.wr = false := by
  match i with
  | 0 => rw [twoH_get0] at hg; injection hg with hg; subst hg; exact pslAO_ro _ _
  | 1 => rw [twoH_get1] at hg; injection hg with hg; subst hg; exact pslAO_ro _ _
  | i + 2 => rw [twoH_ge _ _ (by omega)] at hg; cases hg

/-- THE LAW's OUTCOME: true, and the arguments read as they did: all old blocks are as they were. -/
theorem post_same {H : Type} {enc : TypeId × Value → H} {f : Func} {s : ChangeSpec} {apart fresh handsOn again : Bool} {W W' : World} {args : Array Value} {v : Value} {ds gs : List (DataW H)} {before : List MemPlace}
    {L : List TypeId} (hL : fullB P L = true) (hP : ∀ t ∈ f.params.toList, t ∈ L) (hvars : s.vars = [])
    (hW : DataW.Whole enc P f.params.toList s.vars apart W args.toList ds gs before)
    (hres : ∀ (b : Nat) (sp : Nat → Bool) (hd : Bool), DataW.TrodAll enc P W' b sp hd f.resultTypes.toList (v.resultList f.resultTypes.size) (s.fn H (ds ++ gs)).results [])
    (hargs : (s.fn H (ds ++ gs)).args = ds) (hvs : (s.fn H (ds ++ gs)).vars = [])
    (hos : W'.os = W.os) (hout : W'.output = W.output) (hheap : ∀ b, b < W.heap.size → W'.heap[b]? = W.heap[b]?)
    (hok : ∀ (j : Nat) (t : TypeId) (r : Value), f.resultTypes[j]? = some t → (v.resultList f.resultTypes.size)[j]? = some r → Value.okWide P W' .any 0 t r) :
    s.post enc P f apart fresh handsOn again W args v W' := by
  have hlt := hW.lt
  have hW0 := hW
  obtain ⟨p, q, hp, hq, rfl, hfz, hnd⟩ := hW0
  rw [hvars] at hq
  have hq0 : gs = [] ∧ q = [] := by
    cases gs with
    | nil => exact ⟨rfl, hq⟩
    | cons g gs => exact hq.elim
  obtain ⟨hgs, rfl⟩ := hq0
  subst hgs
  have hsame : ∀ x : MemPlace, (∀ b, x.block = b → b < W.heap.size) → W.sameAt W' x := fun x hx => by
    cases x with
    | cell b off => have := hheap b (hx b rfl); show W'.cell? _ = W.cell? _; simp only [World.cell?, this]
    | map b => exact hheap b (hx b rfl)
  have ha : ∀ sp : Nat → Bool, (∀ x ∈ p, sp x.block = true) → DataW.TrodAll enc P W' 0 sp true f.params.toList args.toList ds p := fun sp hsp =>
    trodAll_thin hL hsame _ _ _ _ hP hp hsp fun x hx => hlt x (by simp [hx])
  have hv : ∀ sp : Nat → Bool, DataW.TrodVars enc P W' sp s.vars (s.fn H (ds ++ [])).vars [] := fun sp => by rw [hvs, hvars]; rfl
  have hkb : ∀ may : MemPlace → Prop, W.keptBut W' may := fun may => by
    refine ⟨hos, hout, fun i hi => ?_⟩
    rw [hheap i hi]
    cases W.heap[i]? with
    | none => rfl
    | some o => cases o <;> simp
  refine ⟨ds, [], p ++ [], [], p, [], hW, hres _ _ _, by rw [hargs]; exact ha _ fun x hx => by simpa using hlt x (by simp [hx]), hv _, hkb _, fun _ => ⟨hok, _, _, ([] ++ p) ++ [], ⟨[] ++ p, [], ChangeShapes.trodAll_append (ha _ fun _ _ => rfl) (hres _ _ _), hv _, rfl, ?_, ?_⟩, ?_⟩⟩
  · intro b off hb
    have hb' : MemPlace.cell b off ∈ p ++ [] := by simpa using hb
    have := hfz b off hb'
    have hbl : b < W.heap.size := hlt _ hb'
    simp only [World.frozen?, hheap b hbl] at this ⊢
    exact this
  · intro ha; simpa using hnd ha
  · intro x hx _; simpa using hx
end
end Go.AM
end
