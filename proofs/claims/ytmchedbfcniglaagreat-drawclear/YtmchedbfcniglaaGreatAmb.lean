/- Part 2 of the proof that 'DrawClear' holds. Conditions: as each part says. -/
import Derived.LoopN
import Derived.Orders
import Derived.Test.YtmchedbfcniglaaGreatAma
set_option linter.unusedSimpArgs false
set_option linter.unusedVariables false
set_option linter.unusedSectionVars false
set_option linter.unnecessarySimpa false
section
/- Regions whose order is open: the records of a run in the one order; what one operation adds to what stands in memory. -/
namespace Go.AM

structure Rec where
  i : Nat
  o : AOper
  pre : Nat
  bar : Bool
  tin : Tmps
  hin : AH
  hid : List (Nat × Nat)
  want : Bool
  v : AV
  hout : AH

def Rec.key (r : Rec) : Nat × AOper × Nat × Bool := (r.i, r.o, r.pre, r.bar)
def Rec.lo (r : Rec) : Bool := r.want && !(r.bar || isPure r.o.op)

structure Good (c : CallF) (r : Rec) : Prop where
  hw : r.want = wantedA r.tin r.o.guard
  off : r.want = false → r.v = und ∧ r.hout = r.hin
  bars : r.want = true → (r.bar || isPure r.o.op) = true → runOp c r.tin r.hin r.o.op = some (r.v, r.hout)
  loose : r.want = true → (r.bar || isPure r.o.op) = false → runLoose c r.tin r.hin r.hid r.o.op = some (r.v, r.hout)
  kp : Kp r.hin r.hout
  bnd : ∀ x, r.hin.n ≤ x → zca r.hid x = false

def Pw (q r : Rec) : Prop := q.lo = true → Nat.testBit r.pre q.i = false → ∀ x, zca r.hid x = false → ¬(q.hin.n ≤ x ∧ x < q.hout.n) ∧ zca (targetC q.tin q.hin.n q.o.op) x = false

def Chained : List Rec → Tmps → AH → Tmps → AH → Prop
  | [], t, h, t', h' => t' = t ∧ h' = h
  | r :: rs, t, h, t', h' => r.tin = t ∧ r.hin = h ∧ Chained rs (putD t r.o.dst r.v) r.hout t' h'

theorem hideOf_out {pre x : Nat} : ∀ {made : List (Nat × List (Nat × Nat))}, zca (hideOf pre made) x = false → ∀ m ∈ made, Nat.testBit pre m.1 = false → zca m.2 x = false
  | [], _, m, hm, _ => by cases hm
  | (j, l) :: r, h, m, hm, hb => by
    simp only [hideOf] at h
    cases hj : Nat.testBit pre j with
    | true =>
      rw [hj] at h
      cases hm with
      | head => rw [hj] at hb; cases hb
      | tail _ hm => exact hideOf_out h m hm hb
    | false =>
      rw [hj, cond_false, hiddenIn_append] at h
      have := Bool.or_eq_false_iff.mp h
      cases hm with
      | head => exact this.1
      | tail _ hm => exact hideOf_out this.2 m hm hb
theorem hidden_of {x : Nat} : ∀ {l : List (Nat × Nat)}, (∀ p ∈ l, p.2 ≤ x) → zca l x = false
  | [], _ => rfl
  | (a, b) :: r, h => by
    have h1 : b ≤ x := h (a, b) (by simp)
    have h2 : Nat.blt x b = false := by
      cases e : Nat.blt x b with
      | false => rfl
      | true => have := Nat.blt_eq.mp e; omega
    simp [zca, h2, hidden_of (l := r) (fun p hp => h p (by simp [hp]))]
theorem hideOf_bnd {pre x : Nat} : ∀ {made : List (Nat × List (Nat × Nat))}, (∀ m ∈ made, ∀ p ∈ m.2, p.2 ≤ x) → ∀ p ∈ hideOf pre made, p.2 ≤ x
  | [], _, p, hp => by cases hp
  | (j, l) :: r, h, p, hp => by
    simp only [hideOf] at hp
    cases hj : Nat.testBit pre j with
    | true => rw [hj] at hp; exact hideOf_bnd (fun m hm => h m (by simp [hm])) p hp
    | false =>
      rw [hj, cond_false] at hp
      rcases List.mem_append.mp hp with hp | hp
      · exact h (j, l) (by simp) p hp
      · exact hideOf_bnd (fun m hm => h m (by simp [hm])) p hp

theorem recs {c : CallF} (hc : KpF c) : ∀ (l : List (Nat × AOper × Nat × Bool)) (made : List (Nat × List (Nat × Nat))) (t : Tmps) (h : AH) (t' : Tmps) (h' : AH), runDreg c l made t h = some (t', h') → (∀ m ∈ made, ∀ p ∈ m.2, p.2 ≤ h.n) →
    ∃ Rs : List Rec, Rs.map Rec.key = l ∧ (∀ r ∈ Rs, Good c r ∧ ∀ m ∈ made, Nat.testBit r.pre m.1 = false → ∀ x, zca r.hid x = false → zca m.2 x = false) ∧ Rs.Pairwise Pw ∧ Chained Rs t h t' h'
  | [], made, t, h, t', h', hr, _ => by
    injection hr with hr; injection hr with h1 h2; subst h1; subst h2
    exact ⟨[], rfl, (by intro r hr; cases hr), .nil, rfl, rfl⟩
  | (i, o, pre, bar) :: l, made, t, h, t', h', hr, hb => by
    simp only [runDreg] at hr
    have nx : ∀ {x : Nat}, h.n ≤ x → zca (hideOf pre made) x = false := fun {x} hx => hidden_of (fun p hp => Nat.le_trans (hideOf_bnd hb p hp) hx)
    cases hw : wantedA t o.guard with
    | false =>
      rw [hw, cond_false] at hr
      obtain ⟨Rs, e1, e2, e3, e4⟩ := recs hc l made _ h t' h' hr hb
      refine ⟨⟨i, o, pre, bar, t, h, hideOf pre made, false, und, h⟩ :: Rs, by rw [List.map_cons, e1]; rfl, ?_, ?_, rfl, rfl, e4⟩
      · intro r hr
        cases hr with
        | head => exact ⟨⟨hw.symm, fun _ => ⟨rfl, rfl⟩, (fun e => by cases e), (fun e => by cases e), Kp.refl _, fun x hx => nx hx⟩, fun m hm h1 x h2 => hideOf_out h2 m hm h1⟩
        | tail _ hr => exact e2 r hr
      · refine .cons (fun r hr hlo => ?_) e3
        cases hlo
    | true =>
      rw [hw, cond_true] at hr
      cases hbb : bar || isPure o.op with
      | true =>
        rw [hbb, cond_true] at hr
        split at hr
        · rename_i v h1 ho
          have k1 := runOp_kp hc ho
          obtain ⟨Rs, e1, e2, e3, e4⟩ := recs hc l made _ h1 t' h' hr (fun m hm p hp => Nat.le_trans (hb m hm p hp) k1.n)
          refine ⟨⟨i, o, pre, bar, t, h, hideOf pre made, true, v, h1⟩ :: Rs, by rw [List.map_cons, e1]; rfl, ?_, ?_, rfl, rfl, e4⟩
          · intro r hr
            cases hr with
            | head => exact ⟨⟨hw.symm, (fun e => by cases e), fun _ _ => ho, (fun _ e => by simp only [hbb] at e; cases e), k1, fun x hx => nx hx⟩, fun m hm h1 x h2 => hideOf_out h2 m hm h1⟩
            | tail _ hr => exact e2 r hr
          · refine .cons (fun r hr hlo => ?_) e3
            simp only [Rec.lo, hbb] at hlo; cases hlo
        · cases hr
      | false =>
        rw [hbb, cond_false] at hr
        split at hr
        · rename_i v h1 ho
          have k1 := runLoose_kp hc ho
          obtain ⟨Rs, e1, e2, e3, e4⟩ := recs hc l ((i, (h.n, h1.n) :: targetC t h.n o.op) :: made) _ h1 t' h' hr (fun m hm p hp => by
            cases hm with
            | head =>
              cases hp with
              | head => exact Nat.le_refl _
              | tail _ hp =>
                have := (List.mem_filter.mp hp).2
                exact Nat.le_trans (Nat.le_of_ble_eq_true this) k1.n
            | tail _ hm => exact Nat.le_trans (hb m hm p hp) k1.n)
          refine ⟨⟨i, o, pre, bar, t, h, hideOf pre made, true, v, h1⟩ :: Rs, by rw [List.map_cons, e1]; rfl, ?_, ?_, rfl, rfl, e4⟩
          · intro r hr
            cases hr with
            | head => exact ⟨⟨hw.symm, (fun e => by cases e), (fun _ e => by simp only [hbb] at e; cases e), fun _ _ => ho, k1, fun x hx => nx hx⟩, fun m hm h1 x h2 => hideOf_out h2 m hm h1⟩
            | tail _ hr => exact ⟨(e2 r hr).1, fun m hm => (e2 r hr).2 m (by simp [hm])⟩
          · refine .cons (fun r hr hlo hbit x hx => ?_) e3
            have := (e2 r hr).2 _ (List.mem_cons_self ..) hbit x hx
            simp only [zca] at this
            have := Bool.or_eq_false_iff.mp this
            refine ⟨fun hh => ?_, this.2⟩
            have h3 := this.1
            rw [Nat.ble_eq_true_of_le hh.1, Nat.blt_eq.mpr hh.2] at h3
            cases h3
        · cases hr

/-! Along the chain. -/
open Classical in
noncomputable def uh (x : Nat) (r : Rec) : Option (Option AO) := if r.hout.os.get x = r.hin.os.get x then none else some (r.hout.os.get x)
def ut (s : Sl) (r : Rec) : Option AV := if r.o.dst = some s then some r.v else none

theorem uh_none {x : Nat} {r : Rec} (h : r.hout.os.get x = r.hin.os.get x) : uh x r = none := by simp [uh, h]
theorem ut_none {s : Sl} {r : Rec} (h : r.o.dst ≠ some s) : ut s r = none := by simp [ut, h]

theorem tget_putD (t : Tmps) (d : Option Sl) (v : AV) (s : Sl) : tget (putD t d v) s = if d = some s then v else tget t s := by
  cases d with
  | none => simp [putD]
  | some e => simp only [putD, tget_tset, Option.some.injEq]

theorem chained_append : ∀ {As Bs : List Rec} {t : Tmps} {h : AH} {t' : Tmps} {h' : AH}, Chained (As ++ Bs) t h t' h' → ∃ tm hm, Chained As t h tm hm ∧ Chained Bs tm hm t' h'
  | [], _, t, h, _, _, hc => ⟨t, h, ⟨rfl, rfl⟩, hc⟩
  | r :: As, Bs, t, h, t', h', hc => by
    obtain ⟨h1, h2, h3⟩ := hc
    obtain ⟨tm, hm, e1, e2⟩ := chained_append h3
    exact ⟨tm, hm, ⟨h1, h2, e1⟩, e2⟩

theorem chained_kp : ∀ {As : List Rec} {t : Tmps} {h : AH} {t' : Tmps} {h' : AH}, Chained As t h t' h' → (∀ q ∈ As, Kp q.hin q.hout) → Kp h h' ∧ ∀ q ∈ As, Kp h q.hin ∧ Kp q.hout h'
  | [], t, h, _, _, hc, _ => by rw [hc.2]; exact ⟨Kp.refl _, fun q hq => by cases hq⟩
  | r :: As, t, h, t', h', hc, hk => by
    obtain ⟨h1, h2, h3⟩ := hc
    have kr := hk r (by simp)
    rw [h2] at kr
    obtain ⟨e1, e2⟩ := chained_kp h3 (fun q hq => hk q (by simp [hq]))
    refine ⟨kr.trans e1, fun q hq => ?_⟩
    cases hq with
    | head => rw [h2]; exact ⟨Kp.refl _, e1⟩
    | tail _ hq => exact ⟨kr.trans (e2 q hq).1, (e2 q hq).2⟩

theorem chained_os (x : Nat) : ∀ {As : List Rec} {t : Tmps} {h : AH} {t' : Tmps} {h' : AH}, Chained As t h t' h' → fld (uh x) (fun _ => true) As (h.os.get x) = h'.os.get x
  | [], t, h, _, _, hc => by rw [hc.2]; rfl
  | r :: As, t, h, t', h', hc => by
    obtain ⟨h1, h2, h3⟩ := hc
    simp only [fld, cond_true]
    have e : (uh x r).getD (h.os.get x) = r.hout.os.get x := by
      unfold uh
      split
      · rename_i e; rw [h2] at e; rw [e]; rfl
      · rfl
    rw [e]; exact chained_os x h3
theorem chained_t (s : Sl) : ∀ {As : List Rec} {t : Tmps} {h : AH} {t' : Tmps} {h' : AH}, Chained As t h t' h' → fld (ut s) (fun _ => true) As (tget t s) = tget t' s
  | [], t, h, _, _, hc => by rw [hc.1]; rfl
  | r :: As, t, h, t', h', hc => by
    obtain ⟨h1, h2, h3⟩ := hc
    simp only [fld, cond_true]
    have e : (ut s r).getD (tget t s) = tget (putD t r.o.dst r.v) s := by
      rw [tget_putD]; unfold ut
      split <;> rfl
    rw [e]; exact chained_t s h3

section
variable {ren : FuncId → Option Nat}

theorem HR.sub {ρ : Rho} {B0 : Nat} {g h : AH} {w : World} (hr : HR ren ρ B0 g w) (A : ∀ x o, h.get x = some o → g.get x = some o) : HR ren ρ B0 h w :=
  ⟨hr.base, fun i o h1 h2 => hr.obj i o (A i o h1) h2, fun i j o o' e e' hij h1 h2 => hr.dist i j o o' e e' hij (A i o h1) (A j o' h2)⟩

/-- The same memory, said in other words. -/
theorem Post.congr {ρ ρ' : Rho} {B0 : Nat} {h g h' : AH} {w w' : World} (p : Post ren ρ B0 h w ρ' g w') (e1 : ∀ x, h'.os.get x = g.os.get x) (e2 : h'.n = g.n) (e3 : h'.wm = g.wm) (e4 : h'.hid = g.hid) : Post ren ρ B0 h w ρ' h' w' := by
  have eg : ∀ x, h'.get x = g.get x := fun x => by unfold AH.get; rw [e1, e4]
  exact ⟨p.le, fun i hi => by rw [e2]; exact p.dom i hi, p.rel.sub (fun x o hx => by rw [← eg]; exact hx), by rw [e2]; exact p.n, by rw [e4]; exact p.hid, by rw [e3]; exact p.wm,
    fun i h1 h2 => by rw [e1]; exact p.keep i h1 (by rw [← e3]; exact h2), fun i o h1 h2 => p.old i o h1 (by rw [← eg]; exact h2), p.os, p.tape, p.output, p.drw, p.size, p.frame, fun i o h1 h2 => p.new i o h1 (by rw [← eg]; exact h2)⟩

/-- An operation that saw a part of memory, run where there is more. -/
theorem Post.over {ρ0 ρ ρ' : Rho} {B0 : Nat} {h0 g H h1 g' : AH} {w0 w w' : World} (p : Post ren ρ0 B0 h0 w0 ρ g w) (q : Post ren ρ B0 H w ρ' h1 w') (kp : Kp H h1) (hwf : H.wf)
    (A : ∀ x o, H.get x = some o → g.get x = some o)
    (B : ∀ x o, g'.get x = some o → h1.get x = some o ∨ (H.get x = none ∧ g.get x = some o))
    (r1 : h0.n ≤ H.n) (r2 : h1.n ≤ g.n) (e2 : g'.n = g.n) (e3 : g'.wm = g.wm) (e4 : g'.hid = g.hid) (keep : ∀ x, x < h0.n → x < g'.wm → g'.os.get x = h0.os.get x) :
    Post ren ρ0 B0 h0 w0 ρ' g' w' := by
  have lec : ∀ {x e e'}, ρ x = some e → ρ' x = some e' → e = e' := fun {x e e'} h1 h2 => by
    have := q.le x e h1; rw [this] at h2; injection h2
  have ge : ∀ {x o}, g.get x = some o → o.live = true → ∃ e, ρ x = some e ∧ ρ' x = some e := fun {x o} h1 h2 => by
    obtain ⟨e, he, _⟩ := p.rel.obj x o h1 h2
    exact ⟨e, he, q.le x e he⟩
  have d0 : ∀ {x}, x < h0.n → ρ x = ρ0 x := fun {x} hx => by
    by_cases c : ρ x = ρ0 x
    · exact c
    · have := (p.dom x c).1; omega
  -- a writable object of the operation's, and one that it did not see
  have far : ∀ {i j o o' e e'}, h1.get i = some o → o.wr = true → H.get j = none → g.get j = some o' → o'.live = true → ρ' i = some e → ρ' j = some e' → e.blk ≠ e'.blk := by
    intro i j o o' e e' hi hw hj hgj hl he he'
    obtain ⟨ej, hej, hlt⟩ := p.rel.obj j o' hgj hl
    have hej' := lec hej he'; subst hej'
    have hlt := OR.blk_lt hlt hl
    by_cases c : i < H.n
    · obtain ⟨oo, k1, k2⟩ := q.old i o c hi hw
      obtain ⟨ei, f1, f2⟩ := ge (A i oo k1) (AO.live_of_wr k2)
      rw [f2] at he; injection he with he; subst he
      exact p.rel.dist i j oo o' _ _ (fun e => by rw [e, hj] at k1; cases k1) (A i oo k1) hgj k2 hl f1 hej
    · obtain ⟨ei, f1, f2⟩ := q.new i o (by omega) hi hw
      rw [f1] at he; injection he with he; subst he
      rcases f2 with f2 | ⟨k, ok, ek, k1, k2, k3, k4⟩
      · omega
      · rw [← k4]
        exact p.rel.dist k j ok o' _ _ (fun e => by rw [e, hj] at k1; cases k1) (A k ok k1) hgj k2 hl k3 hej
  refine ⟨Rho.le_trans p.le q.le, ?_, ⟨q.rel.base, ?_, ?_⟩, by rw [e2]; exact p.n, by rw [e4]; exact p.hid, by rw [e3]; exact p.wm, keep, ?_, q.os.trans p.os, q.tape.trans p.tape, q.output.trans p.output, Nat.le_trans p.drw q.drw, Nat.le_trans p.size q.size, ?_, ?_⟩
  · intro i hi
    by_cases c : ρ' i = ρ i
    · rw [c] at hi; rw [e2]; exact p.dom i hi
    · have := q.dom i c; omega
  · intro i o hi hl
    rcases B i o hi with hb | ⟨hb, hg⟩
    · exact q.rel.obj i o hb hl
    · obtain ⟨e, he, ho⟩ := p.rel.obj i o hg hl
      refine ⟨e, q.le i e he, ho.of_block q.le (q.frame e.blk (OR.blk_lt ho hl) fun k ok ek k1 k2 k3 => ?_)⟩
      exact p.rel.dist k i ok o ek e (fun ee => by rw [ee, hb] at k1; cases k1) (A k ok k1) hg k2 hl k3 he
  · intro i j o o' e e' hij hi hj hw hl he he'
    rcases B i o hi with hb | ⟨hb, hg⟩
    · rcases B j o' hj with hb' | ⟨hb', hg'⟩
      · exact q.rel.dist i j o o' e e' hij hb hb' hw hl he he'
      · exact far hb hw hb' hg' hl he he'
    · obtain ⟨ei, f1, f2⟩ := ge hg (AO.live_of_wr hw)
      have := lec f1 he; subst this
      rcases B j o' hj with hb' | ⟨hb', hg'⟩
      · by_cases hw' : o'.wr = true
        · exact fun ee => far hb' hw' hb hg (AO.live_of_wr hw) he' he ee.symm
        · have hos : h1.os.get j = some o' := AH.os_of_get hb'
          have hH := kp.ro hwf j o' hos hl (by simpa using hw')
          have hHg : H.get j = some o' := by
            have := AH.hid_of_get hb'
            rw [kp.hid] at this
            unfold AH.get; rw [this, hH]; rfl
          obtain ⟨ej, k1, k2⟩ := ge (A j o' hHg) hl
          have := lec k1 he'; subst this
          exact p.rel.dist i j o o' _ _ hij hg (A j o' hHg) hw hl f1 k1
      · obtain ⟨ej, k1, k2⟩ := ge hg' hl
        have := lec k1 he'; subst this
        exact p.rel.dist i j o o' _ _ hij hg hg' hw hl f1 k1
  · intro i o hi hgi hw
    rcases B i o hgi with hb | ⟨hb, hg⟩
    · obtain ⟨oo, k1, k2⟩ := q.old i o (by omega) hb hw
      exact p.old i oo hi (A i oo k1) k2
    · exact p.old i o hi hg hw
  · intro b hb hno
    have hb1 : b < w.heap.size := Nat.lt_of_lt_of_le hb p.size
    rw [q.frame b hb1 ?_, p.frame b hb hno]
    intro i o e hi hw he
    have hgi := A i o hi
    by_cases c : i < h0.n
    · obtain ⟨oo, k1, k2⟩ := p.old i o c hgi hw
      exact hno i oo e k1 k2 (by rw [← d0 c]; exact he)
    · obtain ⟨ei, f1, f2⟩ := p.new i o (by omega) hgi hw
      rw [f1] at he; injection he with he; subst he
      rcases f2 with f2 | ⟨k, ok, ek, k1, k2, k3, k4⟩
      · omega
      · rw [← k4]; exact hno k ok ek k1 k2 k3
  · intro i o hi hgi hw
    have fromg : ∀ oo, g.get i = some oo → oo.wr = true → ∃ e, ρ' i = some e ∧ (w0.heap.size ≤ e.blk ∨ ∃ j o' e', h0.get j = some o' ∧ o'.wr = true ∧ ρ0 j = some e' ∧ e'.blk = e.blk) := fun oo k1 k2 => by
      obtain ⟨e, f1, f2⟩ := p.new i oo hi k1 k2
      exact ⟨e, q.le i e f1, f2⟩
    rcases B i o hgi with hb | ⟨hb, hg⟩
    · by_cases c : i < H.n
      · obtain ⟨oo, k1, k2⟩ := q.old i o c hb hw
        exact fromg oo (A i oo k1) k2
      · obtain ⟨e, f1, f2⟩ := q.new i o (by omega) hb hw
        refine ⟨e, f1, ?_⟩
        rcases f2 with f2 | ⟨k, ok, ek, k1, k2, k3, k4⟩
        · exact .inl (Nat.le_trans p.size f2)
        · have hgk := A k ok k1
          by_cases c : k < h0.n
          · obtain ⟨oo, m1, m2⟩ := p.old k ok c hgk k2
            exact .inr ⟨k, oo, ek, m1, m2, by rw [← d0 c]; exact k3, k4⟩
          · obtain ⟨e2, m1, m2⟩ := p.new k ok (by omega) hgk k2
            rw [k3] at m1; injection m1 with m1; subst m1
            rw [← k4]; exact m2
    · exact fromg o hg hw
end
end Go.AM
end
section
/- Regions whose order is open: what was held against the region when it was compiled. -/
namespace Go.AM
section
variable {ren : FuncId → Option Nat} {P : Program}

structure RegOk (ren : FuncId → Option Nat) (P : Program) (nt : Nat) (ops : Array Oper) (b : List Nat) (Rs : List Rec) : Prop where
  comp : ∀ r ∈ Rs, ∃ o, ops[r.i]? = some o ∧ compOper P ren ops o = some r.o ∧ ∀ d : Nat, o.dst = some d → d < nt
  edge : ∀ (k : Nat) (o : Oper), ops[k]? = some o → ∀ e ∈ o.after, Region.binds .any e = true → e.on < k ∧ Nat.testBit (b.getD k 0) e.on = true
  bits : ∀ (k j : Nat) (o : Oper), ops[k]? = some o → j < ops.size → Nat.testBit (b.getD k 0) j = true → ∃ e ∈ o.after, Region.binds .any e = true ∧ (e.on = j ∨ Nat.testBit (b.getD e.on 0) j = true)
  pre : ∀ r ∈ Rs, r.i < ops.size ∧ r.pre = b.getD r.i 0
  bar : ∀ r ∈ Rs, r.bar = true → ∀ q ∈ Rs, isPure q.o.op = true ∨ q.i = r.i ∨ tied b r.i q.i = true
  len : Rs.length = ops.size
  all : ∀ i, i < ops.size → ∃ r ∈ Rs, r.i = i
  ord : ∀ As r Bs, Rs = As ++ r :: Bs → (∀ q ∈ As, q.i ≠ r.i) ∧ ∀ j, j < ops.size → Nat.testBit (b.getD r.i 0) j = true → ∃ q ∈ As, q.i = j
  wr : ∀ As r Bs, Rs = As ++ r :: Bs → isPure r.o.op = true ∨ isNew r.o.op = true ∨ ∀ q ∈ Bs, isWrite q.o.op = false ∨ tied b r.i q.i = true
  clash : ∀ q ∈ Rs, ∀ r ∈ Rs, q.i ≠ r.i → tied b q.i r.i = false → ∀ d, q.o.dst = some d → d ∉ r.o.looks ∧ r.o.dst ≠ some d

theorem compOpers_get {ops : Array Oper} : ∀ {s : List Oper} {l : List AOper}, compOpers P ren ops s = some l → l.length = s.length ∧ ∀ (k : Nat) (x : AOper), l[k]? = some x → ∃ o, s[k]? = some o ∧ compOper P ren ops o = some x
  | [], l, h => by injection h with h; subst h; exact ⟨rfl, fun k x hx => by simp at hx⟩
  | o :: s, l, h => by
    obtain ⟨x, hx, h⟩ := bind_some h
    obtain ⟨r, hr, h⟩ := bind_some h
    injection h with h; subst h
    obtain ⟨e1, e2⟩ := compOpers_get hr
    refine ⟨by simp [e1], fun k y hy => ?_⟩
    cases k with
    | zero => simp at hy; subst hy; exact ⟨o, rfl, hx⟩
    | succ k => simp at hy; exact e2 k y hy

theorem tied_comm (b : List Nat) (i j : Nat) : tied b i j = tied b j i := by simp [tied, Bool.or_comm]

theorem zipD_key {b : List Nat} {l : List AOper} : ∀ {L : List Nat} {q : List (Nat × AOper × Nat × Bool)} {Rs : List Rec}, zipD b l L = some q → Rs.map Rec.key = q → Rs.map (·.i) = L ∧ ∀ r ∈ Rs, l[r.i]? = some r.o ∧ r.pre = b.getD r.i 0 ∧ r.bar = barrier b l r.i
  | [], q, Rs, h, e => by
    injection h with h; subst h
    cases Rs with
    | nil => exact ⟨rfl, fun r hr => by cases hr⟩
    | cons r Rs => cases e
  | i :: L, q, Rs, h, e => by
    simp only [zipD] at h
    split at h
    · rename_i o q' ho hq
      injection h with h; subst h
      cases Rs with
      | nil => cases e
      | cons r Rs =>
        rw [List.map_cons] at e
        injection e with e1 e2
        obtain ⟨k1, k2⟩ := zipD_key hq e2
        simp only [Rec.key, Prod.mk.injEq] at e1
        obtain ⟨a1, a2, a3, a4⟩ := e1
        refine ⟨by rw [List.map_cons, k1, a1], fun r' hr' => ?_⟩
        cases hr' with
        | head => rw [a1, a2, a3, a4]; exact ⟨ho, rfl, rfl⟩
        | tail _ hr' => exact k2 r' hr'
    · cases h

theorem orderGo {b : List Nat} {n : Nat} : ∀ {A : List Nat} {i : Nat} {B seen : List Nat}, orderOk.go b n seen (A ++ i :: B) = true → i < n ∧ i ∉ seen ∧ i ∉ A ∧ ∀ j, j < n → Nat.testBit (b.getD i 0) j = true → j ∈ seen ∨ j ∈ A
  | [], i, B, seen, h => by
    simp only [List.nil_append, orderOk.go, Bool.and_eq_true, Bool.not_eq_true', List.all_eq_true, List.mem_range, Bool.or_eq_true, List.contains_iff_mem] at h
    obtain ⟨⟨⟨h1, h2⟩, h3⟩, _⟩ := h
    refine ⟨Nat.blt_eq.mp h1, (fun e => by rw [List.contains_iff_mem.mpr e] at h2; cases h2), by simp, fun j hj hb => ?_⟩
    rcases h3 j hj with e | e
    · rw [hb] at e; cases e
    · exact .inl e
  | a :: A, i, B, seen, h => by
    simp only [List.cons_append, orderOk.go, Bool.and_eq_true] at h
    obtain ⟨_, h4⟩ := h
    obtain ⟨k1, k2, k3, k4⟩ := orderGo h4
    simp only [List.mem_cons, not_or] at k2
    refine ⟨k1, k2.2, by simp [k2.1, k3], fun j hj hb => ?_⟩
    rcases k4 j hj hb with e | e
    · cases e with
      | head => exact .inr (by simp)
      | tail _ e => exact .inl e
    · exact .inr (by simp [e])

theorem writesGo {b : List Nat} {l : List AOper} : ∀ {A : List Nat} {i : Nat} {B : List Nat}, writesOk b l (A ++ i :: B) = true → ∀ o, l[i]? = some o → isPure o.op = true ∨ isNew o.op = true ∨ ∀ j ∈ B, ∀ o', l[j]? = some o' → isWrite o'.op = false ∨ tied b i j = true
  | [], i, B, h, o, ho => by
    simp only [List.nil_append, writesOk, ho, Bool.and_eq_true, Bool.or_eq_true, List.all_eq_true] at h
    rcases h.1 with (h | h) | h
    · exact .inl h
    · exact .inr (.inl h)
    · refine .inr (.inr fun j hj o' ho' => ?_)
      have := h j hj
      simp only [ho', Bool.or_eq_true, Bool.not_eq_true'] at this
      exact this
  | a :: A, i, B, h, o, ho => by
    simp only [List.cons_append, writesOk, Bool.and_eq_true] at h
    exact writesGo h.2 o ho

theorem clash_get {b : List Nat} {l : List AOper} (h : clashesOk l b = true) {i j : Nat} {x y : AOper} (hx : l[i]? = some x) (hy : l[j]? = some y) (hne : i ≠ j) (ht : tied b i j = false) : ∀ d, x.dst = some d → d ∉ y.looks ∧ y.dst ≠ some d := by
  have key : ∀ {i j : Nat} {x y : AOper}, l[i]? = some x → l[j]? = some y → i < j → tied b i j = false → clash x y = false := fun {i j x y} hx hy hij ht => by
    simp only [clashesOk, List.all_eq_true, List.mem_range] at h
    have hj : j < l.length := by
      have := List.getElem?_eq_some_iff.mp hy; exact this.1
    have := h j hj i hij
    simp only [hx, hy, ht, Bool.or_false, Bool.not_eq_true'] at this
    exact this
  intro d hd
  by_cases c : i < j
  · have := key hx hy c ht
    simp only [clash, hd, Bool.or_eq_false_iff] at this
    obtain ⟨⟨k1, k2⟩, _⟩ := this
    refine ⟨(fun e => by rw [List.contains_iff_mem.mpr e] at k1; cases k1), fun e => ?_⟩
    rw [e] at k2
    simp at k2
  · have := key hy hx (by omega) (by rw [tied_comm]; exact ht)
    simp only [clash, hd, Bool.or_eq_false_iff] at this
    obtain ⟨k1, k2⟩ := this
    refine ⟨(fun e => by rw [List.contains_iff_mem.mpr e] at k2; cases k2), fun e => ?_⟩
    rw [e] at k1
    simp at k1

theorem map_split {R β : Type} {f : R → β} {Rs As Bs : List R} {r : R} (h : Rs = As ++ r :: Bs) : Rs.map f = As.map f ++ f r :: Bs.map f := by rw [h]; simp

theorem regOk {nt : Nat} {ops : Array Oper} {l : List AOper} {q : List (Nat × AOper × Nat × Bool)} {Rs : List Rec} (hl : compOpers P ren ops ops.toList = some l) (hd : dstOk nt ops = true) (he : edgesOk ops (befores ops) = true) (hc : clashesOk l (befores ops) = true)
    (hb : bitsOk ops (befores ops) = true) (ho : orderOk (befores ops) ops.size (orderOf (befores ops) l) = true) (hw : writesOk (befores ops) l (orderOf (befores ops) l) = true) (hz : zipD (befores ops) l (orderOf (befores ops) l) = some q) (hk : Rs.map Rec.key = q) :
    RegOk ren P nt ops (befores ops) Rs := by
  obtain ⟨z1, z2⟩ := zipD_key hz hk
  generalize orderOf (befores ops) l = L at *
  generalize befores ops = b at *
  obtain ⟨c1, c2⟩ := compOpers_get hl
  simp only [orderOk, Bool.and_eq_true, List.all_eq_true, List.mem_range, List.contains_iff_mem] at ho
  obtain ⟨⟨o0, o1⟩, o2⟩ := ho
  have lt : ∀ r ∈ Rs, r.i < ops.size := fun r hr => by
    have := (List.getElem?_eq_some_iff.mp (z2 r hr).1).1
    simpa [c1] using this
  constructor
  · intro r hr
    obtain ⟨o, e1, e2⟩ := c2 r.i r.o (z2 r hr).1
    refine ⟨o, by simpa using e1, e2, fun d hdd => ?_⟩
    have hm : o ∈ ops := by
      have := List.mem_of_getElem? e1
      simpa using this
    have := Array.all_eq_true'.mp hd o hm
    simp only [hdd] at this
    exact Nat.blt_eq.mp this
  · intro k o hok e hee hbi
    simp only [edgesOk, List.all_eq_true] at he
    have := he (o, k) (by
      rw [List.mem_zipIdx_iff_getElem?]; simpa using hok)
    have := Array.all_eq_true'.mp this e hee
    simp only [hbi, Bool.not_true, Bool.false_or, Bool.and_eq_true] at this
    exact ⟨Nat.blt_eq.mp this.1, this.2⟩
  · intro k j o hok hj hbit
    simp only [bitsOk, List.all_eq_true, List.mem_range] at hb
    have hk' : k < ops.size := (Array.getElem?_eq_some_iff.mp hok).1
    have := hb k hk' j hj
    simp only [hbit, Bool.not_true, Bool.false_or, hok] at this
    obtain ⟨e, e1, e2⟩ := Array.any_eq_true'.mp this
    simp only [Bool.and_eq_true, Bool.or_eq_true] at e2
    refine ⟨e, e1, e2.1, e2.2.imp (fun h => Nat.eq_of_beq_eq_true h) id⟩
  · exact fun r hr => ⟨lt r hr, (z2 r hr).2.1⟩
  · intro r hr hbar q' hq'
    rw [(z2 r hr).2.2] at hbar
    simp only [barrier, List.all_eq_true] at hbar
    have := hbar (q'.o, q'.i) (by rw [List.mem_zipIdx_iff_getElem?]; exact (z2 q' hq').1)
    simp only [Bool.or_eq_true] at this
    rcases this with (h | h) | h
    · exact .inl h
    · exact .inr (.inl (Nat.eq_of_beq_eq_true h))
    · exact .inr (.inr h)
  · have := congrArg List.length z1
    rw [List.length_map] at this
    rw [this, Nat.eq_of_beq_eq_true o0]
  · intro i hi
    have := o1 i hi
    rw [← z1] at this
    obtain ⟨r, e1, e2⟩ := List.mem_map.mp this
    exact ⟨r, e1, e2⟩
  · intro As r Bs hRs
    have hs := map_split (f := fun r : Rec => r.i) hRs
    rw [z1] at hs
    rw [hs] at o2
    obtain ⟨_, _, k3, k4⟩ := orderGo o2
    refine ⟨fun q' hq' e => k3 (List.mem_map.mpr ⟨q', hq', e⟩), fun j hj hbit => ?_⟩
    rcases k4 j hj hbit with e | e
    · cases e
    · obtain ⟨q', e1, e2⟩ := List.mem_map.mp e
      exact ⟨q', e1, e2⟩
  · intro As r Bs hRs
    have hs := map_split (f := fun r : Rec => r.i) hRs
    rw [z1] at hs
    rw [hs] at hw
    have hr : r ∈ Rs := by rw [hRs]; simp
    rcases writesGo hw r.o (z2 r hr).1 with h | h | h
    · exact .inl h
    · exact .inr (.inl h)
    · exact .inr (.inr fun q' hq' => h q'.i (List.mem_map.mpr ⟨q', hq', rfl⟩) q'.o (z2 q' (by rw [hRs]; simp [hq'])).1)
  · intro q' hq' r hr hne ht
    exact clash_get hc (z2 q' hq').1 (z2 r hr).1 hne ht
end
end Go.AM
end
section
/- Regions whose order is open: whatever the order, the outcome is that of the one run. -/
namespace Go.AM
section
variable {ren : FuncId → Option Nat} {P : Program} {c : CallF} {nt : Nat} {ops : Array Oper} {b : List Nat} {Rs : List Rec}

/-! What leaves an object as it was. -/
theorem quiet {q : Rec} (g : Good c q) (hl : q.lo = false) (hb : q.bar = false) : q.hout = q.hin := by
  cases hw : q.want with
  | false => exact (g.off hw).2
  | true =>
    have hp : isPure q.o.op = true := by
      simp only [Rec.lo, hw, hb, Bool.true_and, Bool.false_or, Bool.not_eq_false'] at hl; exact hl
    exact (pure_run hp (g.bars hw (by rw [hp]; simp))).1

theorem lo_inv {q : Rec} (hl : q.lo = true) : q.want = true ∧ q.bar = false ∧ isPure q.o.op = false := by
  simp only [Rec.lo, Bool.and_eq_true, Bool.not_eq_true', Bool.or_eq_false_iff] at hl
  exact ⟨hl.1, hl.2.1, hl.2.2⟩

def Rec.seen (q : Rec) : AH := q.hin.loose (bif isNew q.o.op then [(0, q.hin.n)] else q.hid)

theorem lo_run (hk : KpF c) {q : Rec} (g : Good c q) (hl : q.lo = true) : ∃ h1, runOp c q.tin q.seen q.o.op = some (q.v, h1) ∧ Kp q.seen h1 ∧ (isWrite q.o.op = true ∨ q.hin.n ≤ h1.wm) ∧ q.hout.os = h1.os ∧ q.hout.n = h1.n := by
  obtain ⟨h1, h2, h3⟩ := lo_inv hl
  obtain ⟨hh, k1, k2, k3⟩ := runLoose_eq (g.loose h1 (by rw [h2, h3]; rfl))
  exact ⟨hh, k1, runOp_kp hk k1, k2, by rw [k3], by rw [k3]⟩

theorem lo_old (hk : KpF c) {q : Rec} (g : Good c q) (hl : q.lo = true) (hw : isWrite q.o.op = false) {x : Nat} (hx : x < q.hin.n) : q.hout.os.get x = q.hin.os.get x := by
  obtain ⟨h1, k1, k2, k3, k4, _⟩ := lo_run hk g hl
  rw [hw] at k3
  have k3 := k3.resolve_left (by simp)
  rw [k4]; exact k2.keep x hx (by omega)
theorem lo_hidden (hk : KpF c) {q : Rec} (g : Good c q) (hl : q.lo = true) (hwf : q.hin.wf) {x : Nat} (hx : x < q.hin.n) (hh : zca q.hid x = true) : q.hout.os.get x = q.hin.os.get x := by
  obtain ⟨h1, k1, k2, k3, k4, _⟩ := lo_run hk g hl
  rw [k4]; refine k2.unseen hwf x hx ?_
  have : zca (bif isNew q.o.op then [(0, q.hin.n)] else q.hid) x = true := by
    cases isNew q.o.op with
    | false => exact hh
    | true => simp [zca, Nat.blt_eq.mpr hx]
  unfold Rec.seen
  rw [AH.loose_get, this]; rfl
theorem lo_far (hk : KpF c) {q : Rec} (g : Good c q) (hl : q.lo = true) (hwf : q.hin.wf) {x : Nat} (hx : ¬(q.hin.n ≤ x ∧ x < q.hout.n)) (hh : zca (targetC q.tin q.hin.n q.o.op) x = false) : q.hout.os.get x = q.hin.os.get x := by
  by_cases c1 : x < q.hin.n
  · cases hw : isWrite q.o.op with
    | false => exact lo_old hk g hl hw c1
    | true =>
      obtain ⟨h1, k1, k2, k3, k4, _⟩ := lo_run hk g hl
      rw [k4]
      have hop : ∃ d, aopD q.tin q.seen q.o.op = some (q.v, d) ∧ h1 = d.on q.seen := by
        generalize q.o.op = op at *
        have : aop q.tin q.seen op = some (q.v, h1) := by cases op <;> first | (cases hw; done) | exact k1
        unfold aop at this
        split at this
        · rename_i v d hd
          injection this with this; injection this with e1 e2
          subst e1; exact ⟨d, hd, e2.symm⟩
        · cases this
      obtain ⟨d, hd, rfl⟩ := hop
      have g1 : ∀ (A : AH) (o : AO) (y : Nat), (A.add o).os.get y = if y = A.n then some o else A.os.get y := fun A o y => by simp only [AH.add, Tr.get_set]
      have g2 : ∀ (A : AH) (k : Nat) (o : AO) (y : Nat), (A.put k o).os.get y = if y = k then some o else A.os.get y := fun A k o y => by simp only [AH.put, Tr.get_set]
      have hsn : q.seen.n = q.hin.n := rfl
      have hso : q.seen.os = q.hin.os := rfl
      rcases shape hd with rfl | ⟨o, rfl, ho⟩ | ⟨k, o, o0, hkk, _, ht, hg, _, _⟩
      · rfl
      · simp only [HD.on]; rw [g1, if_neg (by omega), hso]
      · have hkn : k < q.hin.n := AH.get_lt (h := q.seen) hwf hg
        have hxk : x ≠ k := by
          intro e
          simp only [targetC, ht, List.filter] at hh
          rw [show Nat.ble (k + 1) q.hin.n = true from Nat.ble_eq_true_of_le hkn] at hh
          simp [zca, e] at hh
          rw [Nat.blt_eq.mpr (Nat.lt_succ_self k)] at hh; cases hh
        rcases hkk with rfl | rfl
        · simp only [HD.on]; rw [g2, if_neg hxk, hso]
        · simp only [HD.on]; rw [g1, if_neg (by simp only [AH.put]; omega), g2, if_neg hxk, hso]
  · rw [hwf x (by omega)]
    exact g.kp.wf hwf x (by omega)

/-! The state when some have been run. -/
def upd (S : Nat → Bool) (i : Nat) : Nat → Bool := fun j => S j || Nat.beq j i
noncomputable def cont (Rs : List Rec) (h0 : AH) (S : Nat → Bool) (x : Nat) : Option AO := fld (uh x) (fun r => S r.i) Rs (h0.os.get x)
noncomputable def hS (Rs : List Rec) (h0 hN : AH) (S : Nat → Bool) : AH := { os := mkTr (cont Rs h0 S) hN.n, n := hN.n, wm := hN.wm, hid := h0.hid }
def tS (S : Nat → Bool) : List Rec → Tmps → Tmps
  | [], t => t
  | r :: rs, t => tS S rs (bif S r.i then putD t r.o.dst r.v else t)
theorem tS_get (S : Nat → Bool) (s : Sl) : ∀ (l : List Rec) (t : Tmps), tget (tS S l t) s = fld (ut s) (fun r => S r.i) l (tget t s)
  | [], t => rfl
  | r :: l, t => by
    simp only [tS, fld]
    rw [tS_get S s l]
    congr 1
    cases S r.i with
    | false => rfl
    | true => simp only [cond_true, tget_putD, ut]; split <;> rfl

structure Run (ren : FuncId → Option Nat) (P : Program) (c : CallF) (nt : Nat) (ops : Array Oper) (b : List Nat) (Rs : List Rec) (t0 : Tmps) (h0 : AH) (tN : Tmps) (hN : AH) : Prop where
  ok : CallOk ren P c
  k : KpF c
  le : nt ≤ 512
  R : RegOk ren P nt ops b Rs
  G : ∀ r ∈ Rs, Good c r
  W : Rs.Pairwise Pw
  C : Chained Rs t0 h0 tN hN
  wf : h0.wf

def Down (ops : Array Oper) (b : List Nat) (S : Nat → Bool) : Prop := ∀ i, i < ops.size → S i = true → ∀ j, j < ops.size → Nat.testBit (b.getD i 0) j = true → S j = true
def Ready (ops : Array Oper) (b : List Nat) (S : Nat → Bool) (r : Rec) : Prop := S r.i = false ∧ ∀ j, j < ops.size → Nat.testBit (b.getD r.i 0) j = true → S j = true

variable {t0 tN : Tmps} {h0 hN : AH} {S : Nat → Bool}

theorem tied_false {i j : Nat} (h1 : Nat.testBit (b.getD i 0) j ≠ true) (h2 : Nat.testBit (b.getD j 0) i ≠ true) : tied b i j = false := by
  simp only [tied, Bool.or_eq_false_iff]
  exact ⟨by simpa using h1, by simpa using h2⟩

theorem Run.ahead (X : Run ren P c nt ops b Rs t0 h0 tN hN) (hS : Down ops b S) {r : Rec} (hr : Ready ops b S r) {As Bs : List Rec} (e : Rs = As ++ r :: Bs) {q : Rec} (hq : q ∈ As) (hs : S q.i = false) : q.i ≠ r.i ∧ tied b r.i q.i = false := by
  have o1 := X.R.ord As r Bs e
  refine ⟨o1.1 q hq, tied_false (fun h => ?_) (fun h => ?_)⟩
  · have := hr.2 q.i (X.R.pre q (by rw [e]; simp [hq])).1 h
    rw [hs] at this; cases this
  · obtain ⟨A1, A2, e2⟩ := List.append_of_mem hq
    have o2 := X.R.ord A1 q (A2 ++ r :: Bs) (by rw [e, e2]; simp)
    obtain ⟨q', k1, k2⟩ := o2.2 r.i (X.R.pre r (by rw [e]; simp)).1 h
    exact o1.1 q' (by rw [e2]; simp [k1]) k2
theorem Run.behind (X : Run ren P c nt ops b Rs t0 h0 tN hN) (hS : Down ops b S) {r : Rec} (hr : Ready ops b S r) {As Bs : List Rec} (e : Rs = As ++ r :: Bs) {q : Rec} (hq : q ∈ Bs) (hs : S q.i = true) : q.i ≠ r.i ∧ tied b r.i q.i = false := by
  have o1 := X.R.ord As r Bs e
  have hne : q.i ≠ r.i := fun h => by rw [h, hr.1] at hs; cases hs
  refine ⟨hne, tied_false (fun h => ?_) (fun h => ?_)⟩
  · obtain ⟨q', k1, k2⟩ := o1.2 q.i (X.R.pre q (by rw [e]; simp [hq])).1 h
    obtain ⟨B1, B2, e2⟩ := List.append_of_mem hq
    have o2 := X.R.ord (As ++ r :: B1) q B2 (by rw [e, e2]; simp)
    exact o2.1 q' (by simp [k1]) k2
  · have := hS q.i (X.R.pre q (by rw [e]; simp [hq])).1 hs r.i (X.R.pre r (by rw [e]; simp)).1 h
    rw [hr.1] at this; cases this

structure Split (Rs As Bs : List Rec) (r : Rec) (t0 : Tmps) (h0 : AH) (tN : Tmps) (hN : AH) : Prop where
  e : Rs = As ++ r :: Bs
  ca : Chained As t0 h0 r.tin r.hin
  cb : Chained Bs (putD r.tin r.o.dst r.v) r.hout tN hN
  k0 : Kp h0 r.hin
  k1 : Kp r.hout hN
  ka : ∀ q ∈ As, Kp h0 q.hin ∧ Kp q.hout r.hin
  kb : ∀ q ∈ Bs, Kp r.hout q.hin ∧ Kp q.hout hN

theorem Run.split (X : Run ren P c nt ops b Rs t0 h0 tN hN) {r : Rec} (hr : r ∈ Rs) : ∃ As Bs, Split Rs As Bs r t0 h0 tN hN := by
  obtain ⟨As, Bs, e⟩ := List.append_of_mem hr
  have hC := X.C
  rw [e] at hC
  obtain ⟨tm, hm, c1, c2, c3, c4⟩ := chained_append hC
  subst c2; subst c3
  obtain ⟨k1, k2⟩ := chained_kp c1 (fun q hq => (X.G q (by rw [e]; simp [hq])).kp)
  obtain ⟨k3, k4⟩ := chained_kp c4 (fun q hq => (X.G q (by rw [e]; simp [hq])).kp)
  exact ⟨As, Bs, e, c1, c4, k1, k3, k2, k4⟩

theorem pw_split {As Bs : List Rec} {r : Rec} (h : (As ++ r :: Bs).Pairwise Pw) : (∀ q ∈ As, Pw q r) ∧ ∀ q ∈ Bs, Pw r q := by
  rw [List.pairwise_append] at h
  obtain ⟨_, h2, h3⟩ := h
  exact ⟨fun q hq => h3 q hq r (by simp), fun q hq => (List.pairwise_cons.mp h2).1 q hq⟩

/-- Not tied to one that is ready and no mere reckoning: it left memory alone, or both are loose. -/
theorem Run.kind (X : Run ren P c nt ops b Rs t0 h0 tN hN) {r q : Rec} (hr : r ∈ Rs) (hq : q ∈ Rs) (hp : isPure r.o.op = false) (hne : q.i ≠ r.i) (ht : tied b r.i q.i = false) : q.hout = q.hin ∨ (q.lo = true ∧ r.bar = false) := by
  cases hl : q.lo with
  | false =>
    cases hb : q.bar with
    | false => exact .inl (quiet (X.G q hq) hl hb)
    | true =>
      rcases X.R.bar q hq hb r hr with h | h | h
      · rw [hp] at h; cases h
      · exact absurd h.symm hne
      · rw [tied_comm, ht] at h; cases h
  | true =>
    refine .inr ⟨rfl, ?_⟩
    cases hb : r.bar with
    | false => rfl
    | true =>
      obtain ⟨_, _, h3⟩ := lo_inv hl
      rcases X.R.bar r hr hb q hq with h | h | h
      · rw [h3] at h; cases h
      · exact absurd h hne
      · rw [ht] at h; cases h

/-- What an operation that is ready sees is what stands there. -/
theorem Run.sees (X : Run ren P c nt ops b Rs t0 h0 tN hN) (hS : Down ops b S) {r : Rec} (hrS : Ready ops b S r) {As Bs : List Rec} (s : Split Rs As Bs r t0 h0 tN hN) (hp : isPure r.o.op = false) {x : Nat} (hx : x < r.hin.n)
    (hv : r.bar = false → isNew r.o.op = false ∧ zca r.hid x = false) : fld (uh x) (fun r => S r.i) As (h0.os.get x) = r.hin.os.get x ∧ ∀ q ∈ Bs, S q.i = true → uh x q = none := by
  have hr : r ∈ Rs := by rw [s.e]; simp
  obtain ⟨pw1, pw2⟩ := pw_split (s.e ▸ X.W)
  constructor
  · rw [← chained_os x s.ca]
    refine fld_congr _ _ fun q hq hne => ?_
    have hqS : S q.i = false := by cases h : S q.i with | false => rfl | true => exact absurd h hne
    have hqm : q ∈ Rs := by rw [s.e]; simp [hq]
    obtain ⟨n1, n2⟩ := X.ahead hS hrS s.e hq hqS
    refine uh_none ?_
    rcases X.kind hr hqm hp n1 n2 with h | ⟨h1, h2⟩
    · rw [h]
    · have hbit : Nat.testBit r.pre q.i = false := by
        rw [(X.R.pre r hr).2]
        simp only [tied, Bool.or_eq_false_iff] at n2; exact n2.1
      obtain ⟨f1, f2⟩ := pw1 q hq h1 hbit x (hv h2).2
      exact lo_far X.k (X.G q hqm) h1 ((s.ka q hq).1.wf X.wf) f1 f2
  · intro q hq hqS
    have hqm : q ∈ Rs := by rw [s.e]; simp [hq]
    obtain ⟨n1, n2⟩ := X.behind hS hrS s.e hq hqS
    refine uh_none ?_
    rcases X.kind hr hqm hp n1 n2 with h | ⟨h1, h2⟩
    · rw [h]
    · have hlt : x < q.hin.n := by have := (X.G r hr).kp.n; have := (s.kb q hq).1.n; omega
      rcases X.R.wr As r Bs s.e with h | h | h
      · rw [hp] at h; cases h
      · rw [(hv h2).1] at h; cases h
      · rcases h q hq with h | h
        · exact lo_old X.k (X.G q hqm) h1 h hlt
        · rw [n2] at h; cases h

theorem Run.news (X : Run ren P c nt ops b Rs t0 h0 tN hN) (hS : Down ops b S) {r : Rec} (hrS : Ready ops b S r) {As Bs : List Rec} (s : Split Rs As Bs r t0 h0 tN hN) (hp : isPure r.o.op = false) (hw : r.want = true) {x : Nat} (hx : r.hin.n ≤ x) (hx' : x < r.hout.n) :
    fld (uh x) (fun r => S r.i) As (h0.os.get x) = r.hin.os.get x ∧ ∀ q ∈ Bs, S q.i = true → uh x q = none := by
  have hr : r ∈ Rs := by rw [s.e]; simp
  obtain ⟨pw1, pw2⟩ := pw_split (s.e ▸ X.W)
  constructor
  · rw [← chained_os x s.ca]
    refine fld_congr _ _ fun q hq _ => uh_none ?_
    have w1 := (s.ka q hq).1.wf X.wf
    have w2 := (X.G q (by rw [s.e]; simp [hq])).kp.wf w1
    have n1 := (s.ka q hq).2.n
    have n2 := (X.G q (by rw [s.e]; simp [hq])).kp.n
    rw [w1 x (by omega), w2 x (by omega)]
  · intro q hq hqS
    have hqm : q ∈ Rs := by rw [s.e]; simp [hq]
    obtain ⟨n1, n2⟩ := X.behind hS hrS s.e hq hqS
    refine uh_none ?_
    rcases X.kind hr hqm hp n1 n2 with h | ⟨h1, h2⟩
    · rw [h]
    · have hlt : x < q.hin.n := by have := (s.kb q hq).1.n; omega
      have hrl : r.lo = true := by simp [Rec.lo, hw, h2, hp]
      have hbit : Nat.testBit q.pre r.i = false := by
        rw [(X.R.pre q hqm).2]
        simp only [tied, Bool.or_eq_false_iff] at n2; exact n2.2
      have wq : q.hin.wf := (s.kb q hq).1.wf ((X.G r hr).kp.wf (s.k0.wf X.wf))
      cases hh : zca q.hid x with
      | true => exact lo_hidden X.k (X.G q hqm) h1 wq hlt hh
      | false => exact absurd ⟨hx, hx'⟩ (pw2 q hq hrl hbit x hh).1
end
end Go.AM
end
section
/- Regions whose order is open: one operation more; the whole region. -/
namespace Go.AM
section
variable {ren : FuncId → Option Nat} {P : Program} {c : CallF} {nt : Nat} {ops : Array Oper} {b : List Nat} {Rs : List Rec} {t0 tN : Tmps} {h0 hN : AH} {S : Nat → Bool}

theorem upd_self (S : Nat → Bool) (i : Nat) : upd S i i = true := by simp [upd]
theorem upd_ne {S : Nat → Bool} {i j : Nat} (h : j ≠ i) : upd S i j = S j := by
  simp only [upd]
  have : Nat.beq j i = false := by
    cases e : Nat.beq j i with
    | false => rfl
    | true => exact absurd (Nat.eq_of_beq_eq_true e) h
  rw [this]; simp

theorem Run.others (X : Run ren P c nt ops b Rs t0 h0 tN hN) {As Bs : List Rec} {r : Rec} (e : Rs = As ++ r :: Bs) : (∀ q ∈ As, q.i ≠ r.i) ∧ ∀ q ∈ Bs, q.i ≠ r.i := by
  refine ⟨(X.R.ord As r Bs e).1, fun q hq h => ?_⟩
  obtain ⟨B1, B2, e2⟩ := List.append_of_mem hq
  exact (X.R.ord (As ++ r :: B1) q B2 (by rw [e, e2]; simp)).1 r (by simp) h.symm

theorem Run.fold (X : Run ren P c nt ops b Rs t0 h0 tN hN) {As Bs : List Rec} {r : Rec} (e : Rs = As ++ r :: Bs) (hs : S r.i = false) {α : Type} (u : Rec → Option α) (d : α) :
    fld u (fun r => S r.i) Rs d = fld u (fun r => S r.i) Bs (fld u (fun r => S r.i) As d) ∧ fld u (fun q => upd S r.i q.i) Rs d = fld u (fun r => S r.i) Bs ((u r).getD (fld u (fun r => S r.i) As d)) := by
  obtain ⟨o1, o2⟩ := X.others e
  constructor
  · rw [e, fld_append]; simp only [fld, hs, cond_false]
  · rw [e, fld_append]; simp only [fld, upd_self, cond_true]
    rw [fld_congr (S := fun q => upd S r.i q.i) (S' := fun q => S q.i) As d (fun q hq h => absurd (upd_ne (o1 q hq)) h), fld_congr (S := fun q => upd S r.i q.i) (S' := fun q => S q.i) Bs _ (fun q hq h => absurd (upd_ne (o2 q hq)) h)]

theorem Run.looks (X : Run ren P c nt ops b Rs t0 h0 tN hN) (hS : Down ops b S) {r : Rec} (hrS : Ready ops b S r) {As Bs : List Rec} (s : Split Rs As Bs r t0 h0 tN hN) (sl : Sl) (hsl : sl ∈ r.o.looks) : tget (tS S Rs t0) sl = tget r.tin sl := by
  have hr : r ∈ Rs := by rw [s.e]; simp
  rw [tS_get, (X.fold s.e hrS.1 (ut sl) _).1, fld_none, ← chained_t sl s.ca]
  · refine fld_congr _ _ fun q hq hne => ut_none fun h => ?_
    have hqS : S q.i = false := by cases h : S q.i with | false => rfl | true => exact absurd h hne
    obtain ⟨n1, n2⟩ := X.ahead hS hrS s.e hq hqS
    exact (X.R.clash q (by rw [s.e]; simp [hq]) r hr n1 (by rw [tied_comm]; exact n2) sl h).1 hsl
  · intro q hq hqS
    refine ut_none fun h => ?_
    obtain ⟨n1, n2⟩ := X.behind hS hrS s.e hq hqS
    exact (X.R.clash q (by rw [s.e]; simp [hq]) r hr n1 (by rw [tied_comm]; exact n2) sl h).1 hsl

theorem Run.puts (X : Run ren P c nt ops b Rs t0 h0 tN hN) (hS : Down ops b S) {r : Rec} (hrS : Ready ops b S r) {As Bs : List Rec} (s : Split Rs As Bs r t0 h0 tN hN) (sl : Sl) : tget (tS (upd S r.i) Rs t0) sl = tget (putD (tS S Rs t0) r.o.dst r.v) sl := by
  have hr : r ∈ Rs := by rw [s.e]; simp
  rw [tget_putD, tS_get, tS_get, (X.fold s.e hrS.1 (ut sl) _).2]
  by_cases h : r.o.dst = some sl
  · rw [if_pos h]
    have : ut sl r = some r.v := by simp [ut, h]
    rw [this, Option.getD_some]
    refine fld_none _ _ fun q hq hqS => ut_none fun h' => ?_
    obtain ⟨n1, n2⟩ := X.behind hS hrS s.e hq hqS
    exact (X.R.clash r hr q (by rw [s.e]; simp [hq]) (Ne.symm n1) n2 sl h).2 h'
  · rw [if_neg h, ut_none h, Option.getD_none, (X.fold s.e hrS.1 (ut sl) _).1]

theorem hS_os (Rs : List Rec) (h0 hN : AH) (S : Nat → Bool) (x : Nat) : (hS Rs h0 hN S).os.get x = if x < hN.n then cont Rs h0 S x else none := mkTr_get _ _ _

theorem TR.same {ρ : Rho} {t t' : Tmps} {a : Act} (h : TR ren ρ nt t a) (e : ∀ s, tget t' s = tget t s) : TR ren ρ nt t' a := ⟨h.sz, fun n hn => by rw [e]; exact h.val n hn⟩

structure Inv (ren : FuncId → Option Nat) (nt : Nat) (ops : Array Oper) (b : List Nat) (Rs : List Rec) (t0 : Tmps) (h0 hN : AH) (ρ0 : Rho) (B0 : Nat) (w0 : World) (D : List Deferred) (S : Nat → Bool) (a : Act) (w : World) : Prop where
  down : Down ops b S
  df : a.defers = D
  ex : ∃ ρ, Post ren ρ0 B0 h0 w0 ρ (hS Rs h0 hN S) w ∧ (∀ r ∈ Rs, S r.i = false → ∀ x, r.hin.n ≤ x → x < r.hout.n → ρ x = none) ∧ TR ren ρ nt (tS S Rs t0) a

variable {ρ0 : Rho} {B0 : Nat} {w0 : World} {D : List Deferred} {a : Act} {w : World} {Q : Exit → Act → World → Prop}

theorem Run.ranges (X : Run ren P c nt ops b Rs t0 h0 tN hN) {r : Rec} {As Bs : List Rec} (s : Split Rs As Bs r t0 h0 tN hN) {q : Rec} (hq : q ∈ Rs) (hne : q.i ≠ r.i) {x : Nat} (h1 : q.hin.n ≤ x) (h2 : x < q.hout.n) : ¬(r.hin.n ≤ x ∧ x < r.hout.n) := by
  rw [s.e] at hq
  rcases List.mem_append.mp hq with hq | hq
  · have := (s.ka q hq).2.n; omega
  · cases hq with
    | head => exact absurd rfl hne
    | tail _ hq => have := (s.kb q hq).1.n; omega

theorem Run.cont_upd (X : Run ren P c nt ops b Rs t0 h0 tN hN) {r : Rec} (hs : S r.i = false) {As Bs : List Rec} (s : Split Rs As Bs r t0 h0 tN hN) {x : Nat} (h : uh x r = none) : cont Rs h0 (upd S r.i) x = cont Rs h0 S x := by
  unfold cont
  rw [(X.fold s.e hs (uh x) _).1, (X.fold s.e hs (uh x) _).2, h, Option.getD_none]

theorem Run.step (X : Run ren P c nt ops b Rs t0 h0 tN hN) {r : Rec} (hr : r ∈ Rs) (hI : Inv ren nt ops b Rs t0 h0 hN ρ0 B0 w0 D S a w) (hrS : Ready ops b S r) :
    wpOp P ops Q r.i (fun a' w' => Inv ren nt ops b Rs t0 h0 hN ρ0 B0 w0 D (upd S r.i) a' w') a w := by
  obtain ⟨down, df, ρ, p, free, tr⟩ := hI
  obtain ⟨As, Bs, s⟩ := X.split hr
  obtain ⟨o, e1, e2, e3⟩ := X.R.comp r hr
  obtain ⟨c1, c2, c3⟩ := compOper_inv e2
  have g := X.G r hr
  have down' : Down ops b (upd S r.i) := fun i hi h j hj hb => by
    simp only [upd, Bool.or_eq_true] at h ⊢
    rcases h with h | h
    · exact .inl (down i hi h j hj hb)
    · rw [Nat.eq_of_beq_eq_true h] at hb; exact .inl (hrS.2 j hj hb)
  have lk := fun sl hsl => X.looks down hrS s sl hsl
  have lkop : ∀ sl ∈ r.o.op.looks, tget (tS S Rs t0) sl = tget r.tin sl := fun sl h => lk sl (by simp [AOper.looks, h])
  have hwant : wantedA (tS S Rs t0) r.o.guard = r.want := by
    rw [g.hw]
    cases hg : r.o.guard with
    | none => rfl
    | some q =>
      obtain ⟨sl, wn⟩ := q
      simp only [wantedA]
      rw [lk sl (by simp [AOper.looks, hg])]
  have hwm := wanted_ok tr c2
  rw [hwant] at hwm
  have free' : ∀ q ∈ Rs, upd S r.i q.i = false → S q.i = false ∧ q.i ≠ r.i := fun q _ h => by
    simp only [upd, Bool.or_eq_false_iff] at h
    exact ⟨h.1, fun e => by rw [e] at h; simp at h⟩
  unfold wpOp
  simp only [e1, hwm]
  cases hw : r.want with
  | false =>
    simp only [Bool.false_eq_true, if_false]
    obtain ⟨k1, k2⟩ := g.off hw
    refine ⟨down', (put_defers _ _ _).trans df, ρ, p.congr (fun x => ?_) rfl rfl rfl, fun q hq h => free q hq (free' q hq h).1, ?_⟩
    · rw [hS_os, hS_os, X.cont_upd hrS.1 s (uh_none (by rw [k2]))]
    · have := tr.put e3 X.le (v := und) (v' := undef) (VR.tup rfl (by intro j x y hx; simp at hx))
      refine this.same fun sl => ?_
      rw [X.puts down hrS s, k1, c3]
  | true =>
    simp only [if_true]
    left
    have fin : ∀ {ρ' : Rho} {v' : Value} {w' : World}, VR ren ρ' r.v v' → ρ.le ρ' → (∀ i, ρ' i ≠ ρ i → r.hin.n ≤ i ∧ i < r.hout.n) → Post ren ρ0 B0 h0 w0 ρ' (hS Rs h0 hN (upd S r.i)) w' →
        Inv ren nt ops b Rs t0 h0 hN ρ0 B0 w0 D (upd S r.i) (a.put o.dst v') w' := fun {ρ' v' w'} hv hle hdom hp => by
      refine ⟨down', (put_defers _ _ _).trans df, ρ', hp, fun q hq h x h1 h2 => ?_, ?_⟩
      · obtain ⟨f1, f2⟩ := free' q hq h
        by_cases cc : ρ' x = ρ x
        · rw [cc]; exact free q hq f1 x h1 h2
        · exact absurd (hdom x cc) (X.ranges s hq f2 h1 h2)
      · refine ((tr.mono hle).put e3 X.le hv).same fun sl => ?_
        rw [X.puts down hrS s, c3]
    cases hp : isPure r.o.op with
    | true =>
      have hrun := g.bars hw (by rw [hp]; simp)
      rw [← runOp_congr lkop] at hrun
      obtain ⟨k1, k2⟩ := pure_run hp hrun
      refine opwp_ok X.ok c1 (k2 (hS Rs h0 hN S)) (fun x hx => by have hx : hN.n ≤ x := hx; rw [hS_os, if_neg (by omega)]) p.rel tr (fun i h1 h2 => by omega) fun v' w' ρ' g1 g2 => fin g1 g2.le (fun i hi => by have := g2.dom i hi; omega) ?_
      refine (p.trans g2).congr (fun x => ?_) rfl rfl rfl
      rw [hS_os, hS_os, X.cont_upd hrS.1 s (uh_none (by rw [k1]))]
    | false =>
      -- what it sees, and what it leaves
      have wfr : r.hin.wf := s.k0.wf X.wf
      obtain ⟨H, h1, hrun, hHos, hHn, hHh, ho1, hn1, hvis⟩ : ∃ H h1, runOp c r.tin H r.o.op = some (r.v, h1) ∧ H.os = r.hin.os ∧ H.n = r.hin.n ∧ (∀ x, r.hin.n ≤ x → zca H.hid x = zca r.hin.hid x) ∧ r.hout.os = h1.os ∧ r.hout.n = h1.n ∧
          (∀ x, x < r.hin.n → zca H.hid x = false → zca r.hin.hid x = false ∧ (r.bar = false → isNew r.o.op = false ∧ zca r.hid x = false)) := by
        cases hb : r.bar with
        | true => exact ⟨r.hin, r.hout, g.bars hw (by rw [hb]; rfl), rfl, rfl, fun _ _ => rfl, rfl, rfl, fun x _ h => ⟨h, fun e => by cases e⟩⟩
        | false =>
          have hl : r.lo = true := by simp [Rec.lo, hw, hb, hp]
          obtain ⟨h1, k1, k2, k3, k4, k5⟩ := lo_run X.k g hl
          refine ⟨r.seen, h1, k1, rfl, rfl, fun x hx => ?_, k4, k5, fun x hx h => ?_⟩
          · simp only [Rec.seen, AH.loose, hiddenIn_append]
            cases hnw : isNew r.o.op with
            | false => rw [cond_false, g.bnd x hx]; rfl
            | true => rw [cond_true, hidden_of (fun q hq => by cases hq with | head => exact hx | tail _ hq => cases hq)]; rfl
          · simp only [Rec.seen, AH.loose, hiddenIn_append, Bool.or_eq_false_iff] at h
            refine ⟨h.2, fun _ => ?_⟩
            cases hnw : isNew r.o.op with
            | false => rw [hnw] at h; exact ⟨rfl, h.1⟩
            | true =>
              rw [hnw, cond_true] at h
              simp [zca, Nat.blt_eq.mpr hx] at h
              rw [Nat.ble_eq_true_of_le (Nat.zero_le x)] at h; cases h.1
      have kpH := runOp_kp X.k hrun
      have wfH : H.wf := fun x hx => by rw [hHos]; exact wfr x (by omega)
      have hhid : r.hin.hid = h0.hid := s.k0.hid
      have nN := s.k1.n
      have nr := g.kp.n
      have A : ∀ x oo, H.get x = some oo → (hS Rs h0 hN S).get x = some oo := fun x oo hx => by
        have hlt : x < r.hin.n := by have := AH.get_lt wfH hx; omega
        obtain ⟨v1, v2⟩ := hvis x hlt (AH.hid_of_get hx)
        obtain ⟨f1, f2⟩ := X.sees down hrS s hp hlt v2
        have hc : cont Rs h0 S x = r.hin.os.get x := by
          unfold cont; rw [(X.fold s.e hrS.1 (uh x) _).1, fld_none _ _ f2, f1]
        have hos := AH.os_of_get hx
        rw [hHos] at hos
        unfold AH.get
        rw [hS_os, if_pos (by omega), hc, hos]
        have : zca (hS Rs h0 hN S).hid x = false := by rw [hhid] at v1; exact v1
        rw [this]; rfl
      have B : ∀ x oo, (hS Rs h0 hN (upd S r.i)).get x = some oo → h1.get x = some oo ∨ (H.get x = none ∧ (hS Rs h0 hN S).get x = some oo) := fun x oo hx => by
        have hos := AH.os_of_get hx
        have hh0 : zca h0.hid x = false := AH.hid_of_get (h := hS Rs h0 hN (upd S r.i)) hx
        rw [hS_os] at hos
        have fromC : zca H.hid x = false → fld (uh x) (fun r => S r.i) As (h0.os.get x) = r.hin.os.get x → (∀ q ∈ Bs, S q.i = true → uh x q = none) → h1.get x = some oo := fun hv f1 f2 => by
          split at hos
          · unfold cont at hos
            rw [(X.fold s.e hrS.1 (uh x) _).2, fld_none _ _ f2, f1] at hos
            have : (uh x r).getD (r.hin.os.get x) = r.hout.os.get x := by
              unfold uh
              split
              · rename_i e; rw [e]; rfl
              · rfl
            rw [this, ho1] at hos
            unfold AH.get; rw [kpH.hid, hv, hos]; rfl
          · cases hos
        by_cases cn : r.hin.n ≤ x ∧ x < r.hout.n
        · obtain ⟨f1, f2⟩ := X.news down hrS s hp hw cn.1 cn.2
          exact .inl (fromC (by rw [hHh x cn.1, hhid]; exact hh0) f1 f2)
        · by_cases cv : x < r.hin.n ∧ zca H.hid x = false
          · obtain ⟨v1, v2⟩ := hvis x cv.1 cv.2
            obtain ⟨f1, f2⟩ := X.sees down hrS s hp cv.1 v2
            exact .inl (fromC cv.2 f1 f2)
          · have hHnone : H.get x = none := by
              by_cases c1 : x < r.hin.n
              · have : zca H.hid x = true := by
                  cases e : zca H.hid x with
                  | true => rfl
                  | false => exact absurd ⟨c1, e⟩ cv
                unfold AH.get; rw [this]; rfl
              · exact AH.get_none wfH (by omega)
            refine .inr ⟨hHnone, ?_⟩
            have hu : uh x r = none := by
              refine uh_none ?_
              rw [ho1, ← hHos]
              by_cases c1 : x < r.hin.n
              · exact kpH.unseen wfH x (by omega) hHnone
              · rw [wfH x (by omega), kpH.wf wfH x (by omega)]
            rw [X.cont_upd hrS.1 s hu, ← hS_os] at hos
            unfold AH.get; rw [hos]
            have : zca (hS Rs h0 hN S).hid x = false := hh0
            rw [this]; rfl
      rw [← runOp_congr lkop] at hrun
      refine opwp_ok X.ok c1 hrun wfH (p.rel.sub A) tr (fun i i1 i2 => free r hr hrS.1 i (by omega) (by omega)) fun v' w' ρ' g1 g2 => fin g1 g2.le (fun i hi => by have := g2.dom i hi; omega) ?_
      refine p.over g2 kpH wfH A B (by have := s.k0.n; omega) (by show h1.n ≤ hN.n; omega) rfl rfl rfl fun x hx hxw => ?_
      rw [hS_os, if_pos (by have := s.k0.n; omega)]
      unfold cont
      refine fld_none _ _ fun q hq _ => uh_none ?_
      obtain ⟨Aq, Bq, sq⟩ := X.split hq
      have hxw : x < hN.wm := hxw
      exact (X.G q hq).kp.keep x (by have := sq.k0.n; omega) (by have := sq.k1.wm; omega)

/-! The whole region. -/
theorem Run.anyOrder (X : Run ren P c nt ops b Rs t0 h0 tN hN) (hb : ∀ (k j : Nat) (o : Oper), ops[k]? = some o → j < ops.size → Nat.testBit (b.getD k 0) j = true → ∃ e ∈ o.after, Region.binds .any e = true ∧ (e.on = j ∨ Nat.testBit (b.getD e.on 0) j = true))
    (K : ∀ ρ a w, a.defers = D → Post ren ρ0 B0 h0 w0 ρ hN w → TR ren ρ nt tN a → Q .normal a w) :
    ∀ (fuel : Nat) (listed : Array Bool) (a : Act) (w : World), listed.size = ops.size → (Rs.filter fun r => !listed.getD r.i false).length ≤ fuel → Inv ren nt ops b Rs t0 h0 hN ρ0 B0 w0 D (fun i => listed.getD i false) a w → wpAny P .any ops Q fuel listed a w := by
  -- when nothing is ready all is done
  have done : ∀ (listed : Array Bool) (a : Act) (w : World), listed.size = ops.size → Inv ren nt ops b Rs t0 h0 hN ρ0 B0 w0 D (fun i => listed.getD i false) a w → (∀ r ∈ Rs, listed.getD r.i false = true) → Q .normal a w := fun listed a w hsz hI hall => by
    obtain ⟨down, df, ρ, p, free, tr⟩ := hI
    refine K ρ a w df (p.congr (fun x => ?_) rfl rfl ?_) (tr.same fun s => ?_)
    · rw [hS_os]
      have e : cont Rs h0 (fun i => listed.getD i false) x = hN.os.get x := by
        unfold cont
        rw [← chained_os x X.C]
        exact fld_congr _ _ fun r hr hne => absurd (hall r hr) hne
      rw [e]
      split
      · rfl
      · rename_i hx
        exact (chained_kp X.C (fun q hq => (X.G q hq).kp)).1.wf X.wf x (by omega)
    · exact (chained_kp X.C (fun q hq => (X.G q hq).kp)).1.hid
    · rw [tS_get, ← chained_t s X.C]
      exact fld_congr _ _ fun r hr hne => absurd (hall r hr).symm hne
  -- what is ready
  have readyOf : ∀ (listed : Array Bool) (i : Nat), listed.size = ops.size → Down ops b (fun i => listed.getD i false) → i ∈ Region.ready .any ops listed → ∃ r ∈ Rs, r.i = i ∧ Ready ops b (fun i => listed.getD i false) r := fun listed i hsz down hi => by
    simp only [Region.ready, List.mem_filter, List.mem_range, Bool.and_eq_true, Bool.not_eq_true'] at hi
    obtain ⟨h1, h2, h3⟩ := hi
    obtain ⟨r, hr, rfl⟩ := X.R.all i h1
    refine ⟨r, hr, rfl, ?_, fun j hj hbit => ?_⟩
    · have hsz' : r.i < listed.size := by omega
      simp only [Array.getD_eq_getD_getElem?, Array.getElem?_eq_getElem hsz', Option.getD_some] at h2 ⊢
      exact h2
    · cases ho : ops[r.i]? with
      | none => rw [Array.getElem?_eq_getElem h1] at ho; cases ho
      | some o =>
        rw [ho, Option.map_some, Option.getD_some] at h3
        obtain ⟨e, e1, e2, e3⟩ := hb r.i j o ho hj hbit
        have := Array.all_eq_true'.mp h3 e e1
        simp only [e2, Bool.not_true, Bool.false_or] at this
        rcases e3 with e3 | e3
        · rw [e3] at this; exact this
        · exact down e.on (by have := (X.R.edge r.i o ho e e1 e2).1; omega) this j hj e3
  -- when something is not done something is ready
  have some_ready : ∀ (listed : Array Bool), listed.size = ops.size → Region.ready .any ops listed = [] → ∀ r ∈ Rs, listed.getD r.i false = true := fun listed hsz hnil => by
    have key : ∀ (n : Nat) (As Bs : List Rec) (r : Rec), As.length = n → Rs = As ++ r :: Bs → listed.getD r.i false = true := by
      intro n
      induction n using Nat.strongRecOn with
      | ind n ih =>
        intro As Bs r hn e
        have hr : r ∈ Rs := by rw [e]; simp
        obtain ⟨q1, q2⟩ := X.R.pre r hr
        cases hl : listed.getD r.i false with
        | true => rfl
        | false =>
          exfalso
          have : r.i ∈ Region.ready .any ops listed := by
            simp only [Region.ready, List.mem_filter, List.mem_range, Bool.and_eq_true, Bool.not_eq_true']
            have hsz' : r.i < listed.size := by omega
            refine ⟨q1, ?_, ?_⟩
            · simp only [Array.getD_eq_getD_getElem?, Array.getElem?_eq_getElem hsz', Option.getD_some] at hl ⊢
              exact hl
            · rw [Array.getElem?_eq_getElem q1, Option.map_some, Option.getD_some]
              refine Array.all_eq_true'.mpr fun ed hed => ?_
              cases hbi : Region.binds .any ed with
              | false => rfl
              | true =>
                simp only [Bool.not_true, Bool.false_or]
                obtain ⟨m1, m2⟩ := X.R.edge r.i _ (Array.getElem?_eq_getElem q1) ed hed hbi
                obtain ⟨q, k1, k2⟩ := (X.R.ord As r Bs e).2 ed.on (by omega) m2
                obtain ⟨A1, A2, e2⟩ := List.append_of_mem k1
                rw [← k2]
                exact ih A1.length (by rw [← hn, e2]; simp) A1 (A2 ++ r :: Bs) q rfl (by rw [e, e2]; simp)
          rw [hnil] at this; cases this
    intro r hr
    obtain ⟨As, Bs, e⟩ := List.append_of_mem hr
    exact key As.length As Bs r rfl e
  intro fuel
  induction fuel with
  | zero =>
    intro listed a w hsz hf hI
    have hall : ∀ r ∈ Rs, listed.getD r.i false = true := fun r hr => by
      cases hl : listed.getD r.i false with
      | true => rfl
      | false =>
        have hm : r ∈ Rs.filter fun r => !listed.getD r.i false := List.mem_filter.mpr ⟨hr, by rw [hl]; rfl⟩
        have := List.length_pos_of_mem hm
        omega
    refine ⟨?_, done listed a w hsz hI hall⟩
    cases hrd : Region.ready .any ops listed with
    | nil => rfl
    | cons i l =>
      obtain ⟨r, hr, _, hS, _⟩ := readyOf listed i hsz hI.down (by rw [hrd]; simp)
      have := hall r hr
      simp only at hS
      rw [this] at hS; cases hS
  | succ fuel ih =>
    intro listed a w hsz hf hI
    refine ⟨fun hnil => done listed a w hsz hI (some_ready listed hsz hnil), fun i hi => ?_⟩
    obtain ⟨r, hr, rfl, hrd⟩ := readyOf listed i hsz hI.down hi
    have hlt := (X.R.pre r hr).1
    have hupd : (fun j => (listed.setIfInBounds r.i true).getD j false) = upd (fun j => listed.getD j false) r.i := by
      funext j
      by_cases e : j = r.i
      · subst e
        rw [upd_self]
        simp [Array.getD_eq_getD_getElem?, Array.getElem?_setIfInBounds_self_of_lt, show r.i < listed.size by omega]
      · rw [upd_ne e]
        simp [Array.getD_eq_getD_getElem?, Array.getElem?_setIfInBounds_ne (Ne.symm e)]
    refine wpOp_mono (fun a' w' hI' => ih _ a' w' (by simp [hsz]) ?_ (by rw [hupd]; exact hI')) (X.step hr hI hrd)
    -- fewer are left
    have hsub : ∀ q : Rec, (!(listed.setIfInBounds r.i true).getD q.i false) = true → (!listed.getD q.i false) = true := fun q hq => by
      have := congrFun hupd q.i
      rw [this] at hq
      simp only [upd, Bool.not_or, Bool.and_eq_true] at hq
      exact hq.1
    have hlen : ∀ l : List Rec, r ∈ l → (l.filter fun q => !(listed.setIfInBounds r.i true).getD q.i false).length < (l.filter fun q => !listed.getD q.i false).length := by
      intro l
      induction l with
      | nil => intro h; cases h
      | cons q l ihl =>
        have mono : ∀ l : List Rec, (l.filter fun q => !(listed.setIfInBounds r.i true).getD q.i false).length ≤ (l.filter fun q => !listed.getD q.i false).length := by
          intro l
          induction l with
          | nil => exact Nat.le_refl _
          | cons q l ihl =>
            simp only [List.filter_cons]
            cases h1 : (!(listed.setIfInBounds r.i true).getD q.i false) with
            | true => rw [hsub q h1]; simp only [if_true, List.length_cons]; omega
            | false => simp only [Bool.false_eq_true, if_false]; split <;> (try simp only [List.length_cons]) <;> omega
        intro h
        simp only [List.filter_cons]
        by_cases e : q = r
        · subst e
          have h1 : (!(listed.setIfInBounds q.i true).getD q.i false) = false := by
            have := congrFun hupd q.i
            rw [this, upd_self]; rfl
          have h2 : (!listed.getD q.i false) = true := by have : listed.getD q.i false = false := hrd.1; rw [this]; rfl
          have := mono l
          rw [h1, h2]
          simp only [Bool.false_eq_true, if_false, if_true, List.length_cons]; omega
        · have h : r ∈ l := by cases h with | head => exact absurd rfl e | tail _ h => exact h
          have := ihl h
          cases h1 : (!(listed.setIfInBounds r.i true).getD q.i false) with
          | true => rw [hsub q h1]; simp only [if_true, List.length_cons]; omega
          | false => simp only [Bool.false_eq_true, if_false]; split <;> (try simp only [List.length_cons]) <;> omega
    have := hlen Rs hr
    omega
end
end Go.AM
end
section
/- Bodies and calls: what the abstract machine says of a call holds of the model. -/
namespace Go.AM
section
variable {ren : FuncId → Option Nat} {P : Program}

/-! The world's tally of orders drawn is no part of memory. -/
theorem Post.drawn {ρ ρ' : Rho} {B0 : Nat} {h h' : AH} {w w' : World} {n : Nat} (hn : w.drawn ≤ n) (p : Post ren ρ B0 h { w with drawn := n } ρ' h' w') : Post ren ρ B0 h w ρ' h' w' :=
  ⟨p.le, p.dom, p.rel, p.n, p.hid, p.wm, p.keep, p.old, p.os, p.tape, p.output, Nat.le_trans hn p.drw, p.size, p.frame, p.new⟩

theorem bif_cond {α : Type} {b : Bool} {x : Option α} {y : α} (h : (bif b then x else none) = some y) : b = true ∧ x = some y := by cases b <;> simp_all

def exOf : AE → Exit
  | .normal => .normal
  | .exit id => .exit id
  | .ret => .ret

theorem dstOk_get {nt : Nat} {ops : Array Oper} (h : dstOk nt ops = true) (i : Nat) (o : Oper) (d : Nat) (ho : ops[i]? = some o) (hd : o.dst = some d) : d < nt := by
  have := Array.all_eq_true'.mp h o (Array.mem_of_getElem? ho)
  simp only [hd] at this
  exact Nat.blt_eq.mp this

theorem dreg_ok {c : CallF} (hc : CallOk ren P c) (hk : KpF c) (hmix : P.follows .mixedOrders = true) {nt : Nat} (hnt : nt ≤ 512) {id : Nat} {ops : Array Oper} {l : List AOper} {q : List (Nat × AOper × Nat × Bool)} (hl : compOpers P ren ops ops.toList = some l)
    (hcond : (dstOk nt ops && edgesOk ops (befores ops) && clashesOk l (befores ops) && bitsOk ops (befores ops) && orderOk (befores ops) ops.size (orderOf (befores ops) l) && writesOk (befores ops) l (orderOf (befores ops) l)) = true)
    (hz : zipD (befores ops) l (orderOf (befores ops) l) = some q) {t t' : Tmps} {h h' : AH} (hrun : runDreg c q [] t h = some (t', h'))
    {ρ : Rho} {B0 : Nat} {a : Act} {w : World} {D : List Deferred} {Q : Exit → Act → World → Prop} (hr : HR ren ρ B0 h w) (ht : TR ren ρ nt t a) (hwf : h.wf) (hf : ∀ i, h.n ≤ i → i < h'.n → ρ i = none) (hD : a.defers = D)
    (K : ∀ ρ' a' w', TR ren ρ' nt t' a' → Post ren ρ B0 h w ρ' h' w' → a'.defers = D → Q .normal a' w') : (Code.region id ops true).wp P Q a w := by
  simp only [Bool.and_eq_true] at hcond
  obtain ⟨⟨⟨⟨⟨h1, h2⟩, h3⟩, h4⟩, h5⟩, h6⟩ := hcond
  obtain ⟨Rs, k1, k2, k3, k4⟩ := recs hk q [] t h t' h' hrun (by intro m hm; cases hm)
  have R := regOk hl h1 h2 h3 h4 h5 h6 hz k1
  have X : Run ren P c nt ops (befores ops) Rs t h t' h' := ⟨hc, hk, hnt, R, fun r hr => (k2 r hr).1, k3, k4, hwf⟩
  refine wp_region_any hmix ?_
  refine X.anyOrder (D := D) (ρ0 := ρ) (B0 := B0) (w0 := { w with drawn := w.drawn + 1 }) R.bits (fun ρ' a' w' e1 e2 e3 => K ρ' a' w' e3 (Post.drawn (Nat.le_succ _) e2) e1) ops.size _ a _ (by simp) ?_ ?_
  · rw [← R.len]; exact List.length_filter_le _ _
  · have hS0 : (fun i => (Array.replicate ops.size false).getD i false) = fun _ => false := by
      funext i
      rw [Array.getD_eq_getD_getElem?]
      by_cases c : i < ops.size
      · simp [c]
      · simp [c]
    rw [hS0]
    have hkp := (chained_kp k4 (fun q hq => (X.G q hq).kp)).1
    have hr' : HR ren ρ B0 h { w with drawn := w.drawn + 1 } := hr.of_heap rfl
    have key : ∀ x, (hS Rs h h' fun _ => false).os.get x = h.os.get x := fun x => by
      rw [hS_os]
      have : cont Rs h (fun _ => false) x = h.os.get x := fld_none _ _ (fun q _ e => by cases e)
      rw [this]
      split
      · rfl
      · rw [hwf x (by have := hkp.n; omega)]
    have hg : ∀ x, (hS Rs h h' fun _ => false).get x = h.get x := fun x => by
      unfold AH.get; rw [key]; rfl
    refine ⟨(fun i _ e => by cases e), hD, ρ, ?_, fun r hrr _ x e1 e2 => ?_, ht.same fun s => ?_⟩
    · refine ⟨Rho.le_refl ρ, fun i e => absurd rfl e, hr'.sub (fun x o e => by rw [← hg]; exact e), hkp.n, rfl, hkp.wm, fun x _ _ => key x, fun i o _ e1 e2 => ⟨o, by rw [← hg]; exact e1, e2⟩, rfl, rfl, rfl, Nat.le_refl _, Nat.le_refl _, fun _ _ _ => rfl, fun i o e1 e2 e3 => ?_⟩
      rw [hg, AH.get_none hwf e1] at e2; cases e2
    · obtain ⟨As, Bs, s⟩ := X.split hrr
      exact hf x (by have := s.k0.n; omega) (by have := s.k1.n; omega)
    · rw [tS_get]; exact fld_none _ _ (fun q _ e => by cases e)

/-! Bodies. -/
def CodeOk (ren : FuncId → Option Nat) (P : Program) (nt : Nat) (d : CodeF) (x : Code) : Prop :=
  ∀ ac, compCode P ren nt x = some ac → ∀ t h e t' h', d ac t h = some (e, t', h') → h.wf → ∀ ρ B0 a w D (Q : Exit → Act → World → Prop), HR ren ρ B0 h w → TR ren ρ nt t a → (∀ i, h.n ≤ i → i < h'.n → ρ i = none) → a.defers = D →
    (∀ ρ' a' w', TR ren ρ' nt t' a' → Post ren ρ B0 h w ρ' h' w' → a'.defers = D → Q (exOf e) a' w') → x.wp P Q a w

def LoopOk (ren : FuncId → Option Nat) (P : Program) (nt n : Nat) (d : CodeF) : Prop :=
  ∀ x ac, compCode P ren nt x = some ac → ∀ t h e t' h', d (.loop ac) t h = some (e, t', h') → h.wf → ∀ ρ B0 a w D (Q : Exit → Act → World → Prop), HR ren ρ B0 h w → TR ren ρ nt t a → (∀ i, h.n ≤ i → i < h'.n → ρ i = none) → a.defers = D →
    (∀ ρ' a' w', TR ren ρ' nt t' a' → Post ren ρ B0 h w ρ' h' w' → a'.defers = D → Q (exOf e) a' w') → Code.rounds P x Q n a w

theorem rounds_ok {c : CallF} {ih : CodeF} (hik : KpC ih) (hk : KpF c) {nt n : Nat} (hi : LoopOk ren P nt n ih) {x : Code} (hx : CodeOk ren P nt (stepC c ih) x) :
    ∀ ac, compCode P ren nt x = some ac → ∀ t h e t' h', stepC c ih (.loop ac) t h = some (e, t', h') → h.wf → ∀ ρ B0 a w D (Q : Exit → Act → World → Prop), HR ren ρ B0 h w → TR ren ρ nt t a → (∀ i, h.n ≤ i → i < h'.n → ρ i = none) → a.defers = D →
    (∀ ρ' a' w', TR ren ρ' nt t' a' → Post ren ρ B0 h w ρ' h' w' → a'.defers = D → Q (exOf e) a' w') → Code.rounds P x Q (n + 1) a w := by
  intro ac hcomp t h e t' h' hrun hwf ρ B0 a w D Q hr ht hf hD K
  rw [rounds_succ]
  simp only [stepC] at hrun
  split at hrun
  · rename_i t1 h1 ho
    have k1 := stepC_kp hk hik _ _ _ _ _ _ ho
    have k2 := hik _ _ _ _ _ _ hrun
    refine hx ac hcomp t h .normal t1 h1 ho hwf ρ B0 a w D _ hr ht (fun i i1 i2 => hf i i1 (by have := k2.n; omega)) hD fun ρ1 a1 w1 e1 e2 e3 => ?_
    exact hi x ac hcomp t1 h1 e t' h' hrun (k1.wf hwf) ρ1 B0 a1 w1 D Q e2.rel e1 (e2.fresh hf) e3 fun ρ2 a2 w2 f1 f2 f3 => K ρ2 a2 w2 f1 (e2.trans f2) f3
  · rename_i hne
    refine hx ac hcomp t h e t' h' hrun hwf ρ B0 a w D _ hr ht hf hD fun ρ1 a1 w1 e1 e2 e3 => ?_
    have := K ρ1 a1 w1 e1 e2 e3
    cases e with
    | normal => exact absurd hrun (hne t' h')
    | exit id => exact this
    | ret => exact this

theorem range_zero (n : Nat) : List.range n = List.range' 0 n := by rw [List.range_eq_range']

theorem stepC_ok {c : CallF} (hc : CallOk ren P c) (hk : KpF c) (hmix : P.follows .mixedOrders = true) {nt : Nat} (hnt : nt ≤ 512) {ih : CodeF} (hik : KpC ih) {n : Nat} (hi : LoopOk ren P nt n ih) : ∀ x, CodeOk ren P nt (stepC c ih) x := by
  intro x
  induction x
  case skip =>
    intro ac hcomp t h e t' h' hrun hwf ρ B0 a w D Q hr ht hf hD K
    injection hcomp with hcomp; subst hcomp
    injection hrun with hrun; injection hrun with h1 h2; injection h2 with h2 h3; subst h1; subst h2; subst h3
    exact wp_skip (K ρ a w ht (Post.refl hr) hD)
  case exit id =>
    intro ac hcomp t h e t' h' hrun hwf ρ B0 a w D Q hr ht hf hD K
    injection hcomp with hcomp; subst hcomp
    injection hrun with hrun; injection hrun with h1 h2; injection h2 with h2 h3; subst h1; subst h2; subst h3
    exact wp_exit (K ρ a w ht (Post.refl hr) hD)
  case ret =>
    intro ac hcomp t h e t' h' hrun hwf ρ B0 a w D Q hr ht hf hD K
    injection hcomp with hcomp; subst hcomp
    injection hrun with hrun; injection hrun with h1 h2; injection h2 with h2 h3; subst h1; subst h2; subst h3
    exact wp_ret (K ρ a w ht (Post.refl hr) hD)
  case region id ops dr =>
    intro ac hcomp t h e t' h' hrun hwf ρ B0 a w D Q hr ht hf hD K
    cases dr with
    | false =>
      simp only [compCode] at hcomp
      obtain ⟨l, hl, hcomp⟩ := bind_some hcomp
      obtain ⟨hd, hcomp⟩ := bif_cond hcomp
      injection hcomp with hcomp; subst hcomp
      simp only [stepC] at hrun
      split at hrun
      · rename_i t1 h1 ho
        injection hrun with hrun; injection hrun with e1 e2; injection e2 with e2 e3; subst e1; subst e2; subst e3
        refine wp_region ?_
        rw [range_zero]
        have := runReg_ok hc hk hnt (dstOk_get hd) (Q := Q) (B0 := B0) (t' := t1) (h' := h1) (D := D) ops.toList 0 l t h ρ a w (fun j => by simp) hl ho hwf hr ht hf hD K
        simpa using this
      · cases hrun
    | true =>
      simp only [compCode] at hcomp
      obtain ⟨l, hl, hcomp⟩ := bind_some hcomp
      obtain ⟨hd, hcomp⟩ := bif_cond hcomp
      obtain ⟨q, hz, hcomp⟩ := bind_some hcomp
      injection hcomp with hcomp; subst hcomp
      simp only [stepC] at hrun
      split at hrun
      · rename_i t1 h1 ho
        injection hrun with hrun; injection hrun with e1 e2; injection e2 with e2 e3; subst e1; subst e2; subst e3
        exact dreg_ok hc hk hmix hnt hl hd hz ho hr ht hwf hf hD K
      · cases hrun
  case seq x y ihx ihy =>
    intro ac hcomp t h e t' h' hrun hwf ρ B0 a w D Q hr ht hf hD K
    simp only [compCode] at hcomp
    obtain ⟨ax, hax, hcomp⟩ := bind_some hcomp
    obtain ⟨ay, hay, hcomp⟩ := bind_some hcomp
    injection hcomp with hcomp; subst hcomp
    simp only [stepC] at hrun
    split at hrun
    · rename_i t1 h1 ho
      have k1 := stepC_kp hk hik _ _ _ _ _ _ ho
      have k2 := stepC_kp hk hik _ _ _ _ _ _ hrun
      refine wp_seq (ihx ax hax t h .normal t1 h1 ho hwf ρ B0 a w D _ hr ht (fun i i1 i2 => hf i i1 (by have := k2.n; omega)) hD fun ρ1 a1 w1 e1 e2 e3 => ?_)
      exact ihy ay hay t1 h1 e t' h' hrun (k1.wf hwf) ρ1 B0 a1 w1 D Q e2.rel e1 (e2.fresh hf) e3 fun ρ2 a2 w2 f1 f2 f3 => K ρ2 a2 w2 f1 (e2.trans f2) f3
    · rename_i hne
      refine wp_seq (ihx ax hax t h e t' h' hrun hwf ρ B0 a w D _ hr ht hf hD fun ρ1 a1 w1 e1 e2 e3 => ?_)
      have := K ρ1 a1 w1 e1 e2 e3
      cases e with
      | normal => exact absurd hrun (hne t' h')
      | exit id => exact this
      | ret => exact this
  case cond b x y ihx ihy =>
    intro ac hcomp t h e t' h' hrun hwf ρ B0 a w D Q hr ht hf hD K
    simp only [compCode] at hcomp
    obtain ⟨ab, hab, hcomp⟩ := bind_some hcomp
    obtain ⟨ax, hax, hcomp⟩ := bind_some hcomp
    obtain ⟨ay, hay, hcomp⟩ := bind_some hcomp
    injection hcomp with hcomp; subst hcomp
    simp only [stepC] at hrun
    have hv := ht.ev hab
    split at hrun
    · rename_i hb
      rw [hb] at hv
      generalize hz : a.eval b = z at hv
      cases hv
      exact wp_cond_true hz (ihx ax hax t h e t' h' hrun hwf ρ B0 a w D Q hr ht hf hD K)
    · rename_i hb
      rw [hb] at hv
      generalize hz : a.eval b = z at hv
      cases hv
      exact wp_cond_false hz (ihy ay hay t h e t' h' hrun hwf ρ B0 a w D Q hr ht hf hD K)
    · cases hrun
  case block id x ihx =>
    intro ac hcomp t h e t' h' hrun hwf ρ B0 a w D Q hr ht hf hD K
    simp only [compCode] at hcomp
    obtain ⟨ax, hax, hcomp⟩ := bind_some hcomp
    injection hcomp with hcomp; subst hcomp
    simp only [stepC] at hrun
    split at hrun
    · rename_i j t1 h1 ho
      injection hrun with hrun; injection hrun with e1 e2; injection e2 with e2 e3; subst e2; subst e3
      refine wp_block (ihx ax hax t h (.exit j) t1 h1 ho hwf ρ B0 a w D _ hr ht hf hD fun ρ1 a1 w1 f1 f2 f3 => ?_)
      have := K ρ1 a1 w1 f1 f2 f3
      rw [← e1] at this
      simp only [exOf, Exit.inBlock]
      split
      · rename_i hj
        subst hj
        simpa [exOf] using this
      · rename_i hj
        have hb : Nat.beq j id = false := by
          cases h : Nat.beq j id with
          | false => rfl
          | true => exact absurd (Nat.eq_of_beq_eq_true h) hj
        rw [hb] at this
        exact this
    · rename_i hne
      refine wp_block (ihx ax hax t h e t' h' hrun hwf ρ B0 a w D _ hr ht hf hD fun ρ1 a1 w1 e1 e2 e3 => ?_)
      have := K ρ1 a1 w1 e1 e2 e3
      cases e with
      | normal => exact this
      | exit j => exact absurd hrun (hne j t' h')
      | ret => exact this
  case loop x ihx =>
    intro ac hcomp t h e t' h' hrun hwf ρ B0 a w D Q hr ht hf hD K
    simp only [compCode] at hcomp
    obtain ⟨ax, hax, hcomp⟩ := bind_some hcomp
    injection hcomp with hcomp; subst hcomp
    exact wp_loop_rounds (n + 1) (rounds_ok hik hk hi ihx ax hax t h e t' h' hrun hwf ρ B0 a w D Q hr ht hf hD K)
  all_goals
    intro ac hcomp
    cases hcomp

/-- Fuel for one function's loops, its calls run by something else. -/
def acodeC (c : CallF) (n : Nat) : CodeF := Nat.rec (motive := fun _ => CodeF) (fun _ _ _ => none) (fun _ ih => stepC c ih) n

/-- The same when calls have fuel too: they are run with what is left. -/
structure Level (ren : FuncId → Option Nat) (P : Program) (n : Nat) (d : CodeF) : Prop where
  kp : KpC d
  loop : ∀ nt, nt ≤ 512 → LoopOk ren P nt n d
  code : ∀ nt, nt ≤ 512 → ∀ x, CodeOk ren P nt d x

theorem level_zero : Level ren P 0 (fun _ _ _ => none) := by
  refine ⟨(fun x t h e t' h' hr => by cases hr), (fun nt _ x ac hcomp t h e t' h' hr => by cases hr), (fun nt _ x ac hcomp t h e t' h' hr => by cases hr)⟩

theorem level_succ {c : CallF} (hc : CallOk ren P c) (hk : KpF c) (hmix : P.follows .mixedOrders = true) {n : Nat} {ih : CodeF} (L : Level ren P n ih) : Level ren P (n + 1) (stepC c ih) := by
  have hcode : ∀ nt, nt ≤ 512 → ∀ x, CodeOk ren P nt (stepC c ih) x := fun nt hnt => stepC_ok hc hk hmix hnt L.kp (L.loop nt hnt)
  exact ⟨stepC_kp hk L.kp, fun nt hnt x ac hcomp => rounds_ok L.kp hk (L.loop nt hnt) (hcode nt hnt x) ac hcomp, hcode⟩

theorem acodeC_ok {c : CallF} (hc : CallOk ren P c) (hk : KpF c) (hmix : P.follows .mixedOrders = true) : ∀ n, Level ren P n (acodeC c n)
  | 0 => level_zero
  | n + 1 => level_succ hc hk hmix (acodeC_ok hc hk hmix n)
end
end Go.AM
end
section
/- Calls: the arguments laid, the results read; the whole machine is sound. -/
namespace Go.AM
section
variable {ren : FuncId → Option Nat} {P : Program}

theorem tget_noT (s : Sl) : tget noT s = und := by
  obtain ⟨a, b, c⟩ := s
  cases a <;> cases b <;> cases c <;> rfl

theorem argsT_get : ∀ (l : List AV) (k : Nat) (t : Tmps) (n : Nat), n < 512 → k + l.length ≤ 512 → tget (argsT k l t) (toSl n) = if k ≤ n ∧ n < k + l.length then l.getD (n - k) und else tget t (toSl n)
  | [], k, t, n, _, _ => by simp only [argsT, List.length_nil]; rw [if_neg (by omega)]
  | v :: l, k, t, n, hn, hk => by
    simp only [List.length_cons] at hk
    simp only [argsT, List.length_cons]
    rw [argsT_get l (k + 1) _ n hn (by omega), tget_tset]
    by_cases c : k = n
    · subst c
      rw [if_neg (by omega), if_pos rfl, if_pos (by omega)]; simp
    · rw [if_neg (fun e => c (toSl_inj (by omega) hn e))]
      by_cases d : k + 1 ≤ n ∧ n < k + 1 + l.length
      · rw [if_pos d, if_pos (by omega)]
        have : n - k = (n - (k + 1)) + 1 := by omega
        rw [this]; simp
      · rw [if_neg d, if_neg (by omega)]

theorem args_ok {ρ : Rho} {l : List AV} {cl : Array Value} {nt : Nat} (hv : VRL ren ρ l cl.toList) (hl : l.length ≤ nt) (hnt : nt ≤ 512) (D : List Deferred) : TR ren ρ nt (argsT 0 l noT) { tmps := cl ++ Array.replicate (nt - cl.size) undef, defers := D } := by
  have hlen : l.length = cl.size := by simpa using hv.1
  refine ⟨by simp; omega, fun n hn => ?_⟩
  rw [argsT_get l 0 noT n hn (by omega), tget_noT]
  simp only [Nat.zero_le, true_and, Nat.zero_add, Nat.sub_zero]
  by_cases c : n < l.length
  · rw [if_pos c]
    have h1 : l[n]? = some (l.getD n AM.und) := by simp [c]
    have h2 : cl.toList[n]? = some ((cl ++ Array.replicate (nt - cl.size) undef).getD n undef) := by
      rw [Array.getD_eq_getD_getElem?, Array.getElem?_append_left (by omega)]
      simp [show n < cl.size by omega]
    exact hv.2 n _ _ h1 h2
  · rw [if_neg c]
    have : (cl ++ Array.replicate (nt - cl.size) undef).getD n undef = undef := by
      rw [Array.getD_eq_getD_getElem?, Array.getElem?_append_right (by omega)]
      by_cases d : n - cl.size < nt - cl.size
      · simp [d]
      · simp [d]
    rw [this]; exact VR.tup rfl (by intro j x y hx; simp at hx)

/-! Results. -/
def resV (tmps : Array Value) : ResultVar → Sem Value
  | .tmp t => pure (tmps.getD t undef)
  | .cell b t => do loadVar t (← asAddr (tmps.getD b undef))

theorem res_ok {ρ : Rho} {B0 nt : Nat} {h : AH} {w : World} {t : Tmps} {a : Act} (hr : HR ren ρ B0 h w) (ht : TR ren ρ nt t a) : ∀ (rs : List ResultVar) (ar : List ARes) (l : List AV), compRes P rs = some ar → resOf t h ar = some l →
    ∃ vs, (rs.mapM (resV a.tmps)).run P w = .ok vs w ∧ VRL ren ρ l vs
  | [], ar, l, hc, hl => by
    injection hc with hc; subst hc
    injection hl with hl; subst hl
    exact ⟨[], by simp, VRL.nil ρ⟩
  | .tmp n :: rs, ar, l, hc, hl => by
    simp only [compRes] at hc
    obtain ⟨hn, hc⟩ := bif_cond hc
    obtain ⟨r, hrr, hc⟩ := bind_some hc
    injection hc with hc; subst hc
    simp only [resOf] at hl
    split at hl
    · rename_i l1 hl1
      injection hl with hl; subst hl
      obtain ⟨vs, e1, e2⟩ := res_ok hr ht rs r l1 hrr hl1
      refine ⟨a.tmps.getD n undef :: vs, ?_, VRL.cons (ht.val n (Nat.blt_eq.mp hn)) e2⟩
      rw [List.mapM_cons]
      have h0 : (resV a.tmps (.tmp n)).run P w = .ok (a.tmps.getD n undef) w := by simp only [resV, Sem.run_pure]
      simp only [Sem.run_bind, Sem.run_pure, Result.andThen_ok, h0, e1]
    · cases hl
  | .cell n T :: rs, ar, l, hc, hl => by
    simp only [compRes] at hc
    obtain ⟨hn, hc⟩ := bif_cond hc
    obtain ⟨ag, hag, hc⟩ := bind_some hc
    obtain ⟨sz, hsz, hc⟩ := bind_some hc
    obtain ⟨r, hrr, hc⟩ := bind_some hc
    injection hc with hc; subst hc
    have hv := ht.val n (Nat.blt_eq.mp hn)
    cases ag with
    | true =>
      simp only [resOf, cond_true] at hl
      split at hl
      · rename_i c1 l1 hld hl1
        injection hl with hl; subst hl
        obtain ⟨vs, e1, e2⟩ := res_ok hr ht rs r l1 hrr hl1
        obtain ⟨ad, cs, g1, g2, g3, g4⟩ := loadN_ok hr hv hld
        have hlc := run_loadCells_list (P := P) w ad cs g3
        rw [g2] at hlc
        refine ⟨.agg cs.toArray :: vs, ?_, VRL.cons g4.agg e2⟩
        rw [List.mapM_cons]
        have h0 : (resV a.tmps (.cell n T)).run P w = .ok (.agg cs.toArray) w := by
          simp only [resV]; rw [g1]
          simp [asAddr, loadVar, run_aggB hag, run_sizeB hsz, hlc]
        simp only [Sem.run_bind, Sem.run_pure, Result.andThen_ok, h0, e1]
      · cases hl
    | false =>
      simp only [resOf, cond_false] at hl
      split at hl
      · rename_i c1 l1 hld hl1
        split at hl
        · rename_i u
          injection hl with hl; subst hl
          obtain ⟨vs, e1, e2⟩ := res_ok hr ht rs r l1 hrr hl1
          obtain ⟨ad, cs, g1, g2, g3, g4⟩ := loadN_ok hr hv hld
          obtain ⟨z, rfl, hz⟩ := VRL.single rfl g4.1
          have hlo := run_load_one (P := P) g3
          refine ⟨z :: vs, ?_, VRL.cons hz e2⟩
          rw [List.mapM_cons]
          have h0 : (resV a.tmps (.cell n T)).run P w = .ok z w := by
            simp only [resV]; rw [g1]
            simp only [asAddr, loadVar, Sem.run_bind, Sem.run_pure, Result.andThen_ok, run_aggB hag, Bool.false_eq_true, if_false, hlo]
          simp only [Sem.run_bind, Sem.run_pure, Result.andThen_ok, h0, e1]
        · cases hl
      · cases hl

theorem results_ok {ρ : Rho} {B0 nt : Nat} {h h' : AH} {w : World} {t : Tmps} {a : Act} (hr : HR ren ρ B0 h w) (ht : TR ren ρ nt t a) {fn : Func} {f : AFunc} {v : AV} (hc : compRes P fn.results.toList = some f.res) (hf : finish f t h = some (v, h')) :
    h' = h ∧ ∃ v', (results fn a.tmps).run P w = .ok v' w ∧ VR ren ρ v v' := by
  have key : ∀ l, resOf t h f.res = some l → ∃ vs : List Value, (results fn a.tmps).run P w = .ok (if h : vs.toArray.size = 1 then vs.toArray[0] else .tuple vs.toArray) w ∧ VRL ren ρ l vs := fun l hl => by
    obtain ⟨vs, e1, e2⟩ := res_ok hr ht fn.results.toList f.res l hc hl
    refine ⟨vs, ?_, e2⟩
    have hres : results fn a.tmps = (do let vs ← fn.results.mapM (resV a.tmps); pure (if h : vs.size = 1 then vs[0] else .tuple vs)) := rfl
    rw [hres, Array.mapM_eq_mapM_toList]
    simp only [Sem.run_bind, map_eq_pure_bind, bind_assoc, Sem.run_pure, Result.andThen_ok, e1]
  unfold finish at hf
  split at hf
  · rename_i v1 hl
    injection hf with hf; injection hf with h1 h2; subst h1; subst h2
    obtain ⟨vs, k1, k2⟩ := key _ hl
    obtain ⟨z, rfl, hz⟩ := VRL.single rfl k2
    exact ⟨rfl, z, by simpa using k1, hz⟩
  · rename_i l hne hl
    injection hf with hf; injection hf with h1 h2; subst h1; subst h2
    obtain ⟨vs, k1, k2⟩ := key _ hl
    have hlen : l.length = vs.length := k2.1
    have hn1 : vs.length ≠ 1 := fun e => by
      match l, hlen with
      | [x], _ => exact hne x rfl
      | [], h => simp at h; omega
      | _ :: _ :: _, h => simp at h; omega
    refine ⟨rfl, .tuple vs.toArray, ?_, VR.tup (by simpa using hlen) (fun j x y hx hy => k2.2 j x y hx (by simpa using hy))⟩
    rw [k1]
    simp [hn1]
  · cases hf

/-! A function entered. -/
theorem enter_ok {d : CodeF} {n : Nat} (L : Level ren P n d) {fid : FuncId} {fn : Func} {f : AFunc} (hfn : P.funcs[fid]? = some fn) (hcomp : compFunc P ren fn = some f) {l : List AV} {h h' : AH} {v : AV} (hrun : enter d f l h = some (v, h')) (hwf : h.wf)
    {ρ : Rho} {B0 : Nat} {w : World} {cl : Array Value} (hr : HR ren ρ B0 h w) (hv : VRL ren ρ l cl.toList) (hf : ∀ i, h.n ≤ i → i < h'.n → ρ i = none) :
    Calls P fid cl w (fun e w' => ∃ v' ρ', e = .returned v' ∧ VR ren ρ' v v' ∧ Post ren ρ B0 h w ρ' h' w') := by
  obtain ⟨c, hb, hcomp⟩ := bind_some hcomp
  obtain ⟨hcond, hcomp⟩ := bif_cond hcomp
  obtain ⟨res, hres, hcomp⟩ := bind_some hcomp
  obtain ⟨body, hbody, hcomp⟩ := bind_some hcomp
  injection hcomp with hcomp; subst hcomp
  simp only [Bool.and_eq_true] at hcond
  obtain ⟨⟨_, c1⟩, c2⟩ := hcond
  have c1 := Nat.le_of_ble_eq_true c1
  have c2 := Nat.le_of_ble_eq_true c2
  unfold enter at hrun
  obtain ⟨hlen, hrun⟩ := bif_cond hrun
  have hlen := Nat.eq_of_beq_eq_true hlen
  simp only at hlen
  refine calls_of_wp hfn hb ?_
  have ht := args_ok (ren := ren) (ρ := ρ) (nt := fn.ntmps) hv (by omega) c2 []
  have go : ∀ (e : AE) (t1 : Tmps) (h1 : AH), d body (argsT 0 l noT) h = some (e, t1, h1) → (e = .normal ∨ e = .ret) → finish { nargs := fn.params.size + fn.nfree, res := res, body := body } t1 h1 = some (v, h') →
      c.wp P (bodyPost P fn (fun e w' => ∃ v' ρ', e = .returned v' ∧ VR ren ρ' v v' ∧ Post ren ρ B0 h w ρ' h' w')) { tmps := cl ++ Array.replicate (fn.ntmps - cl.size) undef, defers := [] } w := fun e t1 h1 hd he hfin => by
    have hh : h' = h1 := by
      unfold finish at hfin
      split at hfin <;> (try (injection hfin with hfin; injection hfin with _ h2; exact h2.symm)) <;> cases hfin
    refine L.code fn.ntmps c2 c body hbody _ _ e t1 h1 hd hwf ρ B0 _ w [] _ hr ht (by rw [← hh]; exact hf) rfl fun ρ' a' w' e1 e2 e3 => ?_
    obtain ⟨_, v', k1, k2⟩ := results_ok e2.rel e1 hres hfin
    rw [hh]
    rcases he with rfl | rfl
    · exact ⟨e3, v', k1, v', ρ', rfl, k2, e2⟩
    · exact ⟨e3, v', k1, v', ρ', rfl, k2, e2⟩
  split at hrun
  · rename_i t1 h1 hd; exact go .normal t1 h1 hd (.inl rfl) hrun
  · rename_i t1 h1 hd; exact go .ret t1 h1 hd (.inr rfl) hrun
  · cases hrun

/-! The whole machine. -/
/-- The table holds what the program's functions become. -/
def TabOk (ren : FuncId → Option Nat) (P : Program) (F : Tr AFunc) : Prop := ∀ f g, ren f = some g → ∀ af, F.get g = some af → ∃ fn, P.funcs[f]? = some fn ∧ compFunc P ren fn = some af

def tabCall (F : Tr AFunc) (d : CodeF) : CallF := fun g args h => match F.get g with | some f => enter d f args h | none => none

theorem tabCall_kp {F : Tr AFunc} {d : CodeF} (hd : KpC d) : KpF (tabCall F d) := fun g l h v h' hr => by
  unfold tabCall at hr
  split at hr
  · exact enter_kp hd hr
  · cases hr

theorem tabCall_ok {F : Tr AFunc} {n : Nat} {d : CodeF} (hT : TabOk ren P F) (L : Level ren P n d) : CallOk ren P (tabCall F d) := by
  intro g l h v h' hr hwf f hf
  unfold tabCall at hr
  split at hr
  · rename_i af haf
    obtain ⟨fn, h1, h2⟩ := hT f g hf af haf
    refine ⟨⟨fn, h1, ?_⟩, fun ρ B0 w cl k1 k2 k3 => enter_ok L h1 h2 hr hwf k1 k2 k3⟩
    obtain ⟨c, hb, hc⟩ := bind_some h2
    obtain ⟨hcond, _⟩ := bif_cond hc
    simp only [Bool.and_eq_true, bne, Bool.not_eq_true'] at hcond
    exact ⟨hcond.1.1, by rw [hb]; rfl⟩
  · cases hr

theorem acode_level {F : Tr AFunc} (hT : TabOk ren P F) (hmix : P.follows .mixedOrders = true) : ∀ n, Level ren P n (acode F n)
  | 0 => level_zero
  | n + 1 => by
    have L := acode_level hT hmix n
    exact level_succ (tabCall_ok hT L) (tabCall_kp L.kp) hmix L

/-- WHAT THE ABSTRACT MACHINE SAYS OF A CALL HOLDS OF THE MODEL. -/
theorem arun_ok {F : Tr AFunc} (hT : TabOk ren P F) (hmix : P.follows .mixedOrders = true) (n : Nat) : CallOk ren P (arun F n) := tabCall_ok hT (acode_level hT hmix n)

theorem emptyH_wf : emptyH.wf := fun _ _ => rfl
theorem emptyH_HR (ρ : Rho) (w : World) : HR ren ρ w.heap.size emptyH w := by
  have g : ∀ i, emptyH.get i = none := fun i => rfl
  exact ⟨Nat.le_refl _, (fun i o h => by rw [g] at h; cases h), (fun i j o o' e e' _ h => by rw [g] at h; cases h)⟩

/-- A call from nothing: what it answers, and that it leaves alone all that was there. -/
theorem arun_from_nothing {F : Tr AFunc} (hT : TabOk ren P F) (hmix : P.follows .mixedOrders = true) {n g : Nat} {f : FuncId} (hf : ren f = some g) {v : AV} {h' : AH} (hr : arun F n g [] emptyH = some (v, h')) (w : World) :
    Calls P f #[] w (fun e w' => ∃ v' ρ', e = .returned v' ∧ VR ren ρ' v v' ∧ HR ren ρ' w.heap.size h' w' ∧ w'.os = w.os ∧ w'.tape = w.tape ∧ w'.output = w.output ∧ w.heap.size ≤ w'.heap.size ∧ ∀ b, b < w.heap.size → w'.heap[b]? = w.heap[b]?) := by
  refine ((arun_ok hT hmix n g [] emptyH v h' hr emptyH_wf f hf).2 (fun _ => none) w.heap.size w #[] (emptyH_HR _ w) (VRL.nil _) (fun _ _ _ => rfl)).mono fun e w' he => ?_
  obtain ⟨v', ρ', e1, e2, p⟩ := he
  exact ⟨v', ρ', e1, e2, p.rel, p.os, p.tape, p.output, p.size, fun b hb => p.frame b hb fun i o e hi => by cases hi⟩
end
end Go.AM
end
section
/- The machine with any functions answered from outside; more fuel says the same. -/
namespace Go.AM

abbrev Orc := Nat → Option (List AV → AH → Option (AV × AH))
def callG (F : Tr AFunc) (orc : Orc) (d : CodeF) : CallF := fun g args h => match orc g with
  | some o => o args h
  | none => match F.get g with | some f => enter d f args h | none => none
def acodeG (F : Tr AFunc) (orc : Orc) (n : Nat) : CodeF := Nat.rec (motive := fun _ => CodeF) (fun _ _ _ => none) (fun _ ih => stepC (callG F orc ih) ih) n
def arunG (F : Tr AFunc) (orc : Orc) (n : Nat) : CallF := callG F orc (acodeG F orc n)

theorem acodeG_succ (F : Tr AFunc) (orc : Orc) (n : Nat) : acodeG F orc (n + 1) = stepC (arunG F orc n) (acodeG F orc n) := rfl

section
variable {ren : FuncId → Option Nat} {P : Program}

/-- What is answered from outside is so. -/
structure OrcOk (ren : FuncId → Option Nat) (P : Program) (orc : Orc) : Prop where
  kp : ∀ g o, orc g = some o → ∀ l h v h', o l h = some (v, h') → Kp h h'
  ok : ∀ g o, orc g = some o → CallOk ren P (fun g' l h => if g' = g then o l h else none)

theorem callG_kp {F : Tr AFunc} {orc : Orc} {d : CodeF} (ho : OrcOk ren P orc) (hd : KpC d) : KpF (callG F orc d) := fun g l h v h' hr => by
  unfold callG at hr
  split at hr
  · rename_i o ho'; exact ho.kp g o ho' l h v h' hr
  · split at hr
    · exact enter_kp hd hr
    · cases hr

theorem callG_ok {F : Tr AFunc} {orc : Orc} {n : Nat} {d : CodeF} (hT : TabOk ren P F) (ho : OrcOk ren P orc) (L : Level ren P n d) : CallOk ren P (callG F orc d) := by
  intro g l h v h' hr hwf f hf
  unfold callG at hr
  split at hr
  · rename_i o ho'; exact ho.ok g o ho' g l h v h' (by simp only [if_true]; exact hr) hwf f hf
  · exact tabCall_ok hT L g l h v h' hr hwf f hf

theorem acodeG_level {F : Tr AFunc} {orc : Orc} (hT : TabOk ren P F) (ho : OrcOk ren P orc) (hmix : P.follows .mixedOrders = true) : ∀ n, Level ren P n (acodeG F orc n)
  | 0 => level_zero
  | n + 1 => by
    have L := acodeG_level hT ho hmix n
    exact level_succ (callG_ok hT ho L) (callG_kp ho L.kp) hmix L

theorem arunG_ok {F : Tr AFunc} {orc : Orc} (hT : TabOk ren P F) (ho : OrcOk ren P orc) (hmix : P.follows .mixedOrders = true) (n : Nat) : CallOk ren P (arunG F orc n) := callG_ok hT ho (acodeG_level hT ho hmix n)
end

/-! More fuel. -/
def LeF (c c' : CallF) : Prop := ∀ g l h r, c g l h = some r → c' g l h = some r
def LeC (d d' : CodeF) : Prop := ∀ x t h r, d x t h = some r → d' x t h = some r

theorem runOp_le {c c' : CallF} (hc : LeF c c') {t : Tmps} {h : AH} {o : AOp} {r : AV × AH} (hr : runOp c t h o = some r) : runOp c' t h o = some r := by
  unfold runOp at hr ⊢
  split at hr
  · split at hr
    · exact hc _ _ _ _ hr
    · cases hr
  · exact hr
theorem runReg_le {c c' : CallF} (hc : LeF c c') : ∀ {l : List AOper} {t : Tmps} {h : AH} {r : Tmps × AH}, runReg c l t h = some r → runReg c' l t h = some r
  | [], _, _, _, hr => hr
  | o :: l, t, h, r, hr => by
    simp only [runReg] at hr ⊢
    cases hw : wantedA t o.guard with
    | false => rw [hw] at hr; exact runReg_le hc hr
    | true =>
      rw [hw, cond_true] at hr
      rw [cond_true]
      split at hr
      · rename_i v h1 ho
        rw [runOp_le hc ho]; exact runReg_le hc hr
      · cases hr
theorem runLoose_le {c c' : CallF} (hc : LeF c c') {t : Tmps} {h : AH} {hid : List (Nat × Nat)} {o : AOp} {r : AV × AH} (hr : runLoose c t h hid o = some r) : runLoose c' t h hid o = some r := by
  unfold runLoose at hr ⊢
  split at hr
  · cases hr
  · rename_i v h1 ho
    rw [runOp_le hc ho]; exact hr
theorem runDreg_le {c c' : CallF} (hc : LeF c c') : ∀ {l : List (Nat × AOper × Nat × Bool)} {m : List (Nat × List (Nat × Nat))} {t : Tmps} {h : AH} {r : Tmps × AH}, runDreg c l m t h = some r → runDreg c' l m t h = some r
  | [], _, _, _, _, hr => hr
  | (i, o, pre, bar) :: l, m, t, h, r, hr => by
    simp only [runDreg] at hr ⊢
    cases hw : wantedA t o.guard with
    | false => rw [hw] at hr; exact runDreg_le hc hr
    | true =>
      rw [hw, cond_true] at hr
      rw [cond_true]
      cases hb : bar || isPure o.op with
      | true =>
        rw [hb, cond_true] at hr
        rw [cond_true]
        split at hr
        · rename_i v h1 ho
          rw [runOp_le hc ho]; exact runDreg_le hc hr
        · cases hr
      | false =>
        rw [hb, cond_false] at hr
        rw [cond_false]
        split at hr
        · rename_i v h1 ho
          rw [runLoose_le hc ho]; exact runDreg_le hc hr
        · cases hr
theorem stepC_le {c c' : CallF} (hc : LeF c c') {d d' : CodeF} (hd : LeC d d') : LeC (stepC c d) (stepC c' d') := by
  intro x
  induction x with
  | skip => exact fun t h r hr => hr
  | exit id => exact fun t h r hr => hr
  | ret => exact fun t h r hr => hr
  | reg ops =>
    intro t h r hr
    simp only [stepC] at hr ⊢
    split at hr
    · rename_i t1 h1 ho; rw [runReg_le hc ho]; exact hr
    · cases hr
  | dreg ops =>
    intro t h r hr
    simp only [stepC] at hr ⊢
    split at hr
    · rename_i t1 h1 ho; rw [runDreg_le hc ho]; exact hr
    · cases hr
  | seq a b iha ihb =>
    intro t h r hr
    simp only [stepC] at hr ⊢
    split at hr
    · rename_i t1 h1 ho; rw [iha _ _ _ ho]; exact ihb _ _ _ hr
    · rename_i hne
      rw [iha _ _ _ hr]
      obtain ⟨e, t1, h1⟩ := r
      cases e with
      | normal => exact absurd hr (hne t1 h1)
      | exit id => rfl
      | ret => rfl
  | cond x a b iha ihb =>
    intro t h r hr
    simp only [stepC] at hr ⊢
    split at hr
    · exact iha _ _ _ hr
    · exact ihb _ _ _ hr
    · cases hr
  | block id b ih =>
    intro t h r hr
    simp only [stepC] at hr ⊢
    split at hr
    · rename_i j t1 h1 ho; rw [ih _ _ _ ho]; exact hr
    · rename_i hne
      rw [ih _ _ _ hr]
      obtain ⟨e, t1, h1⟩ := r
      cases e with
      | exit j => exact absurd hr (hne j t1 h1)
      | normal => rfl
      | ret => rfl
  | loop b ih =>
    intro t h r hr
    simp only [stepC] at hr ⊢
    split at hr
    · rename_i t1 h1 ho; rw [ih _ _ _ ho]; exact hd _ _ _ _ hr
    · rename_i hne
      rw [ih _ _ _ hr]
      obtain ⟨e, t1, h1⟩ := r
      cases e with
      | normal => exact absurd hr (hne t1 h1)
      | exit id => rfl
      | ret => rfl
theorem enter_le {d d' : CodeF} (hd : LeC d d') {f : AFunc} {l : List AV} {h : AH} {r : AV × AH} (hr : enter d f l h = some r) : enter d' f l h = some r := by
  unfold enter at hr ⊢
  cases hb : Nat.beq l.length f.nargs with
  | false => rw [hb] at hr; cases hr
  | true =>
    rw [hb, cond_true] at hr
    rw [cond_true]
    split at hr
    · rename_i t1 h1 ho; rw [hd _ _ _ _ ho]; exact hr
    · rename_i t1 h1 ho; rw [hd _ _ _ _ ho]; exact hr
    · cases hr
theorem callG_le {F : Tr AFunc} {orc : Orc} {d d' : CodeF} (hd : LeC d d') : LeF (callG F orc d) (callG F orc d') := fun g l h r hr => by
  have e1 : ∀ d : CodeF, callG F orc d g l h = (match orc g with | some o => o l h | none => match F.get g with | some f => enter d f l h | none => none) := fun _ => rfl
  rw [e1] at hr ⊢
  cases ho : orc g with
  | some o => rw [ho] at hr; exact hr
  | none =>
    rw [ho] at hr
    cases hf : F.get g with
    | some f => rw [hf] at hr; exact enter_le hd hr
    | none => rw [hf] at hr; cases hr
theorem acodeG_le1 {F : Tr AFunc} {orc : Orc} : ∀ n, LeC (acodeG F orc n) (acodeG F orc (n + 1))
  | 0 => fun x t h r hr => by cases hr
  | n + 1 => stepC_le (callG_le (acodeG_le1 n)) (acodeG_le1 n)
theorem acodeG_le {F : Tr AFunc} {orc : Orc} {n m : Nat} (h : n ≤ m) : LeC (acodeG F orc n) (acodeG F orc m) := by
  induction h with
  | refl => exact fun _ _ _ _ h => h
  | step _ ih => exact fun x t h r hr => acodeG_le1 _ x t h r (ih x t h r hr)
theorem arunG_le {F : Tr AFunc} {orc : Orc} {n m : Nat} (h : n ≤ m) : LeF (arunG F orc n) (arunG F orc m) := callG_le (acodeG_le h)
end Go.AM
end
section
/- What a run of the abstract machine yields, said without fuel: rules to step through code. No condition. -/
namespace Go.AM
universe u

theorem beq_self' (n : Nat) : Nat.beq n n = true := by induction n with | zero => rfl | succ n ih => exact ih
/-! Memory: what is left as it was. -/

/-- Nothing lies beyond the end; nothing beyond it is hidden. -/
structure AH.ok (h : AH) : Prop where
  wf : h.wf
  hid : ∀ p ∈ h.hid, p.2 ≤ h.n

/-- Memory has grown; all that was there is as it was. -/
structure Ext (h h' : AH) : Prop where
  n : h.n ≤ h'.n
  hid : h'.hid = h.hid
  os : ∀ i, i < h.n → h'.os.get i = h.os.get i
  wm : ∀ k, k ≤ h.n → k ≤ h.wm → k ≤ h'.wm
  wf : h.wf → h'.wf

theorem Ext.refl (h : AH) : Ext h h := ⟨Nat.le_refl _, rfl, fun _ _ => rfl, fun _ _ h => h, id⟩
theorem Ext.trans {h h1 h2 : AH} (p : Ext h h1) (q : Ext h1 h2) : Ext h h2 :=
  ⟨Nat.le_trans p.n q.n, q.hid.trans p.hid, fun i hi => (q.os i (Nat.lt_of_lt_of_le hi p.n)).trans (p.os i hi), fun k a b => q.wm k (Nat.le_trans a p.n) (p.wm k a b), fun h => q.wf (p.wf h)⟩
theorem Ext.ok {h h' : AH} (p : Ext h h') (o : h.ok) : h'.ok := ⟨p.wf o.wf, fun q hq => Nat.le_trans (o.hid q (p.hid ▸ hq)) p.n⟩
theorem Ext.get {h h' : AH} (p : Ext h h') {i : Nat} (hi : i < h.n) : h'.get i = h.get i := by unfold AH.get; rw [p.hid, p.os i hi]
theorem AH.ok.lt {h : AH} (o : h.ok) {i : Nat} {x : AO} (hg : h.get i = some x) : i < h.n := AH.get_lt o.wf hg
theorem Ext.get_some {h h' : AH} (p : Ext h h') (o : h.ok) {i : Nat} {x : AO} (hg : h.get i = some x) : h'.get i = some x := by rw [p.get (o.lt hg)]; exact hg
theorem hiddenIn_ge : ∀ {l : List (Nat × Nat)} {n i : Nat}, (∀ p ∈ l, p.2 ≤ n) → n ≤ i → zca l i = false
  | [], _, _, _, _ => rfl
  | (a, b) :: r, n, i, h, hi => by
    have hb : b ≤ n := h (a, b) (by simp)
    have h1 : Nat.blt i b = false := by
      cases c : Nat.blt i b with
      | false => rfl
      | true => have := Nat.blt_eq.mp c; omega
    simp only [zca, h1, Bool.and_false, Bool.false_or]
    exact hiddenIn_ge (fun p hp => h p (by simp [hp])) hi
theorem AH.add_n (h : AH) (o : AO) : (h.add o).n = h.n + 1 := rfl
theorem AH.put_n (h : AH) (i : Nat) (o : AO) : (h.put i o).n = h.n := rfl
theorem AH.add_hid (h : AH) (o : AO) : (h.add o).hid = h.hid := rfl
theorem AH.put_hid (h : AH) (i : Nat) (o : AO) : (h.put i o).hid = h.hid := rfl
theorem AH.ok.add {h : AH} (k : h.ok) (o : AO) : (h.add o).ok := by
  refine ⟨fun x hx => ?_, fun p hp => Nat.le_succ_of_le (k.hid p hp)⟩
  have hx : h.n + 1 ≤ x := hx
  simp only [AH.add, Tr.get_set]; rw [if_neg (by omega)]; exact k.wf x (by omega)
theorem AH.ok.put {h : AH} (k : h.ok) {i : Nat} (hi : i < h.n) (o : AO) : (h.put i o).ok := by
  refine ⟨fun x hx => ?_, k.hid⟩
  have hx : h.n ≤ x := hx
  simp only [AH.put, Tr.get_set]; rw [if_neg (by omega)]; exact k.wf x hx
theorem AH.ok.new {h : AH} (k : h.ok) (o : AO) {i : Nat} (hi : i = h.n) : (h.add o).get i = some o := by
  rw [AH.get_add, if_pos hi, hiddenIn_ge k.hid (by omega)]; rfl
theorem AH.get_add_old {h : AH} (o : AO) {i : Nat} (hi : i < h.n) : (h.add o).get i = h.get i := by
  rw [AH.get_add, if_neg (by omega)]
theorem AH.get_put_other {h : AH} (o : AO) {i k : Nat} (hi : i ≠ k) : (h.put k o).get i = h.get i := by
  rw [AH.get_put, if_neg hi]
theorem AH.get_put_same {h : AH} {o' : AO} (o : AO) {k : Nat} (hg : h.get k = some o') : (h.put k o).get k = some o := by
  rw [AH.get_put, if_pos rfl, AH.hid_of_get hg]; rfl
theorem Ext.add {h h' : AH} (p : Ext h h') (o : AO) : Ext h (h'.add o) := by
  refine ⟨Nat.le_succ_of_le p.n, p.hid, fun i hi => ?_, p.wm, fun w => ?_⟩
  · have := p.n
    simp only [AH.add, Tr.get_set]; rw [if_neg (by omega)]; exact p.os i hi
  · intro x hx
    have hx : h'.n + 1 ≤ x := hx
    simp only [AH.add, Tr.get_set]; rw [if_neg (by omega)]; exact p.wf w x (by omega)
theorem Ext.put {h h' : AH} (p : Ext h h') {i : Nat} (o : AO) (h1 : h.n ≤ i) (h2 : i < h'.n) : Ext h (h'.put i o) := by
  refine ⟨p.n, p.hid, fun j hj => ?_, fun k a b => ?_, fun w x hx => ?_⟩
  · simp only [AH.put, Tr.get_set]; rw [if_neg (by omega)]; exact p.os j hj
  · have := p.wm k a b
    simp only [AH.put]
    cases Nat.ble h'.wm i with
    | true => exact this
    | false => show k ≤ i; omega
  · have hx : h'.n ≤ x := hx
    simp only [AH.put, Tr.get_set]; rw [if_neg (by omega)]; exact p.wf w x hx

/-- The mark, no higher than the end. -/
def AH.mark (h : AH) : AH := { h with wm := minN h.wm h.n }
theorem AH.mark_n (h : AH) : h.mark.n = h.n := rfl
theorem AH.mark_get (h : AH) (i : Nat) : h.mark.get i = h.get i := rfl
theorem AH.mark_hid (h : AH) : h.mark.hid = h.hid := rfl
theorem AH.ok.mark {h : AH} (k : h.ok) : h.mark.ok := ⟨k.wf, k.hid⟩
theorem Ext.mark {h h' : AH} (p : Ext h h') : Ext h h'.mark := by
  refine ⟨p.n, p.hid, p.os, fun k a b => ?_, p.wf⟩
  have h1 := p.wm k a b
  have h2 := p.n
  simp only [AH.mark, minN]
  cases Nat.ble h'.wm h'.n with
  | true => exact h1
  | false => show k ≤ h'.n; omega
/-- Back from a loose run. -/
def AH.back (h h' : AH) : AH := { h' with wm := minN h.wm h'.wm, hid := h.hid }
theorem AH.back_n (h h' : AH) : (h.back h').n = h'.n := rfl
theorem AH.ok.loose {h : AH} (k : h.ok) {hid : List (Nat × Nat)} (hh : ∀ p ∈ hid, p.2 ≤ h.n) : (h.loose hid).ok :=
  ⟨k.wf, fun p hp => by exact (List.mem_append.mp hp).elim (hh p) (k.hid p)⟩
theorem zaa (a b i : Nat) (r : List (Nat × Nat)) (h : i < a ∨ b ≤ i) : zca ((a, b) :: r) i = zca r i := by
  have : (Nat.ble a i && Nat.blt i b) = false := by
    cases c : Nat.ble a i with
    | false => rfl
    | true => cases d : Nat.blt i b with
      | false => rfl
      | true => have := Nat.le_of_ble_eq_true c; have := Nat.blt_eq.mp d; omega
  simp only [zca, this, Bool.false_or]
theorem AH.get_loose {h : AH} {hid : List (Nat × Nat)} {i : Nat} (hi : zca hid i = false) : (h.loose hid).get i = h.get i := by rw [AH.loose_get, hi]; rfl
theorem Ext.back {h0 h h' : AH} {hid : List (Nat × Nat)} (e0 : Ext h0 h) (p : Ext (h.loose hid) h') : Ext h0 (h.back h') := by
  refine ⟨Nat.le_trans e0.n p.n, e0.hid, fun i hi => (p.os i (Nat.lt_of_lt_of_le hi e0.n)).trans (e0.os i hi), fun k a b => ?_, fun w => p.wf (e0.wf w)⟩
  have h1 := e0.wm k a b
  have h2 := p.wm k (Nat.le_trans a e0.n) (Nat.le_trans a e0.n)
  simp only [AH.back, minN]
  cases Nat.ble h.wm h'.wm with
  | true => exact h1
  | false => exact h2
theorem AH.back_get {h h' : AH} {hid : List (Nat × Nat)} (p : Ext (h.loose hid) h') {i : Nat} {x : AO} (hg : h'.get i = some x) : (h.back h').get i = some x := by
  have h1 := AH.hid_of_get hg
  have h2 := AH.os_of_get hg
  rw [p.hid] at h1
  have h3 : zca (hid ++ h.hid) i = false := h1
  rw [hiddenIn_append, Bool.or_eq_false_iff] at h3
  show (bif zca h.hid i then none else h'.os.get i) = some x
  rw [h3.2]; exact h2

/-- Bound to what is still to come: so simp leaves that alone. -/
inductive Fx {α : Sort u} (f : α) : Type where
  | mk

/-! Runs without fuel. -/
section
variable (F : Tr AFunc) (orc : Orc)
def WF (g : Nat) (l : List AV) (h : AH) (Q : AV → AH → Prop) (_ : Fx Q := .mk) : Prop := ∃ n v h', arunG F orc n g l h = some (v, h') ∧ Q v h'
def WC (c : AC) (t : Tmps) (h : AH) (Q : AE → Tmps → AH → Prop) (_ : Fx Q := .mk) : Prop := ∃ n e t' h', acodeG F orc n c t h = some (e, t', h') ∧ Q e t' h'
def WR (l : List AOper) (t : Tmps) (h : AH) (Q : Tmps → AH → Prop) (_ : Fx Q := .mk) : Prop := ∃ n t' h', runReg (arunG F orc n) l t h = some (t', h') ∧ Q t' h'
def WD (l : List (Nat × AOper × Nat × Bool)) (m : List (Nat × List (Nat × Nat))) (t : Tmps) (h : AH) (Q : Tmps → AH → Prop) (_ : Fx Q := .mk) : Prop := ∃ n t' h', runDreg (arunG F orc n) l m t h = some (t', h') ∧ Q t' h'
def WO (o : AOp) (t : Tmps) (h : AH) (Q : AV → AH → Prop) (_ : Fx Q := .mk) : Prop := ∃ n v h', runOp (arunG F orc n) t h o = some (v, h') ∧ Q v h'
def WL (o : AOp) (t : Tmps) (h : AH) (hid : List (Nat × Nat)) (Q : AV → AH → Prop) (_ : Fx Q := .mk) : Prop := ∃ n v h', runLoose (arunG F orc n) t h hid o = some (v, h') ∧ Q v h'
end
section
variable {F : Tr AFunc} {orc : Orc}

theorem WF.mono {g : Nat} {l : List AV} {h : AH} {Q Q' : AV → AH → Prop} (w : WF F orc g l h Q) (hq : ∀ v h', Q v h' → Q' v h') : WF F orc g l h Q' := by
  obtain ⟨n, v, h', a, b⟩ := w; exact ⟨n, v, h', a, hq _ _ b⟩
theorem WC.mono {c : AC} {t : Tmps} {h : AH} {Q Q' : AE → Tmps → AH → Prop} (w : WC F orc c t h Q) (hq : ∀ e t' h', Q e t' h' → Q' e t' h') : WC F orc c t h Q' := by
  obtain ⟨n, e, t', h', a, b⟩ := w; exact ⟨n, e, t', h', a, hq _ _ _ b⟩
theorem WR.mono {l : List AOper} {t : Tmps} {h : AH} {Q Q' : Tmps → AH → Prop} (w : WR F orc l t h Q) (hq : ∀ t' h', Q t' h' → Q' t' h') : WR F orc l t h Q' := by
  obtain ⟨n, t', h', a, b⟩ := w; exact ⟨n, t', h', a, hq _ _ b⟩
theorem WO.mono {o : AOp} {t : Tmps} {h : AH} {Q Q' : AV → AH → Prop} (w : WO F orc o t h Q) (hq : ∀ v h', Q v h' → Q' v h') : WO F orc o t h Q' := by
  obtain ⟨n, v, h', a, b⟩ := w; exact ⟨n, v, h', a, hq _ _ b⟩

def seqK (F : Tr AFunc) (orc : Orc) (b : AC) (Q : AE → Tmps → AH → Prop) : AE → Tmps → AH → Prop
  | .normal, t, h => WC F orc b t h Q
  | .exit i, t, h => Q (.exit i) t h
  | .ret, t, h => Q .ret t h
def blockK (id : Nat) (Q : AE → Tmps → AH → Prop) : AE → Tmps → AH → Prop
  | .normal, t, h => Q .normal t h
  | .exit i, t, h => if i = id then Q .normal t h else Q (.exit i) t h
  | .ret, t, h => Q .ret t h
def loopK (F : Tr AFunc) (orc : Orc) (b : AC) (Q : AE → Tmps → AH → Prop) : AE → Tmps → AH → Prop
  | .normal, t, h => WC F orc (.loop b) t h Q
  | .exit i, t, h => Q (.exit i) t h
  | .ret, t, h => Q .ret t h
def condP (v : AV) (P R : Prop) (_ : Fx P := .mk) (_ : Fx R := .mk) : Prop := match v with
  | .b true => P
  | .b false => R
  | _ => False
def optP {α : Type} (x : Option α) (f : α → Prop) (_ : Fx f := .mk) : Prop := ∃ a, x = some a ∧ f a
theorem zbd {α : Type} (a : α) (f : α → Prop) : optP (some a) f ↔ f a := ⟨fun ⟨_, e, h⟩ => by cases e; exact h, fun h => ⟨a, rfl, h⟩⟩
theorem zar {α : Type} (f : α → Prop) : optP none f ↔ False := ⟨fun ⟨_, e, _⟩ => (by cases e), False.elim⟩

theorem le_l {n m : Nat} : LeC (acodeG F orc n) (acodeG F orc (Nat.max n m)) := acodeG_le (Nat.le_max_left n m)
theorem le_r {n m : Nat} : LeC (acodeG F orc m) (acodeG F orc (Nat.max n m)) := acodeG_le (Nat.le_max_right n m)

theorem wc_intro {c : AC} {t : Tmps} {h : AH} {Q : AE → Tmps → AH → Prop} : WC F orc c t h Q ↔ ∃ n e t' h', stepC (arunG F orc n) (acodeG F orc n) c t h = some (e, t', h') ∧ Q e t' h' := by
  constructor
  · rintro ⟨n, e, t', h', a, b⟩
    cases n with
    | zero => cases a
    | succ n => exact ⟨n, e, t', h', a, b⟩
  · rintro ⟨n, e, t', h', a, b⟩; exact ⟨n + 1, e, t', h', a, b⟩
theorem qcs {t : Tmps} {h : AH} {Q : AE → Tmps → AH → Prop} : WC F orc .skip t h Q ↔ Q .normal t h := by
  rw [wc_intro]; exact ⟨fun ⟨n, e, t', h', a, b⟩ => by cases a; exact b, fun k => ⟨0, _, _, _, rfl, k⟩⟩
theorem zcl {i : Nat} {t : Tmps} {h : AH} {Q : AE → Tmps → AH → Prop} : WC F orc (.exit i) t h Q ↔ Q (.exit i) t h := by
  rw [wc_intro]; exact ⟨fun ⟨n, e, t', h', a, b⟩ => by cases a; exact b, fun k => ⟨0, _, _, _, rfl, k⟩⟩
theorem zdl {t : Tmps} {h : AH} {Q : AE → Tmps → AH → Prop} : WC F orc .ret t h Q ↔ Q .ret t h := by
  rw [wc_intro]; exact ⟨fun ⟨n, e, t', h', a, b⟩ => by cases a; exact b, fun k => ⟨0, _, _, _, rfl, k⟩⟩
theorem zdx {l : List AOper} {t : Tmps} {h : AH} {Q : AE → Tmps → AH → Prop} : WC F orc (.reg l) t h Q ↔ WR F orc l t h (Q .normal) := by
  rw [wc_intro]
  constructor
  · rintro ⟨n, e, t', h', a, b⟩
    simp only [stepC] at a
    split at a
    · rename_i t1 h1 hr; cases a; exact ⟨n, _, _, hr, b⟩
    · cases a
  · rintro ⟨n, t', h', a, b⟩
    exact ⟨n, _, _, _, by simp only [stepC]; rw [a], b⟩
theorem zcp {l : List (Nat × AOper × Nat × Bool)} {t : Tmps} {h : AH} {Q : AE → Tmps → AH → Prop} : WC F orc (.dreg l) t h Q ↔ WD F orc l [] t h (Q .normal) := by
  rw [wc_intro]
  constructor
  · rintro ⟨n, e, t', h', a, b⟩
    simp only [stepC] at a
    split at a
    · rename_i t1 h1 hr; cases a; exact ⟨n, _, _, hr, b⟩
    · cases a
  · rintro ⟨n, t', h', a, b⟩
    exact ⟨n, _, _, _, by simp only [stepC]; rw [a], b⟩
theorem qdv {a b : AC} {t : Tmps} {h : AH} {Q : AE → Tmps → AH → Prop} : WC F orc (.seq a b) t h Q ↔ WC F orc a t h (seqK F orc b Q) := by
  constructor
  · intro w
    obtain ⟨n, e, t', h', r, q⟩ := wc_intro.mp w
    simp only [stepC] at r
    split at r
    · rename_i t1 h1 hr
      exact wc_intro.mpr ⟨n, _, _, _, hr, wc_intro.mpr ⟨n, _, _, _, r, q⟩⟩
    · rename_i hne
      refine wc_intro.mpr ⟨n, _, _, _, r, ?_⟩
      cases e with
      | normal => exact absurd r (hne t' h')
      | exit i => exact q
      | ret => exact q
  · rintro ⟨n, e, t1, h1, r, q⟩
    cases e with
    | normal =>
      obtain ⟨m, e, t2, h2, r2, q2⟩ := q
      refine wc_intro.mpr ⟨Nat.max n m, e, t2, h2, ?_, q2⟩
      simp only [stepC]
      rw [← acodeG_succ, acodeG_le1 _ _ _ _ _ (le_l _ _ _ _ r)]
      exact acodeG_le1 _ _ _ _ _ (le_r _ _ _ _ r2)
    | exit i =>
      refine wc_intro.mpr ⟨n, _, _, _, ?_, q⟩
      simp only [stepC]
      rw [← acodeG_succ, acodeG_le1 _ _ _ _ _ r]
    | ret =>
      refine wc_intro.mpr ⟨n, _, _, _, ?_, q⟩
      simp only [stepC]
      rw [← acodeG_succ, acodeG_le1 _ _ _ _ _ r]
theorem qdb {c : AX} {a b : AC} {t : Tmps} {h : AH} {Q : AE → Tmps → AH → Prop} : WC F orc (.cond c a b) t h Q ↔ condP (c.ev t) (WC F orc a t h Q) (WC F orc b t h Q) := by
  constructor
  · intro w
    obtain ⟨n, e, t', h', r, q⟩ := wc_intro.mp w
    simp only [stepC] at r
    split at r
    · rename_i hc; rw [hc]; exact wc_intro.mpr ⟨n, _, _, _, r, q⟩
    · rename_i hc; rw [hc]; exact wc_intro.mpr ⟨n, _, _, _, r, q⟩
    · cases r
  · intro w
    unfold condP at w
    split at w
    · rename_i hc
      obtain ⟨n, e, t', h', r, q⟩ := wc_intro.mp w
      exact wc_intro.mpr ⟨n, _, _, _, by simp only [stepC, hc]; exact r, q⟩
    · rename_i hc
      obtain ⟨n, e, t', h', r, q⟩ := wc_intro.mp w
      exact wc_intro.mpr ⟨n, _, _, _, by simp only [stepC, hc]; exact r, q⟩
    · exact w.elim
theorem zbm {id : Nat} {b : AC} {t : Tmps} {h : AH} {Q : AE → Tmps → AH → Prop} : WC F orc (.block id b) t h Q ↔ WC F orc b t h (blockK id Q) := by
  constructor
  · intro w
    obtain ⟨n, e, t', h', r, q⟩ := wc_intro.mp w
    simp only [stepC] at r
    split at r
    · rename_i j t1 h1 hr
      refine wc_intro.mpr ⟨n, _, _, _, hr, ?_⟩
      injection r with r; injection r with r1 r2; injection r2 with r2 r3; subst r2; subst r3
      simp only [blockK]
      by_cases c : j = id
      · subst c; rw [beq_self'] at r1; simp only [cond_true] at r1; subst r1; simpa using q
      · have : Nat.beq j id = false := by
          cases d : Nat.beq j id with
          | false => rfl
          | true => exact absurd (Nat.eq_of_beq_eq_true d) c
        rw [this] at r1; simp only [cond_false] at r1; subst r1; rw [if_neg c]; exact q
    · rename_i hne
      refine wc_intro.mpr ⟨n, _, _, _, r, ?_⟩
      cases e with
      | exit j => exact absurd r (hne j t' h')
      | normal => exact q
      | ret => exact q
  · intro w
    obtain ⟨n, e, t1, h1, r, q⟩ := wc_intro.mp w
    cases e with
    | normal => exact wc_intro.mpr ⟨n, _, _, _, by simp only [stepC]; rw [r], q⟩
    | ret => exact wc_intro.mpr ⟨n, _, _, _, by simp only [stepC]; rw [r], q⟩
    | exit j =>
      refine wc_intro.mpr ⟨n, (bif Nat.beq j id then .normal else .exit j), _, _, by simp only [stepC]; rw [r], ?_⟩
      simp only [blockK] at q
      by_cases c : j = id
      · subst c; rw [if_pos rfl] at q; rw [beq_self']; exact q
      · have : Nat.beq j id = false := by
          cases d : Nat.beq j id with
          | false => rfl
          | true => exact absurd (Nat.eq_of_beq_eq_true d) c
        rw [if_neg c] at q; rw [this]; exact q
theorem wc_loop {b : AC} {t : Tmps} {h : AH} {Q : AE → Tmps → AH → Prop} : WC F orc (.loop b) t h Q ↔ WC F orc b t h (loopK F orc b Q) := by
  constructor
  · intro w
    obtain ⟨n, e, t', h', r, q⟩ := wc_intro.mp w
    simp only [stepC] at r
    split at r
    · rename_i t1 h1 hr
      exact wc_intro.mpr ⟨n, _, _, _, hr, ⟨n, _, _, _, r, q⟩⟩
    · rename_i hne
      refine wc_intro.mpr ⟨n, _, _, _, r, ?_⟩
      cases e with
      | normal => exact absurd r (hne t' h')
      | exit i => exact q
      | ret => exact q
  · rintro ⟨n, e, t1, h1, r, q⟩
    cases e with
    | normal =>
      obtain ⟨m, e, t2, h2, r2, q2⟩ := q
      refine wc_intro.mpr ⟨Nat.max n m, e, t2, h2, ?_, q2⟩
      simp only [stepC]
      rw [← acodeG_succ, acodeG_le1 _ _ _ _ _ (le_l _ _ _ _ r)]
      exact le_r _ _ _ _ r2
    | exit i =>
      refine wc_intro.mpr ⟨n, _, _, _, ?_, q⟩
      simp only [stepC]
      rw [← acodeG_succ, acodeG_le1 _ _ _ _ _ r]
    | ret =>
      refine wc_intro.mpr ⟨n, _, _, _, ?_, q⟩
      simp only [stepC]
      rw [← acodeG_succ, acodeG_le1 _ _ _ _ _ r]
/-- A loop whose rounds grow fewer. -/
theorem WC.loop {b : AC} {Q : AE → Tmps → AH → Prop} (I : Nat → Tmps → AH → Prop)
    (hb : ∀ k t h, I k t h → WC F orc b t h (fun e t' h' => match e with | .normal => ∃ k', k' < k ∧ I k' t' h' | .exit i => Q (.exit i) t' h' | .ret => Q .ret t' h')) :
    ∀ {k : Nat} {t : Tmps} {h : AH}, I k t h → WC F orc (.loop b) t h Q := by
  intro k
  induction k using Nat.strongRecOn with
  | _ k ih =>
    intro t h hi
    refine wc_loop.mpr ((hb k t h hi).mono fun e t' h' q => ?_)
    cases e with
    | normal => obtain ⟨k', hk, hi'⟩ := q; exact ih k' hk hi'
    | exit i => exact q
    | ret => exact q

theorem arunG_le' {n m : Nat} (h : n ≤ m) : LeF (arunG F orc n) (arunG F orc m) := arunG_le h
theorem zdz {t : Tmps} {h : AH} {Q : Tmps → AH → Prop} : WR F orc [] t h Q ↔ Q t h :=
  ⟨fun ⟨n, t', h', a, b⟩ => by cases a; exact b, fun k => ⟨0, _, _, rfl, k⟩⟩
theorem wr_run {o : AOper} {r : List AOper} {t : Tmps} {h : AH} {Q : Tmps → AH → Prop} (hw : wantedA t o.guard = true) : WR F orc (o :: r) t h Q ↔ WO F orc o.op t h (fun v h' => WR F orc r (putD t o.dst v) h' Q) := by
  constructor
  · rintro ⟨n, t', h', a, b⟩
    simp only [runReg, hw, cond_true] at a
    split at a
    · rename_i v h1 ho; exact ⟨n, v, h1, ho, n, _, _, a, b⟩
    · cases a
  · rintro ⟨n, v, h1, ho, m, t', h', a, b⟩
    refine ⟨Nat.max n m, t', h', ?_, b⟩
    simp only [runReg, hw, cond_true]
    rw [runOp_le (arunG_le (Nat.le_max_left n m)) ho]
    exact runReg_le (arunG_le (Nat.le_max_right n m)) a
theorem zcg {d : Option Sl} {o : AOp} {r : List AOper} {t : Tmps} {h : AH} {Q : Tmps → AH → Prop} : WR F orc (⟨d, o, none⟩ :: r) t h Q ↔ WO F orc o t h (fun v h' => WR F orc r (putD t d v) h' Q) := wr_run rfl
def guardP (v : AV) (w : Bool) (P R : Prop) (_ : Fx P := .mk) (_ : Fx R := .mk) : Prop := match v with
  | .b v => if v = w then P else R
  | _ => R
theorem zbt {d : Option Sl} {o : AOp} {r : List AOper} {t : Tmps} {h : AH} {Q : Tmps → AH → Prop} {s : Sl} {w : Bool} : WR F orc (⟨d, o, some (s, w)⟩ :: r) t h Q ↔ guardP (tget t s) w (WO F orc o t h (fun v h' => WR F orc r (putD t d v) h' Q)) (WR F orc r (putD t d und) h Q) := by
  cases hw : wantedA t (some (s, w)) with
  | true =>
    rw [wr_run hw]
    simp only [wantedA] at hw
    split at hw
    · rename_i v hv
      have : v = w := by simpa using hw
      rw [hv]; simp only [guardP, if_pos this]
    · cases hw
  | false =>
    have e : WR F orc (⟨d, o, some (s, w)⟩ :: r) t h Q ↔ WR F orc r (putD t d und) h Q := by
      constructor <;> (rintro ⟨n, t', h', a, b⟩; refine ⟨n, t', h', ?_, b⟩; simpa only [runReg, hw, cond_false] using a)
    rw [e]
    simp only [wantedA] at hw
    split at hw
    · rename_i v hv
      have : ¬ v = w := by simpa using hw
      rw [hv]; simp only [guardP, if_neg this]
    · rename_i hv
      cases hv2 : tget t s with
      | b v => exact absurd hv2 (hv v)
      | _ => rfl

theorem wo_call {f : AX} {args : List AX} {t : Tmps} {h : AH} {Q : AV → AH → Prop} : WO F orc (.call f args) t h Q ↔ ∃ g caps, f.ev t = .fn g caps ∧ WF F orc g (evs t args ++ caps) h Q := by
  constructor
  · rintro ⟨n, v, h', a, b⟩
    simp only [runOp] at a
    split at a
    · rename_i g caps hf; exact ⟨g, caps, hf, n, v, h', a, b⟩
    · cases a
  · rintro ⟨g, caps, hf, n, v, h', a, b⟩
    exact ⟨n, v, h', by simp only [runOp, hf]; exact a, b⟩
theorem zbn {g : Nat} {args : List AX} {t : Tmps} {h : AH} {Q : AV → AH → Prop} : WO F orc (.call (.c (.fn g [])) args) t h Q ↔ WF F orc g (evs t args) h Q := by
  rw [wo_call]; constructor
  · rintro ⟨g', caps, e, k⟩; injection e with e1 e2; subst e1; subst e2; simpa using k
  · intro k; exact ⟨g, [], rfl, by simpa using k⟩
theorem wo_op {o : AOp} (hc : isCall o = false) {t : Tmps} {h : AH} {Q : AV → AH → Prop} : WO F orc o t h Q ↔ optP (aopD t h o) (fun p => Q p.1 (p.2.on h)) := by
  have e : ∀ n, runOp (arunG F orc n) t h o = aop t h o := fun n => by cases o <;> first | rfl | cases hc
  unfold WO optP
  constructor
  · rintro ⟨n, v, h', a, b⟩
    rw [e, aop] at a
    split at a
    · rename_i v1 d hd; cases a; exact ⟨(v, d), hd, b⟩
    · cases a
  · rintro ⟨⟨v, d⟩, hd, b⟩
    exact ⟨0, v, d.on h, by rw [e, aop, hd], b⟩
end
end Go.AM
end
section
/- Rules for single operations, as equivalences. No condition. -/
namespace Go.AM
section
variable {F : Tr AFunc} {orc : Orc}

/-! Regions whose order is open. -/
theorem zef {m : List (Nat × List (Nat × Nat))} {t : Tmps} {h : AH} {Q : Tmps → AH → Prop} : WD F orc [] m t h Q ↔ Q t h :=
  ⟨fun ⟨n, t', h', a, b⟩ => by cases a; exact b, fun k => ⟨0, _, _, rfl, k⟩⟩
theorem wd_now' {k pre : Nat} {bar : Bool} {o : AOper} {r : List (Nat × AOper × Nat × Bool)} {m : List (Nat × List (Nat × Nat))} {t : Tmps} {h : AH} {Q : Tmps → AH → Prop} (hw : wantedA t o.guard = true) (hb : (bar || isPure o.op) = true) :
    WD F orc ((k, o, pre, bar) :: r) m t h Q ↔ WO F orc o.op t h (fun v h' => WD F orc r m (putD t o.dst v) h' Q) := by
  constructor
  · rintro ⟨n, t', h', a, b⟩
    simp only [runDreg, hw, hb, cond_true] at a
    split at a
    · rename_i v h1 ho; exact ⟨n, v, h1, ho, n, _, _, a, b⟩
    · cases a
  · rintro ⟨n, v, h1, ho, m', t', h', a, b⟩
    refine ⟨Nat.max n m', t', h', ?_, b⟩
    simp only [runDreg, hw, hb, cond_true]
    rw [runOp_le (arunG_le (Nat.le_max_left n m')) ho]
    exact runDreg_le (arunG_le (Nat.le_max_right n m')) a
theorem wd_loose' {k pre : Nat} {bar : Bool} {o : AOper} {r : List (Nat × AOper × Nat × Bool)} {m : List (Nat × List (Nat × Nat))} {t : Tmps} {h : AH} {Q : Tmps → AH → Prop} (hw : wantedA t o.guard = true) (hb : (bar || isPure o.op) = false) :
    WD F orc ((k, o, pre, bar) :: r) m t h Q ↔ WL F orc o.op t h (hideOf pre m) (fun v h' => WD F orc r ((k, (h.n, h'.n) :: targetC t h.n o.op) :: m) (putD t o.dst v) h' Q) := by
  constructor
  · rintro ⟨n, t', h', a, b⟩
    simp only [runDreg, hw, hb, cond_true, cond_false] at a
    split at a
    · rename_i v h1 ho; exact ⟨n, v, h1, ho, n, _, _, a, b⟩
    · cases a
  · rintro ⟨n, v, h1, ho, m', t', h', a, b⟩
    refine ⟨Nat.max n m', t', h', ?_, b⟩
    simp only [runDreg, hw, hb, cond_true, cond_false]
    rw [runLoose_le (arunG_le (Nat.le_max_left n m')) ho]
    exact runDreg_le (arunG_le (Nat.le_max_right n m')) a
def nowP (F : Tr AFunc) (orc : Orc) (b : Bool) (k pre : Nat) (o : AOp) (d : Option Sl) (r : List (Nat × AOper × Nat × Bool)) (m : List (Nat × List (Nat × Nat))) (t : Tmps) (h : AH) (Q : Tmps → AH → Prop) (_ : Fx Q := .mk) : Prop :=
  match b with
  | true => WO F orc o t h (fun v h' => WD F orc r m (putD t d v) h' Q)
  | false => WL F orc o t h (hideOf pre m) (fun v h' => WD F orc r ((k, (h.n, h'.n) :: targetC t h.n o) :: m) (putD t d v) h' Q)
theorem zaw (k pre : Nat) (o : AOp) (d : Option Sl) (r : List (Nat × AOper × Nat × Bool)) (m : List (Nat × List (Nat × Nat))) (t : Tmps) (h : AH) (Q : Tmps → AH → Prop) :
    nowP F orc true k pre o d r m t h Q ↔ WO F orc o t h (fun v h' => WD F orc r m (putD t d v) h' Q) := Iff.rfl
theorem qah (k pre : Nat) (o : AOp) (d : Option Sl) (r : List (Nat × AOper × Nat × Bool)) (m : List (Nat × List (Nat × Nat))) (t : Tmps) (h : AH) (Q : Tmps → AH → Prop) :
    nowP F orc false k pre o d r m t h Q ↔ WL F orc o t h (hideOf pre m) (fun v h' => WD F orc r ((k, (h.n, h'.n) :: targetC t h.n o) :: m) (putD t d v) h' Q) := Iff.rfl
theorem qch {k pre : Nat} {bar : Bool} {d : Option Sl} {o : AOp} {r : List (Nat × AOper × Nat × Bool)} {m : List (Nat × List (Nat × Nat))} {t : Tmps} {h : AH} {Q : Tmps → AH → Prop} :
    WD F orc ((k, ⟨d, o, none⟩, pre, bar) :: r) m t h Q ↔ nowP F orc (bar || isPure o) k pre o d r m t h Q := by
  cases hb : bar || isPure o with
  | true => exact wd_now' (o := ⟨d, o, none⟩) rfl hb
  | false => exact wd_loose' (o := ⟨d, o, none⟩) rfl hb
theorem qbv {k pre : Nat} {bar : Bool} {d : Option Sl} {o : AOp} {s : Sl} {w : Bool} {r : List (Nat × AOper × Nat × Bool)} {m : List (Nat × List (Nat × Nat))} {t : Tmps} {h : AH} {Q : Tmps → AH → Prop} :
    WD F orc ((k, ⟨d, o, some (s, w)⟩, pre, bar) :: r) m t h Q ↔ guardP (tget t s) w (nowP F orc (bar || isPure o) k pre o d r m t h Q) (WD F orc r m (putD t d und) h Q) := by
  cases hw : wantedA t (some (s, w)) with
  | true =>
    have e : WD F orc ((k, ⟨d, o, some (s, w)⟩, pre, bar) :: r) m t h Q ↔ nowP F orc (bar || isPure o) k pre o d r m t h Q := by
      cases hb : bar || isPure o with
      | true => exact wd_now' (o := ⟨d, o, some (s, w)⟩) hw hb
      | false => exact wd_loose' (o := ⟨d, o, some (s, w)⟩) hw hb
    rw [e]
    simp only [wantedA] at hw
    split at hw
    · rename_i v hv
      have : v = w := by simpa using hw
      rw [hv]; simp only [guardP, if_pos this]
    · cases hw
  | false =>
    have e : WD F orc ((k, ⟨d, o, some (s, w)⟩, pre, bar) :: r) m t h Q ↔ WD F orc r m (putD t d und) h Q := by
      constructor <;> (rintro ⟨n, t', h', a, b⟩; refine ⟨n, t', h', ?_, b⟩; simpa only [runDreg, hw, cond_false] using a)
    rw [e]
    simp only [wantedA] at hw
    cases hv : tget t s with
    | b v => rw [hv] at hw; have : ¬ v = w := by simpa using hw
             simp only [guardP, if_neg this]
    | _ => rfl

theorem back_on {h : AH} {hid : List (Nat × Nat)} (d : HD) : h.back (d.on (h.loose hid)) = d.on h.mark := by
  have e : ∀ i, minN h.wm (bif Nat.ble h.n i then h.n else i) = (bif Nat.ble (minN h.wm h.n) i then minN h.wm h.n else i) := fun i => by
    simp only [minN]
    cases c1 : Nat.ble h.n i <;> cases c2 : Nat.ble h.wm h.n <;> simp only [cond_true, cond_false, c1, c2]
    · have := Nat.not_le_of_not_ble_eq_true (n := h.n) (m := i) (by simp [c1])
      have := Nat.not_le_of_not_ble_eq_true (n := h.wm) (m := h.n) (by simp [c2])
      have c3 : Nat.ble h.wm i = false := by
        cases c : Nat.ble h.wm i with
        | false => rfl
        | true => have := Nat.le_of_ble_eq_true c; omega
      simp only [c3, cond_false]
    · have := Nat.le_of_ble_eq_true c1
      have := Nat.le_of_ble_eq_true c2
      have c3 : Nat.ble h.wm i = true := Nat.ble_eq_true_of_le (by omega)
      simp only [c3, cond_true]
  cases d with
  | same => rfl
  | add o => rfl
  | put i o => simp only [HD.on, AH.put, AH.back, AH.loose, AH.mark, e]
  | kadd i o => simp only [HD.on, AH.put, AH.add, AH.back, AH.loose, AH.mark, e]

theorem wl_op {o : AOp} (hc : isCall o = false) {t : Tmps} {h : AH} {hid : List (Nat × Nat)} {Q : AV → AH → Prop} :
    WL F orc o t h hid Q ↔ optP (aopD t (h.loose (bif isNew o then [(0, h.n)] else hid)) o) (fun p => Q p.1 (p.2.on h.mark)) := by
  have e : ∀ n (h : AH), runOp (arunG F orc n) t h o = aop t h o := fun n h => by cases o <;> first | rfl | cases hc
  have key : ∀ v d, aopD t (h.loose (bif isNew o then [(0, h.n)] else hid)) o = some (v, d) → (isWrite o || Nat.ble h.n (d.on (h.loose (bif isNew o then [(0, h.n)] else hid))).wm) = true := fun v d hd => by
    rcases shape hd with rfl | ⟨o', rfl, _⟩ | ⟨k, o', o0, _, hwr, _⟩
    · simp [HD.on, AH.loose]
    · simp [HD.on, AH.loose, AH.add]
    · simp [hwr]
  unfold WL optP
  constructor
  · rintro ⟨n, v, h', a, b⟩
    obtain ⟨h1, ho, _, rfl⟩ := runLoose_eq a
    rw [e, aop] at ho
    split at ho
    · rename_i v1 d hd
      cases ho
      refine ⟨(v, d), hd, ?_⟩
      show Q v (d.on h.mark)
      rw [← back_on (hid := bif isNew o then [(0, h.n)] else hid)]; exact b
    · cases ho
  · rintro ⟨⟨v, d⟩, hd, b⟩
    refine ⟨0, v, _, ?_, b⟩
    have e1 : runOp (arunG F orc 0) t { h with wm := h.n, hid := (bif isNew o then [(0, h.n)] else hid) ++ h.hid } o = some (v, d.on (h.loose (bif isNew o then [(0, h.n)] else hid))) := by
      rw [e]; show aop t (h.loose _) o = _
      rw [aop, hd]
    unfold runLoose
    rw [e1]
    simp only [key v d hd, cond_true]
    rw [← back_on (hid := bif isNew o then [(0, h.n)] else hid)]; rfl
theorem WL.call {f : AX} {args : List AX} {t : Tmps} {h : AH} {hid : List (Nat × Nat)} {Q : AV → AH → Prop} {g : Nat} {caps : List AV} (hf : f.ev t = .fn g caps)
    (hw : WF F orc g (evs t args ++ caps) (h.loose hid) (fun v h' => Ext (h.loose hid) h' ∧ Q v (h.back h'))) : WL F orc (.call f args) t h hid Q := by
  obtain ⟨n, v, h', a, e, b⟩ := hw
  refine ⟨n, v, h.back h', ?_, b⟩
  have e1 : runOp (arunG F orc n) t { h with wm := h.n, hid := (bif isNew (.call f args) then [(0, h.n)] else hid) ++ h.hid } (.call f args) = some (v, h') := by
    simp only [runOp, hf]; exact a
  unfold runLoose
  rw [e1]
  have : Nat.ble h.n h'.wm = true := Nat.ble_eq_true_of_le (e.wm h.n (Nat.le_refl _) (Nat.le_refl _))
  simp only [this, Bool.or_true, cond_true]; rfl

/-! Operations. -/
theorem zey (t : Tmps) (s : Sl) : AX.ev t (.t s) = tget t s := rfl
theorem qfb (t : Tmps) (v : AV) : AX.ev t (.c v) = v := rfl
theorem qcg (t : Tmps) : evs t [] = [] := rfl
theorem zbi (t : Tmps) (x : AX) (r : List AX) : evs t (x :: r) = x.ev t :: evs t r := rfl
theorem qbx (t : Tmps) (s : Sl) (v : AV) : putD t (some s) v = tset t s v := rfl
theorem zcb (t : Tmps) (v : AV) : putD t none v = t := rfl
theorem qav (t : Tmps) (s : Sl) (v : AV) : tget (tset t s v) s = v := by rw [tget_tset, if_pos rfl]
theorem qco (t : Tmps) (s r : Sl) (v : AV) (h : s ≠ r) : tget (tset t s v) r = tget t r := by rw [tget_tset, if_neg h]

def loadO (o : Option AO) (n off : Nat) : Option (List AV) := match o with | some (.cells _ vs) => cut off n vs | _ => none
theorem qac (rw : Bool) (vs : List AV) (n off : Nat) : loadO (some (.cells rw vs)) n off = cut off n vs := rfl
theorem qaq (h : AH) (n id off : Nat) : loadN h n (.ptr id off) = loadO (h.get id) n off := rfl
def oneP (l : List AV) (f : AV → Prop) (_ : Fx f := .mk) : Prop := match l with | [v] => f v | _ => False
theorem qcb (v : AV) (f : AV → Prop) : oneP [v] f ↔ f v := Iff.rfl
def stO (o : Option AO) (n off : Nat) (v : AV) (f : AO → Prop) (_ : Fx f := .mk) : Prop := match o with | some (.cells true vs) => v.flat.length = n ∧ optP (splice off v.flat vs) fun vs' => f (.cells true vs') | _ => False
theorem qay (vs : List AV) (n off : Nat) (v : AV) (f : AO → Prop) : stO (some (.cells true vs)) n off v f ↔ v.flat.length = n ∧ optP (splice off v.flat vs) fun vs' => f (.cells true vs') := Iff.rfl
def stP (h : AH) (n : Nat) (a v : AV) (f : HD → Prop) (_ : Fx f := .mk) : Prop := match a with | .ptr id off => stO (h.get id) n off v (fun o => f (.put id o)) | _ => False
theorem qcx (h : AH) (n id off : Nat) (v : AV) (f : HD → Prop) : stP h n (.ptr id off) v f ↔ stO (h.get id) n off v (fun o => f (.put id o)) := Iff.rfl
def ptrP (v : AV) (f : Nat → Nat → Prop) (_ : Fx f := .mk) : Prop := match v with | .ptr id off => f id off | _ => False
theorem zbg (id off : Nat) (f : Nat → Nat → Prop) : ptrP (.ptr id off) f ↔ f id off := Iff.rfl
def aggP (v : AV) (f : List AV → Prop) (_ : Fx f := .mk) : Prop := match v with | .agg l => f l | _ => False
theorem qbu (l : List AV) (f : List AV → Prop) : aggP (.agg l) f ↔ f l := Iff.rfl
def tupP (v : AV) (f : List AV → Prop) (_ : Fx f := .mk) : Prop := match v with | .tup l => f l | _ => False
theorem zbx (l : List AV) (f : List AV → Prop) : tupP (.tup l) f ↔ f l := Iff.rfl
def aLen : AV → Option AV
  | .nils => some (.i .i64 0)
  | .sl _ _ n _ _ => some (.i .i64 n)
  | _ => none
theorem qbb : aLen .nils = some (.i .i64 0) := rfl
theorem qcd (id off n : Nat) (c : Option Nat) (es : Nat) : aLen (.sl id off n c es) = some (.i .i64 n) := rfl
/-- An element's place. -/
def aIdxa (es : Nat) : AV → AV → Option AV
  | .sl id off len _ es', .i _ x => if es = es' ∧ 0 ≤ x ∧ x < len then some (.ptr id (off + x.toNat * es)) else none
  | _, _ => none
def aIdxp (len es : Nat) : AV → AV → Option AV
  | .ptr id off, .i _ x => if 0 ≤ x ∧ x < len then some (.ptr id (off + x.toNat * es)) else none
  | _, _ => none
theorem qbw {es id off len : Nat} {c : Option Nat} {k : IntKind} {x : Int} (h : 0 ≤ x ∧ x < len) : aIdxa es (.sl id off len c es) (.i k x) = some (.ptr id (off + x.toNat * es)) :=
  if_pos ⟨rfl, h⟩
theorem zao {es id off len : Nat} {k : IntKind} {x : Int} (h : 0 ≤ x ∧ x < len) : aIdxp len es (.ptr id off) (.i k x) = some (.ptr id (off + x.toNat * es)) :=
  if_pos h

theorem op_idxa_eq (t : Tmps) (h : AH) (es : Nat) (x i : AX) : op_idxa t h es x i = (aIdxa es (x.ev t) (i.ev t)).map (fun v => (v, .same)) := by
  unfold op_idxa
  split
  · rename_i id off len c es' k n hx hi
    rw [hx, hi]
    cases hb : Nat.beq es es' && Nat.blt n len with
    | true =>
      simp only [Bool.and_eq_true] at hb
      have h1 := Nat.eq_of_beq_eq_true hb.1
      have h2 := Nat.blt_eq.mp hb.2
      simp only [aIdxa, cond_true]
      rw [if_pos ⟨h1, Int.natCast_nonneg n, Int.ofNat_lt.mpr h2⟩]; rfl
    | false =>
      simp only [aIdxa, cond_false]
      rw [if_neg]; rfl
      rintro ⟨h1, _, h2⟩
      have h3 : n < len := Int.ofNat_lt.mp h2
      subst h1
      rw [show Nat.beq es es = true from beq_self' es, Nat.blt_eq.mpr h3] at hb; cases hb
  · rename_i hne
    generalize x.ev t = a at hne ⊢
    generalize i.ev t = b at hne ⊢
    cases a <;> try rfl
    cases b <;> try rfl
    rename_i id off len c es' k n
    cases n with
    | ofNat n => exact absurd rfl (hne id off len c es' k n rfl)
    | negSucc n => simp only [aIdxa]; rw [if_neg]; rfl; rintro ⟨_, h, _⟩; exact absurd h (by omega)
theorem op_idxp_eq (t : Tmps) (h : AH) (len es : Nat) (x i : AX) : op_idxp t h len es x i = (aIdxp len es (x.ev t) (i.ev t)).map (fun v => (v, .same)) := by
  unfold op_idxp
  split
  · rename_i id off k n hx hi
    rw [hx, hi]
    cases hb : Nat.blt n len with
    | true =>
      have h2 := Nat.blt_eq.mp hb
      simp only [aIdxp, cond_true]
      rw [if_pos ⟨Int.natCast_nonneg n, Int.ofNat_lt.mpr h2⟩]; rfl
    | false =>
      simp only [aIdxp, cond_false]
      rw [if_neg]; rfl
      rintro ⟨_, h2⟩
      have h3 : n < len := Int.ofNat_lt.mp h2
      rw [Nat.blt_eq.mpr h3] at hb; cases hb
  · rename_i hne
    generalize x.ev t = a at hne ⊢
    generalize i.ev t = b at hne ⊢
    cases a <;> try rfl
    cases b <;> try rfl
    rename_i id off k n
    cases n with
    | ofNat n => exact absurd rfl (hne id off k n rfl)
    | negSucc n => simp only [aIdxp]; rw [if_neg]; rfl; rintro ⟨h, _⟩; exact absurd h (by omega)

/-! What an operation yields, by cases of data. -/
/-- Value and change. -/
def DP (x : Option (AV × HD)) (f : AV → HD → Prop) (_ : Fx f := .mk) : Prop := optP x fun p => f p.1 p.2
theorem dp_some (v : AV) (d : HD) (f : AV → HD → Prop) : DP (some (v, d)) f ↔ f v d := zbd _ _
theorem dp_none (f : AV → HD → Prop) : DP none f ↔ False := zar _
theorem dp_map {x : Option AV} {f : AV → HD → Prop} : DP (x.map fun v => (v, HD.same)) f ↔ optP x (fun v => f v .same) := by
  cases x with
  | none => simp only [Option.map_none, dp_none, zar]
  | some v => simp only [Option.map_some, dp_some, zbd]
section
variable {t : Tmps} {h : AH} {f : AV → HD → Prop}
theorem qez {x : AX} : DP (aopD t h (.mv x)) f ↔ f (x.ev t) .same := dp_some _ _ _
theorem qea {c a b : AX} : DP (aopD t h (.pick c a b)) f ↔ condP (c.ev t) (f (a.ev t) .same) (f (b.ev t) .same) := by
  show DP (op_pick t h c a b) f ↔ _
  unfold op_pick
  split
  · rename_i e; rw [e, dp_some]; rfl
  · rename_i e; rw [e, dp_some]; rfl
  · rename_i e1 e2
    rw [dp_none]
    generalize c.ev t = v at e1 e2
    cases v with
    | b x => cases x with
      | true => exact absurd rfl e1
      | false => exact absurd rfl e2
    | _ => rfl
theorem zei {zero : List AV} : DP (aopD t h (.new zero)) f ↔ f (.ptr h.n 0) (.add (.cells true zero)) := dp_some _ _ _
theorem zeo {n : Nat} {x : AX} : DP (aopD t h (.box n x)) f ↔ (x.ev t).flat.length = n ∧ f (.ptr h.n 0) (.add (.cells true (x.ev t).flat)) := by
  show DP (op_box t h n x) f ↔ _
  unfold op_box
  cases hb : Nat.beq (x.ev t).flat.length n with
  | true => rw [cond_true, dp_some]; exact ⟨fun k => ⟨Nat.eq_of_beq_eq_true hb, k⟩, fun k => k.2⟩
  | false => rw [cond_false, dp_none]; exact ⟨False.elim, fun k => by rw [k.1, show Nat.beq n n = true from beq_self' n] at hb; cases hb⟩
theorem qcl {zero : List AV} {parts : List (Nat × Nat × AX)} : DP (aopD t h (.build zero parts)) f ↔ optP (fillA zero t parts) (fun c => f (.agg c) .same) := by
  simp only [aopD, op_build]
  cases fillA zero t parts <;> simp only [dp_none, dp_some, zar, zbd]
theorem qen {es len : Nat} {zero : List AV} {parts : List (Nat × Nat × AX)} : DP (aopD t h (.bsl es len zero parts)) f ↔ optP (fillA zero t parts) (fun c => f (.sl h.n 0 len (some len) es) (.add (.cells true c))) := by
  simp only [aopD, op_bsl]
  cases fillA zero t parts <;> simp only [dp_none, dp_some, zar, zbd]
theorem zez {a : AX} : DP (aopD t h (.ld a)) f ↔ optP (loadN h 1 (a.ev t)) (fun l => oneP l (fun v => f v .same)) := by
  show DP (op_ld t h a) f ↔ _
  unfold op_ld
  cases hl : loadN h 1 (a.ev t) with
  | none => simp only [dp_none, zar]
  | some l =>
    simp only [zbd]
    match l with
    | [] => simp only [dp_none, oneP]
    | [v] => simp only [dp_some, oneP]
    | _ :: _ :: _ => simp only [dp_none, oneP]
theorem zer {n : Nat} {a : AX} : DP (aopD t h (.ldn n a)) f ↔ optP (loadN h n (a.ev t)) (fun l => f (.agg l) .same) := by
  simp only [aopD, op_ldn]
  cases loadN h n (a.ev t) <;> simp only [dp_none, dp_some, zar, zbd]
theorem zfb {n : Nat} {a x : AX} : DP (aopD t h (.st n a x)) f ↔ stP h n (a.ev t) (x.ev t) (fun d => f und d) := by
  show DP (op_st t h n a x) f ↔ _
  unfold op_st stP
  cases ha : a.ev t <;> simp only [dp_none]
  rename_i id off
  unfold stO
  cases hg : h.get id with
  | none => simp only [dp_none]
  | some o =>
    cases o with
    | cells rw vs =>
      cases rw with
      | false => simp only [dp_none]
      | true =>
        simp only
        cases hb : Nat.beq (x.ev t).flat.length n with
        | true =>
          have e := Nat.eq_of_beq_eq_true hb
          rw [cond_true]
          cases splice off (x.ev t).flat vs <;> simp only [dp_none, dp_some, zar, zbd, and_false, e, true_and]
        | false => rw [cond_false, dp_none]; exact ⟨False.elim, fun k => by rw [k.1, show Nat.beq n n = true from beq_self' n] at hb; cases hb⟩
    | map es => simp only [dp_none]
    | dead => simp only [dp_none]
theorem d_nilck {x : AX} {id off : Nat} (hx : x.ev t = .ptr id off) : DP (aopD t h (.nilck x)) f ↔ f (.ptr id off) .same := by
  show DP (op_nilck t h x) f ↔ _
  unfold op_nilck; rw [hx]; exact dp_some _ _ _
def nilckP (v : AV) (f : AV → Prop) (_ : Fx f := .mk) : Prop := match v with | .ptr id off => f (.ptr id off) | .fn g c => f (.fn g c) | _ => False
theorem qam (id off : Nat) (f : AV → Prop) : nilckP (.ptr id off) f ↔ f (.ptr id off) := Iff.rfl
theorem qbc (g : Nat) (c : List AV) (f : AV → Prop) : nilckP (.fn g c) f ↔ f (.fn g c) := Iff.rfl
theorem qbf {x : AX} : DP (aopD t h (.nilck x)) f ↔ nilckP (x.ev t) (fun v => f v .same) := by
  show DP (op_nilck t h x) f ↔ _
  unfold op_nilck nilckP
  cases x.ev t <;> simp only [dp_none, dp_some]
theorem zeh {op : BinOp} {x y : AX} : DP (aopD t h (.bin op x y)) f ↔ optP (aBin op (x.ev t) (y.ev t)) (fun v => f v .same) := by
  simp only [aopD, op_bin]
  cases aBin op (x.ev t) (y.ev t) <;> simp only [dp_none, dp_some, zar, zbd]
theorem qfa {e : EqT} {neg : Bool} {x y : AX} : DP (aopD t h (.eq e neg x y)) f ↔ optP (aEq e (x.ev t) (y.ev t)) (fun r => f (.b (bif neg then !r else r)) .same) := by
  simp only [aopD, op_eq]
  cases aEq e (x.ev t) (y.ev t) <;> simp only [dp_none, dp_some, zar, zbd]
theorem d_not {x : AX} : DP (aopD t h (.un .not x)) f ↔ ∃ v, x.ev t = .b v ∧ f (.b (!v)) .same := by
  show DP (op_un t h .not x) f ↔ _
  unfold op_un
  cases hx : x.ev t <;> simp only [dp_none, dp_some] <;> first | exact ⟨False.elim, fun ⟨v, e, _⟩ => by cases e⟩ | exact ⟨fun k => ⟨_, rfl, k⟩, fun ⟨v, e, k⟩ => by cases e; exact k⟩
def negP (v : AV) (f : AV → Prop) (_ : Fx f := .mk) : Prop := match v with | .i k n => f (.i k (k.wrap (0 - n))) | _ => False
theorem zdm (k : IntKind) (n : Int) (f : AV → Prop) : negP (.i k n) f ↔ f (.i k (k.wrap (0 - n))) := Iff.rfl
def notP (v : AV) (f : AV → Prop) (_ : Fx f := .mk) : Prop := match v with | .b n => f (.b (!n)) | _ => False
theorem qdk (n : Bool) (f : AV → Prop) : notP (.b n) f ↔ f (.b (!n)) := Iff.rfl
theorem qef {x : AX} : DP (aopD t h (.un .not x)) f ↔ notP (x.ev t) (fun v => f v .same) := by
  show DP (op_un t h .not x) f ↔ _
  unfold op_un notP
  cases hx : x.ev t <;> simp only [dp_none, dp_some]
theorem zex {x : AX} : DP (aopD t h (.un .neg x)) f ↔ negP (x.ev t) (fun v => f v .same) := by
  show DP (op_un t h .neg x) f ↔ _
  unfold op_un negP
  cases hx : x.ev t <;> simp only [dp_none, dp_some]
theorem qes {g : Nat} {caps : List AX} : DP (aopD t h (.mkf g caps)) f ↔ f (.fn g (evs t caps)) .same := dp_some _ _ _
theorem qct : DP (aopD t h .mkmap) f ↔ f (.mp h.n) (.add (.map [])) := dp_some _ _ _
def mksP (n es bytes : Nat) (zero : List AV) (l c : AV) (f : AV → HD → Prop) (_ : Fx f := .mk) : Prop := match l, c with
  | .i _ x, .i _ y => 0 ≤ x ∧ x ≤ y ∧ bytes * y.toNat ≤ 140737488355328 ∧ y.toNat ≤ 140737488355328 ∧ f (.sl n 0 x.toNat (some y.toNat) es) (.add (.cells true (rep y.toNat zero)))
  | _, _ => False
theorem zed (n es bytes : Nat) (zero : List AV) (k k' : IntKind) (x y : Int) (f : AV → HD → Prop) : mksP n es bytes zero (.i k x) (.i k' y) f ↔ 0 ≤ x ∧ x ≤ y ∧ bytes * y.toNat ≤ 140737488355328 ∧ y.toNat ≤ 140737488355328 ∧ f (.sl n 0 x.toNat (some y.toNat) es) (.add (.cells true (rep y.toNat zero))) := Iff.rfl
theorem qep {es bytes : Nat} {zero : List AV} {l c : AX} : DP (aopD t h (.mks es bytes zero l c)) f ↔ mksP h.n es bytes zero (l.ev t) (c.ev t) f := by
  show DP (op_mks t h es bytes zero l c) f ↔ _
  unfold op_mks
  split
  · rename_i k n k' n' hl hc
    rw [hl, hc]
    simp only [mksP]
    cases hb : Nat.ble n n' && Nat.ble (bytes * n') 140737488355328 && Nat.ble n' 140737488355328 with
    | true =>
      simp only [Bool.and_eq_true] at hb
      rw [cond_true, dp_some]
      have h1 := Nat.le_of_ble_eq_true hb.1.1
      have h2 := Nat.le_of_ble_eq_true hb.1.2
      have h3 := Nat.le_of_ble_eq_true hb.2
      exact ⟨fun k => ⟨Int.natCast_nonneg _, Int.ofNat_le.mpr h1, h2, h3, k⟩, fun k => k.2.2.2.2⟩
    | false =>
      rw [cond_false, dp_none]
      refine ⟨False.elim, fun k => ?_⟩
      obtain ⟨_, h1, h2, h3, _⟩ := k
      rw [Nat.ble_eq_true_of_le (n := n) (m := n') (by simp at h1; omega), Nat.ble_eq_true_of_le (n := bytes * n') h2, Nat.ble_eq_true_of_le (n := n') h3] at hb
      cases hb
  · rename_i hne
    rw [dp_none]
    generalize l.ev t = a at hne ⊢
    generalize c.ev t = b at hne ⊢
    unfold mksP
    split
    · rename_i k x k' y
      refine ⟨False.elim, fun q => ?_⟩
      cases x with
      | negSucc x => exact absurd q.1 (by omega)
      | ofNat x => cases y with
        | negSucc y => exact absurd q.2.1 (by simp; omega)
        | ofNat y => exact hne k x k' y rfl rfl
    · rfl
theorem zcn {es : Nat} {x : AX} {lo hi mx : Option AX} : DP (aopD t h (.slice es x lo hi mx)) f ↔ optP (aSlice es (x.ev t) (lo.map (·.ev t)) (hi.map (·.ev t)) (mx.map (·.ev t))) (fun v => f v .same) := by
  simp only [aopD, op_slice]
  cases aSlice es (x.ev t) (lo.map (·.ev t)) (hi.map (·.ev t)) (mx.map (·.ev t)) <;> simp only [dp_none, dp_some, zar, zbd]
theorem qdj {off : Nat} {x : AX} : DP (aopD t h (.flda off x)) f ↔ ptrP (x.ev t) (fun id o => f (.ptr id (o + off)) .same) := by
  show DP (op_flda t h off x) f ↔ _
  unfold op_flda ptrP
  cases x.ev t <;> simp only [dp_none, dp_some]
theorem zdt {off size : Nat} {x : AX} : DP (aopD t h (.fld false off size x)) f ↔ aggP (x.ev t) (fun l => optP (cut off 1 l) (fun c => oneP c (fun v => f v .same))) := by
  show DP (op_fld t h false off size x) f ↔ _
  unfold op_fld aggP
  cases x.ev t <;> simp only [dp_none]
  rename_i l
  simp only [cond_false]
  cases cut off 1 l with
  | none => simp only [dp_none, zar]
  | some c =>
    simp only [zbd]
    match c with
    | [] => simp only [dp_none, oneP]
    | [v] => simp only [dp_some, oneP]
    | _ :: _ :: _ => simp only [dp_none, oneP]
theorem zee {off size : Nat} {x : AX} : DP (aopD t h (.fld true off size x)) f ↔ aggP (x.ev t) (fun l => optP (cut off size l) (fun c => f (.agg c) .same)) := by
  show DP (op_fld t h true off size x) f ↔ _
  unfold op_fld aggP
  cases x.ev t <;> simp only [dp_none, cond_true]
  rename_i l
  cases cut off size l <;> simp only [dp_none, dp_some, zar, zbd]
theorem qee {es : Nat} {x i : AX} : DP (aopD t h (.idxa es x i)) f ↔ optP (aIdxa es (x.ev t) (i.ev t)) (fun v => f v .same) := by
  show DP (op_idxa t h es x i) f ↔ _
  rw [op_idxa_eq, dp_map]
theorem qeb {len es : Nat} {x i : AX} : DP (aopD t h (.idxp len es x i)) f ↔ optP (aIdxp len es (x.ev t) (i.ev t)) (fun v => f v .same) := by
  show DP (op_idxp t h len es x i) f ↔ _
  rw [op_idxp_eq, dp_map]
theorem qev {x : AX} {i : Nat} : DP (aopD t h (.ext x i)) f ↔ tupP (x.ev t) (fun l => optP l[i]? (fun v => f v .same)) := by
  show DP (op_ext t h x i) f ↔ _
  unfold op_ext tupP
  cases x.ev t <;> simp only [dp_none]
  rename_i l
  cases l[i]? <;> simp only [dp_none, dp_some, zar, zbd]
theorem qeh {x : AX} : DP (aopD t h (.len x)) f ↔ optP (aLen (x.ev t)) (fun v => f v .same) := by
  show DP (op_len t h x) f ↔ _
  unfold op_len
  cases x.ev t <;> simp only [dp_none, dp_some, aLen, zar, zbd]
theorem qex {l : List AX} : DP (aopD t h (.min l)) f ↔ optP (foldInts (fun x y => bif iLt y x then y else x) (evs t l)) (fun v => f v .same) := by
  simp only [aopD, op_min]
  cases foldInts (fun x y => bif iLt y x then y else x) (evs t l) <;> simp only [dp_none, dp_some, zar, zbd]
theorem qew {l : List AX} : DP (aopD t h (.max l)) f ↔ optP (foldInts (fun x y => bif iLt x y then y else x) (evs t l)) (fun v => f v .same) := by
  simp only [aopD, op_max]
  cases foldInts (fun x y => bif iLt x y then y else x) (evs t l) <;> simp only [dp_none, dp_some, zar, zbd]
def lookO (o : Option AO) (zero : AV) (k : AV) (f : AV → Bool → Prop) (_ : Fx f := .mk) : Prop := match o with
  | some (.map es) => match mloc k es 0 with
    | some (some i) => match es[i]? with | some (_, v) => f v true | none => False
    | some none => f zero false
    | none => False
  | _ => False
theorem d_lookup {zero : AV} {ok : Bool} {kt : EqT} {m k : AX} {id : Nat} (hm : m.ev t = .mp id) : DP (aopD t h (.lookup zero ok kt m k)) f ↔ keyOk kt (k.ev t) = true ∧ lookO (h.get id) zero (k.ev t) (fun v b => f (bif ok then .tup [v, .b b] else v) .same) := by
  show DP (op_lookup t h zero ok kt m k) f ↔ _
  unfold op_lookup
  cases hk : keyOk kt (k.ev t) with
  | false => simp [dp_none]
  | true =>
    rw [cond_true, hm]
    simp only [true_and]
    unfold lookO
    cases h.get id with
    | none => simp only [dp_none]
    | some o =>
      cases o with
      | map es =>
        simp only
        cases mloc (k.ev t) es 0 with
        | none => simp only [dp_none]
        | some j =>
          cases j with
          | none => simp only [dp_some]
          | some i =>
            simp only
            cases es[i]? with
            | none => simp only [dp_none]
            | some p => obtain ⟨k', v⟩ := p; simp only [dp_some]
      | cells a b => simp only [dp_none]
      | dead => simp only [dp_none]
def mapO (o : Option AO) (k v : AV) (f : AO → Prop) (_ : Fx f := .mk) : Prop := match o with
  | some (.map es) => match mloc k es 0 with
    | some (some i) => f (.map (es.set i (k, v)))
    | some none => f (.map (es ++ [(k, v)]))
    | none => False
  | _ => False
theorem d_mapup {kt : EqT} {m k x : AX} {id : Nat} (hm : m.ev t = .mp id) : DP (aopD t h (.mapup kt m k x)) f ↔ keyOk kt (k.ev t) = true ∧ mapO (h.get id) (k.ev t) (x.ev t) (fun o => f und (.put id o)) := by
  show DP (op_mapup t h kt m k x) f ↔ _
  unfold op_mapup
  cases hk : keyOk kt (k.ev t) with
  | false => simp [dp_none]
  | true =>
    rw [cond_true, hm]
    simp only [true_and]
    unfold mapO
    cases h.get id with
    | none => simp only [dp_none]
    | some o =>
      cases o with
      | map es =>
        simp only
        cases mloc (k.ev t) es 0 with
        | none => simp only [dp_none]
        | some j =>
          cases j with
          | none => simp only [dp_some]
          | some i => simp only [dp_some]
      | cells a b => simp only [dp_none]
      | dead => simp only [dp_none]
end
theorem zfa {o : AOp} (hc : isCall o = false) {t : Tmps} {h : AH} {Q : AV → AH → Prop} : WO F orc o t h Q ↔ DP (aopD t h o) (fun v d => Q v (d.on h)) := wo_op hc
theorem qey {o : AOp} (hc : isCall o = false) {t : Tmps} {h : AH} {hid : List (Nat × Nat)} {Q : AV → AH → Prop} :
    WL F orc o t h hid Q ↔ DP (aopD t (h.loose (bif isNew o then [(0, h.n)] else hid)) o) (fun v d => Q v (d.on h.mark)) := wl_op hc
theorem qdf (h : AH) : HD.same.on h = h := rfl
theorem zdn (h : AH) (o : AO) : (HD.add o).on h = h.add o := rfl
theorem qdi (h : AH) (i : Nat) (o : AO) : (HD.put i o).on h = h.put i o := rfl
theorem zcq (h : AH) (l : List (Nat × Nat)) : (h.loose l).n = h.n := rfl

/-! Numbers. -/
section
variable (x y : Int) (k : IntKind)
theorem qeq : aBin .add (.i k x) (.i k y) = some (.i k (k.wrap (x + y))) := by simp only [aBin, kEq_eq, decide_true, cond_true, intBin, wrapQ_eq]; rfl
theorem zek : aBin .sub (.i k x) (.i k y) = some (.i k (k.wrap (x - y))) := by simp only [aBin, kEq_eq, decide_true, cond_true, intBin, wrapQ_eq]; rfl
theorem zeq : aBin .mul (.i k x) (.i k y) = some (.i k (k.wrap (x * y))) := by simp only [aBin, kEq_eq, decide_true, cond_true, intBin, wrapQ_eq]; rfl
theorem zes : aBin .lss (.i k x) (.i k y) = some (.b (decide (x < y))) := by simp only [aBin, kEq_eq, decide_true, cond_true, intBin, iLt_eq]
theorem qem : aBin .leq (.i k x) (.i k y) = some (.b (decide (x ≤ y))) := by
  simp only [aBin, kEq_eq, decide_true, cond_true, intBin, iLt_eq]; congr 2; rw [Bool.eq_iff_iff]; simp
theorem qek : aBin .gtr (.i k x) (.i k y) = some (.b (decide (y < x))) := by simp only [aBin, kEq_eq, decide_true, cond_true, intBin, iLt_eq]
theorem qet : aBin .geq (.i k x) (.i k y) = some (.b (decide (y ≤ x))) := by
  simp only [aBin, kEq_eq, decide_true, cond_true, intBin, iLt_eq]; congr 2; rw [Bool.eq_iff_iff]; simp
theorem b_rem (h : y ≠ 0) : aBin .rem (.i k x) (.i k y) = some (.i k (x.tmod y)) := by
  have : iEq y 0 = false := by rw [iEq_eq]; simpa using h
  simp only [aBin, kEq_eq, decide_true, cond_true, intBin, this, cond_false]
theorem b_quo (h : y ≠ 0) : aBin .quo (.i k x) (.i k y) = some (.i k (k.wrap (x.tdiv y))) := by
  have : iEq y 0 = false := by rw [iEq_eq]; simpa using h
  simp only [aBin, kEq_eq, decide_true, cond_true, intBin, this, cond_false]
theorem qeo : aEq .int (.i k x) (.i k y) = some (decide (x = y)) := by
  simp only [aEq, kEq_eq, decide_true, cond_true, iEq_eq]; congr 1
theorem zdi (a b c d : Int) (k1 k2 : IntKind) : aEq (.ints 2) (.agg [.i k1 a, .i k2 b]) (.agg [.i k1 c, .i k2 d]) = some (decide (a = c ∧ b = d)) := by
  have e : Nat.beq 2 2 = true := rfl
  simp only [aEq, List.length_cons, List.length_nil, e, Bool.and_self, cond_true, keq.keqs, kEq_eq, decide_true, iEq_eq]
  by_cases h1 : a = c
  · have e2 : (a == c) = true := by simpa using h1
    rw [e2, cond_true]
    by_cases h2 : b = d
    · have e3 : (b == d) = true := by simpa using h2
      rw [e3, cond_true]; simp [h1, h2]
    · have e3 : (b == d) = false := by simpa using h2
      rw [e3, cond_false]; simp [h2]
  · have e2 : (a == c) = false := by simpa using h1
    rw [e2, cond_false]; simp [h1]
end
theorem qdn (x y : Bool) : aEq .bool (.b x) (.b y) = some (x == y) := rfl
theorem qby {n : Int} (h : -9223372036854775808 ≤ n ∧ n ≤ 9223372036854775807) : IntKind.i64.wrap n = n := IntWalk.i64_in _ h

/-! A function entered. -/
def finP (f : List ARes) (Q : AV → AH → Prop) (e : AE) (t : Tmps) (h : AH) : Prop := match e with
  | .exit _ => False
  | _ => optP (resOf t h f) fun l => match l with | [v] => Q v h | l => Q (.tup l) h
theorem finP_normal (f : List ARes) (Q : AV → AH → Prop) (t : Tmps) (h : AH) : finP f Q .normal t h ↔ optP (resOf t h f) fun l => match l with | [v] => Q v h | l => Q (.tup l) h := Iff.rfl
theorem finP_ret (f : List ARes) (Q : AV → AH → Prop) (t : Tmps) (h : AH) : finP f Q .ret t h ↔ optP (resOf t h f) fun l => match l with | [v] => Q v h | l => Q (.tup l) h := Iff.rfl
theorem WF.enter {g : Nat} {f : AFunc} (ho : orc g = none) (hf : F.get g = some f) {l : List AV} (hl : l.length = f.nargs) {h : AH} {Q : AV → AH → Prop}
    (hw : WC F orc f.body (argsT 0 l noT) h (finP f.res Q)) : WF F orc g l h Q := by
  obtain ⟨n, e, t', h', a, b⟩ := hw
  have key : finish f t' h' = some ((match resOf t' h' f.res with | some [v] => v | some l => .tup l | none => und), h') ∧ Q (match resOf t' h' f.res with | some [v] => v | some l => .tup l | none => und) h' := by
    have b' : optP (resOf t' h' f.res) fun l => match l with | [v] => Q v h' | l => Q (.tup l) h' := by
      cases e with
      | normal => exact b
      | ret => exact b
      | exit i => exact b.elim
    obtain ⟨r, hr, q⟩ := b'
    rw [hr]
    unfold finish
    rw [hr]
    match r, q with
    | [v], q => exact ⟨rfl, q⟩
    | [], q => exact ⟨rfl, q⟩
    | _ :: _ :: _, q => exact ⟨rfl, q⟩
  refine ⟨n, _, h', ?_, key.2⟩
  unfold arunG callG
  rw [ho]
  simp only [hf]
  simp only [AM.enter]
  rw [show Nat.beq l.length f.nargs = true by rw [hl]; exact beq_self' _, cond_true, a]
  cases e with
  | normal => exact key.1
  | ret => exact key.1
  | exit i => exact b.elim
/-- One result, or more. -/
def tupV : List AV → AV
  | [v] => v
  | l => .tup l
theorem qei (v : AV) : tupV [v] = v := rfl
theorem qeg (v u : AV) : tupV [v, u] = .tup [v, u] := rfl
theorem zew (v u x : AV) : tupV [v, u, x] = .tup [v, u, x] := rfl
theorem zen : tupV [] = .tup [] := rfl
theorem zdj (f : List ARes) (Q : AV → AH → Prop) (t : Tmps) (h : AH) : finP f Q .normal t h ↔ optP (resOf t h f) fun l => Q (tupV l) h := by
  rw [finP_normal]; unfold optP
  constructor
  · rintro ⟨l, e, q⟩; refine ⟨l, e, ?_⟩
    match l, q with
    | [v], q => exact q
    | [], q => exact q
    | _ :: _ :: _, q => exact q
  · rintro ⟨l, e, q⟩; refine ⟨l, e, ?_⟩
    match l, q with
    | [v], q => exact q
    | [], q => exact q
    | _ :: _ :: _, q => exact q
theorem qec (f : List ARes) (Q : AV → AH → Prop) (t : Tmps) (h : AH) : finP f Q .ret t h ↔ optP (resOf t h f) fun l => Q (tupV l) h := zdj f Q t h
theorem qej : argsT 0 [] noT = noT := rfl
theorem qeu (a : AV) : argsT 0 [a] noT = tset noT (.s .d0 .d0 .d0) a := rfl
theorem qer (a b : AV) : argsT 0 [a, b] noT = tset (tset noT (.s .d0 .d0 .d0) a) (.s .d0 .d0 .d1) b := rfl
theorem zeu (a b c : AV) : argsT 0 [a, b, c] noT = tset (tset (tset noT (.s .d0 .d0 .d0) a) (.s .d0 .d0 .d1) b) (.s .d0 .d0 .d2) c := rfl
theorem zem (a b c d : AV) : argsT 0 [a, b, c, d] noT = tset (tset (tset (tset noT (.s .d0 .d0 .d0) a) (.s .d0 .d0 .d1) b) (.s .d0 .d0 .d2) c) (.s .d0 .d0 .d3) d := rfl
theorem qbe (t : Tmps) (h : AH) : resOf t h [] = some [] := rfl
theorem qdd (t : Tmps) (h : AH) (n : Sl) (r : List ARes) : resOf t h (.t n :: r) = (resOf t h r).map (tget t n :: ·) := by
  simp only [resOf]; cases resOf t h r <;> rfl
def oneO (l : Option (List AV)) : Option AV := match l with | some [v] => some v | _ => none
theorem qbk (v : AV) : oneO (some [v]) = some v := rfl
theorem zac (t : Tmps) (h : AH) (a : Sl) (n : Nat) (r : List ARes) : resOf t h (.cell a false n :: r) = (oneO (loadN h 1 (tget t a))).bind fun v => (resOf t h r).map (v :: ·) := by
  simp only [resOf, cond_false]
  cases loadN h 1 (tget t a) with
  | none => rfl
  | some c =>
    cases resOf t h r with
    | none => match c with
      | [] => rfl
      | [v] => rfl
      | _ :: _ :: _ => rfl
    | some l => match c with
      | [] => rfl
      | [v] => rfl
      | _ :: _ :: _ => rfl
theorem qae (t : Tmps) (h : AH) (a : Sl) (n : Nat) (r : List ARes) : resOf t h (.cell a true n :: r) = (loadN h n (tget t a)).bind fun v => (resOf t h r).map (.agg v :: ·) := by
  simp only [resOf, cond_true]
  cases loadN h n (tget t a) with
  | none => rfl
  | some c => cases resOf t h r <;> rfl
end
end Go.AM
end
section
/- How simp goes through a run: it looks at data alone, not at what is still to come. No condition. -/
namespace Go.AM
section
variable {F : Tr AFunc} {orc : Orc}
@[congr] theorem WC_congr {c : AC} {t t' : Tmps} {h h' : AH} {Q : AE → Tmps → AH → Prop} (e1 : t = t') (e2 : h = h') : WC F orc c t h Q = WC F orc c t' h' Q := by rw [e1, e2]
@[congr] theorem WR_congr {c : List AOper} {t t' : Tmps} {h h' : AH} {Q : Tmps → AH → Prop} (e1 : t = t') (e2 : h = h') : WR F orc c t h Q = WR F orc c t' h' Q := by rw [e1, e2]
@[congr] theorem WD_congr {c : List (Nat × AOper × Nat × Bool)} {m m' : List (Nat × List (Nat × Nat))} {t t' : Tmps} {h h' : AH} {Q : Tmps → AH → Prop} (e0 : m = m') (e1 : t = t') (e2 : h = h') : WD F orc c m t h Q = WD F orc c m' t' h' Q := by rw [e0, e1, e2]
@[congr] theorem WO_congr {c : AOp} {t t' : Tmps} {h h' : AH} {Q : AV → AH → Prop} (e1 : t = t') (e2 : h = h') : WO F orc c t h Q = WO F orc c t' h' Q := by rw [e1, e2]
@[congr] theorem WL_congr {c : AOp} {t t' : Tmps} {h h' : AH} {m m' : List (Nat × Nat)} {Q : AV → AH → Prop} (e1 : t = t') (e2 : h = h') (e3 : m = m') : WL F orc c t h m Q = WL F orc c t' h' m' Q := by rw [e1, e2, e3]
@[congr] theorem WF_congr {g : Nat} {l l' : List AV} {h h' : AH} {Q : AV → AH → Prop} (e1 : l = l') (e2 : h = h') : WF F orc g l h Q = WF F orc g l' h' Q := by rw [e1, e2]
@[congr] theorem nowP_congr {b b' : Bool} {k p : Nat} {o : AOp} {d : Option Sl} {r : List (Nat × AOper × Nat × Bool)} {m m' : List (Nat × List (Nat × Nat))} {t t' : Tmps} {h h' : AH} {Q : Tmps → AH → Prop} (e : b = b') (e0 : m = m') (e1 : t = t') (e2 : h = h') : nowP F orc b k p o d r m t h Q = nowP F orc b' k p o d r m' t' h' Q := by rw [e, e0, e1, e2]
@[congr] theorem seqK_congr {b : AC} {Q : AE → Tmps → AH → Prop} {e e' : AE} {t t' : Tmps} {h h' : AH} (e0 : e = e') (e1 : t = t') (e2 : h = h') : seqK F orc b Q e t h = seqK F orc b Q e' t' h' := by rw [e0, e1, e2]
@[congr] theorem loopK_congr {b : AC} {Q : AE → Tmps → AH → Prop} {e e' : AE} {t t' : Tmps} {h h' : AH} (e0 : e = e') (e1 : t = t') (e2 : h = h') : loopK F orc b Q e t h = loopK F orc b Q e' t' h' := by rw [e0, e1, e2]
@[congr] theorem blockK_congr {id : Nat} {Q : AE → Tmps → AH → Prop} {e e' : AE} {t t' : Tmps} {h h' : AH} (e0 : e = e') (e1 : t = t') (e2 : h = h') : blockK id Q e t h = blockK id Q e' t' h' := by rw [e0, e1, e2]
@[congr] theorem finP_congr {f : List ARes} {Q : AV → AH → Prop} {e e' : AE} {t t' : Tmps} {h h' : AH} (e0 : e = e') (e1 : t = t') (e2 : h = h') : finP f Q e t h = finP f Q e' t' h' := by rw [e0, e1, e2]
end
@[congr] theorem optP_congr {α : Type} {x x' : Option α} {f : α → Prop} (e : x = x') : optP x f = optP x' f := by rw [e]
@[congr] theorem DP_congr {x x' : Option (AV × HD)} {f : AV → HD → Prop} (e : x = x') : DP x f = DP x' f := by rw [e]
@[congr] theorem condP_congr {v v' : AV} {P R : Prop} (e : v = v') : condP v P R = condP v' P R := by rw [e]
@[congr] theorem guardP_congr {v v' : AV} {w : Bool} {P R : Prop} (e : v = v') : guardP v w P R = guardP v' w P R := by rw [e]
@[congr] theorem oneP_congr {v v' : List AV} {f : AV → Prop} (e : v = v') : oneP v f = oneP v' f := by rw [e]
@[congr] theorem ptrP_congr {v v' : AV} {f : Nat → Nat → Prop} (e : v = v') : ptrP v f = ptrP v' f := by rw [e]
@[congr] theorem aggP_congr {v v' : AV} {f : List AV → Prop} (e : v = v') : aggP v f = aggP v' f := by rw [e]
@[congr] theorem tupP_congr {v v' : AV} {f : List AV → Prop} (e : v = v') : tupP v f = tupP v' f := by rw [e]
@[congr] theorem nilckP_congr {v v' : AV} {f : AV → Prop} (e : v = v') : nilckP v f = nilckP v' f := by rw [e]
@[congr] theorem negP_congr {v v' : AV} {f : AV → Prop} (e : v = v') : negP v f = negP v' f := by rw [e]
@[congr] theorem notP_congr {v v' : AV} {f : AV → Prop} (e : v = v') : notP v f = notP v' f := by rw [e]
@[congr] theorem stP_congr {h h' : AH} {n : Nat} {a a' v v' : AV} {f : HD → Prop} (e : h = h') (e1 : a = a') (e2 : v = v') : stP h n a v f = stP h' n a' v' f := by rw [e, e1, e2]
@[congr] theorem stO_congr {o o' : Option AO} {n off off' : Nat} {v v' : AV} {f : AO → Prop} (e : o = o') (e1 : off = off') (e2 : v = v') : stO o n off v f = stO o' n off' v' f := by rw [e, e1, e2]
@[congr] theorem mksP_congr {n n' es b : Nat} {z : List AV} {l l' c c' : AV} {f : AV → HD → Prop} (e : n = n') (e1 : l = l') (e2 : c = c') : mksP n es b z l c f = mksP n' es b z l' c' f := by rw [e, e1, e2]
@[congr] theorem lookO_congr {o o' : Option AO} {z k k' : AV} {f : AV → Bool → Prop} (e : o = o') (e2 : k = k') : lookO o z k f = lookO o' z k' f := by rw [e, e2]
@[congr] theorem mapO_congr {o o' : Option AO} {k k' v v' : AV} {f : AO → Prop} (e : o = o') (e1 : k = k') (e2 : v = v') : mapO o k v f = mapO o' k' v' f := by rw [e, e1, e2]

/-- Is there an object? -/
def AH.has (h : AH) (k : Nat) : Prop := (h.get k).isSome = true
theorem AH.has_of {h : AH} {k : Nat} {o : AO} (hg : h.get k = some o) : h.has k := by unfold AH.has; rw [hg]; rfl
theorem AH.has_put {h : AH} {k : Nat} (hh : h.has k) (i : Nat) (o : AO) : (h.put i o).has k := by
  unfold AH.has at *
  cases hg : h.get k with
  | none => rw [hg] at hh; cases hh
  | some x =>
    rw [AH.get_put]
    by_cases c : k = i
    · rw [if_pos c, AH.hid_of_get hg]; rfl
    · rw [if_neg c, hg]; rfl
theorem AH.has_new {h : AH} (ok : h.ok) (o : AO) {k : Nat} (hk : k = h.n) : (h.add o).has k := AH.has_of (ok.new o hk)
theorem AH.has_add {h : AH} (ok : h.ok) (o : AO) {k : Nat} (hh : h.has k) : (h.add o).has k := by
  unfold AH.has at *
  cases hg : h.get k with
  | none => rw [hg] at hh; cases hh
  | some x => rw [AH.get_add_old o (ok.lt hg), hg]; rfl
theorem AH.has_mark {h : AH} {k : Nat} (hh : h.has k) : h.mark.has k := hh
theorem AH.put_same {h : AH} {k : Nat} (o : AO) (hh : h.has k) : (h.put k o).get k = some o := by
  unfold AH.has at hh
  cases hg : h.get k with
  | none => rw [hg] at hh; cases hh
  | some x => exact AH.get_put_same o hg
theorem zcy (P R : Prop) : condP (.b true) P R ↔ P := Iff.rfl
theorem zcj (P R : Prop) : condP (.b false) P R ↔ R := Iff.rfl
theorem qat (P R : Prop) : guardP (.b true) true P R ↔ P := Iff.rfl
theorem qaw (P R : Prop) : guardP (.b false) false P R ↔ P := Iff.rfl
theorem zav (P R : Prop) : guardP (.b true) false P R ↔ R := by simp [guardP]
theorem qar (P R : Prop) : guardP (.b false) true P R ↔ R := by simp [guardP]
theorem condP.split {x : Bool} {P R : Prop} (h1 : x = true → P) (h2 : x = false → R) : condP (.b x) P R := by
  cases x with
  | true => exact h1 rfl
  | false => exact h2 rfl
theorem guardP.split {x w : Bool} {P R : Prop} (h1 : x = w → P) (h2 : x ≠ w → R) : guardP (.b x) w P R := by
  unfold guardP
  by_cases c : x = w
  · simp only [c, if_true]; exact h1 c
  · simp only [c, if_false]; exact h2 c
theorem qai (w : Bool) (P R : Prop) : guardP und w P R ↔ R := Iff.rfl
section
variable {F : Tr AFunc} {orc : Orc}
theorem zaf {b : AC} {Q : AE → Tmps → AH → Prop} {t : Tmps} {h : AH} : seqK F orc b Q .normal t h ↔ WC F orc b t h Q := Iff.rfl
theorem zat {b : AC} {Q : AE → Tmps → AH → Prop} {i : Nat} {t : Tmps} {h : AH} : seqK F orc b Q (.exit i) t h ↔ Q (.exit i) t h := Iff.rfl
theorem qbh {b : AC} {Q : AE → Tmps → AH → Prop} {t : Tmps} {h : AH} : seqK F orc b Q .ret t h ↔ Q .ret t h := Iff.rfl
theorem loopK_normal {b : AC} {Q : AE → Tmps → AH → Prop} {t : Tmps} {h : AH} : loopK F orc b Q .normal t h ↔ WC F orc (.loop b) t h Q := Iff.rfl
theorem zah {b : AC} {Q : AE → Tmps → AH → Prop} {i : Nat} {t : Tmps} {h : AH} : loopK F orc b Q (.exit i) t h ↔ Q (.exit i) t h := Iff.rfl
theorem qbd {b : AC} {Q : AE → Tmps → AH → Prop} {t : Tmps} {h : AH} : loopK F orc b Q .ret t h ↔ Q .ret t h := Iff.rfl
theorem qaa {i : Nat} {Q : AE → Tmps → AH → Prop} {t : Tmps} {h : AH} : blockK i Q .normal t h ↔ Q .normal t h := Iff.rfl
theorem qaj {i : Nat} {Q : AE → Tmps → AH → Prop} {t : Tmps} {h : AH} : blockK i Q .ret t h ↔ Q .ret t h := Iff.rfl
theorem zad {i : Nat} {Q : AE → Tmps → AH → Prop} {t : Tmps} {h : AH} : blockK i Q (.exit i) t h ↔ Q .normal t h := by simp only [blockK, if_true]
theorem zab {i j : Nat} (hij : j ≠ i) {Q : AE → Tmps → AH → Prop} {t : Tmps} {h : AH} : blockK i Q (.exit j) t h ↔ Q (.exit j) t h := by simp only [blockK, if_neg hij]
theorem WC.cond {s : Sl} {a c : AC} {t : Tmps} {h : AH} {Q : AE → Tmps → AH → Prop} {b : Bool} (hv : tget t s = .b b) (h1 : b = true → WC F orc a t h Q) (h2 : b = false → WC F orc c t h Q) : WC F orc (.cond (.t s) a c) t h Q := by
  rw [qdb, zey, hv]
  cases b with
  | true => exact h1 rfl
  | false => exact h2 rfl
end
theorem zax (cells : List AV) (t : Tmps) : fillA cells t [] = some cells := rfl
/-- A part laid. -/
def fillV (cells : List AV) (t : Tmps) (off size : Nat) (v : AV) (r : List (Nat × Nat × AX)) : Option (List AV) := if v.flat.length = size then (splice off v.flat cells).bind fun c => fillA c t r else none
theorem zak (cells : List AV) (t : Tmps) (off size : Nat) (x : AX) (r : List (Nat × Nat × AX)) : fillA cells t ((off, size, x) :: r) = fillV cells t off size (x.ev t) r := by
  simp only [fillA, fillV]
  by_cases hs : (x.ev t).flat.length = size
  · rw [show Nat.beq (x.ev t).flat.length size = true by rw [hs]; exact beq_self' _, cond_true, if_pos hs]
    cases splice off (x.ev t).flat cells <;> rfl
  · rw [if_neg hs]
    cases hb : Nat.beq (x.ev t).flat.length size with
    | true => exact absurd (Nat.eq_of_beq_eq_true hb) hs
    | false => rfl
theorem zbl (cells : List AV) (t : Tmps) (off size : Nat) (v : AV) (r : List (Nat × Nat × AX)) : fillV cells t off size v r = if v.flat.length = size then (splice off v.flat cells).bind fun c => fillA c t r else none := rfl
theorem zdq (b : Bool) : AV.flat (.b b) = [.b b] := rfl
theorem qdp (k : IntKind) (n : Int) : AV.flat (.i k n) = [.i k n] := rfl
theorem zbp (l : List AV) : AV.flat (.agg l) = l := rfl
theorem qba : AV.flat .nils = [.nils] := rfl
theorem qcy (id off len : Nat) (c : Option Nat) (es : Nat) : AV.flat (.sl id off len c es) = [.sl id off len c es] := rfl
theorem zbj (id off : Nat) : AV.flat (.ptr id off) = [.ptr id off] := rfl
theorem zcm (id : Nat) : AV.flat (.mp id) = [.mp id] := rfl
theorem qaf {α : Type} (l : List α) : splice 0 [] l = some l := by cases l <;> rfl
theorem zae {α : Type} (x : α) (xs : List α) (y : α) (l : List α) : splice 0 (x :: xs) (y :: l) = (splice 0 xs l).map (x :: ·) := by
  simp only [splice]; cases splice 0 xs l <;> rfl
theorem qad {α : Type} (n : Nat) (xs : List α) (y : α) (l : List α) : splice (n + 1) xs (y :: l) = (splice n xs l).map (y :: ·) := by
  simp only [splice]; cases splice n xs l <;> rfl
theorem zdg {α : Type} (off n : Nat) (l : List α) : cut off n l = (dropN off l).bind (takeN n) := by
  simp only [cut]; cases dropN off l <;> rfl
theorem zal {α : Type} (l : List α) : dropN 0 l = some l := by cases l <;> rfl
theorem zan {α : Type} (n : Nat) (x : α) (l : List α) : dropN (n + 1) (x :: l) = dropN n l := rfl
theorem zag {α : Type} (l : List α) : takeN 0 l = some [] := by cases l <;> rfl
theorem qag {α : Type} (n : Nat) (x : α) (l : List α) : takeN (n + 1) (x :: l) = (takeN n l).map (x :: ·) := by
  simp only [takeN]; cases takeN n l <;> rfl
theorem qax (f : Int → Int → Int) (k k' : IntKind) (x y : Int) : foldInts f [.i k x, .i k' y] = some (.i k (f x y)) := rfl
theorem qdg (x y : Int) : (bif iLt y x then y else x) = min x y := by
  rw [iLt_eq]
  by_cases h : y < x
  · simp only [h, decide_true, cond_true]; omega
  · simp only [h, decide_false, cond_false]; omega
theorem qcn (x y : Int) : (bif iLt x y then y else x) = max x y := by
  rw [iLt_eq]
  by_cases h : x < y
  · simp only [h, decide_true, cond_true]; omega
  · simp only [h, decide_false, cond_false]; omega
theorem qal (pre : Nat) : hideOf pre [] = [] := rfl
theorem zap (pre j : Nat) (l : List (Nat × Nat)) (r : List (Nat × List (Nat × Nat))) (h : Nat.testBit pre j = true) : hideOf pre ((j, l) :: r) = hideOf pre r := by simp only [hideOf, h, cond_true]
theorem qab (pre j : Nat) (l : List (Nat × Nat)) (r : List (Nat × List (Nat × Nat))) (h : Nat.testBit pre j = false) : hideOf pre ((j, l) :: r) = l ++ hideOf pre r := by simp only [hideOf, h, cond_false]
theorem isC_mv (x : AX) : isCall (.mv x) = false := rfl
theorem qdm (x : AX) : isPure (.mv x) = true := rfl
theorem zds (x : AX) : isNew (.mv x) = false := rfl
theorem qel (x : AX) (t : Tmps) (q : Nat) : targetC t q (.mv x) = [] := rfl
theorem isC_pick (c a b : AX) : isCall (.pick c a b) = false := rfl
theorem qbl (c a b : AX) : isPure (.pick c a b) = true := rfl
theorem qbg (c a b : AX) : isNew (.pick c a b) = false := rfl
theorem qcz (c a b : AX) (t : Tmps) (q : Nat) : targetC t q (.pick c a b) = [] := rfl
theorem isC_new (z : List AV) : isCall (.new z) = false := rfl
theorem zda (z : List AV) : isPure (.new z) = false := rfl
theorem zdd (z : List AV) : isNew (.new z) = true := rfl
theorem zec (z : List AV) (t : Tmps) (q : Nat) : targetC t q (.new z) = [] := rfl
theorem isC_box (n : Nat) (x : AX) : isCall (.box n x) = false := rfl
theorem zcr (n : Nat) (x : AX) : isPure (.box n x) = false := rfl
theorem qcu (n : Nat) (x : AX) : isNew (.box n x) = true := rfl
theorem qdl (n : Nat) (x : AX) (t : Tmps) (q : Nat) : targetC t q (.box n x) = [] := rfl
theorem isC_build (z : List AV) (p : List (Nat × Nat × AX)) : isCall (.build z p) = false := rfl
theorem zbe (z : List AV) (p : List (Nat × Nat × AX)) : isPure (.build z p) = true := rfl
theorem zba (z : List AV) (p : List (Nat × Nat × AX)) : isNew (.build z p) = false := rfl
theorem qbr (z : List AV) (p : List (Nat × Nat × AX)) (t : Tmps) (q : Nat) : targetC t q (.build z p) = [] := rfl
theorem isC_bsl (a b : Nat) (z : List AV) (p : List (Nat × Nat × AX)) : isCall (.bsl a b z p) = false := rfl
theorem zce (a b : Nat) (z : List AV) (p : List (Nat × Nat × AX)) : isPure (.bsl a b z p) = false := rfl
theorem qcm (a b : Nat) (z : List AV) (p : List (Nat × Nat × AX)) : isNew (.bsl a b z p) = true := rfl
theorem qdz (a b : Nat) (z : List AV) (p : List (Nat × Nat × AX)) (t : Tmps) (q : Nat) : targetC t q (.bsl a b z p) = [] := rfl
theorem isC_ld (x : AX) : isCall (.ld x) = false := rfl
theorem zea (x : AX) : isPure (.ld x) = false := rfl
theorem zdr (x : AX) : isNew (.ld x) = false := rfl
theorem zet (x : AX) (t : Tmps) (q : Nat) : targetC t q (.ld x) = [] := rfl
theorem isC_ldn (n : Nat) (x : AX) : isCall (.ldn n x) = false := rfl
theorem zde (n : Nat) (x : AX) : isPure (.ldn n x) = false := rfl
theorem zdc (n : Nat) (x : AX) : isNew (.ldn n x) = false := rfl
theorem qds (n : Nat) (x : AX) (t : Tmps) (q : Nat) : targetC t q (.ldn n x) = [] := rfl
theorem isC_st (n : Nat) (a x : AX) : isCall (.st n a x) = false := rfl
theorem zdo (n : Nat) (a x : AX) : isPure (.st n a x) = false := rfl
theorem qdr (n : Nat) (a x : AX) : isNew (.st n a x) = false := rfl
theorem isC_nilck (x : AX) : isCall (.nilck x) = false := rfl
theorem zbc (x : AX) : isPure (.nilck x) = true := rfl
theorem qan (x : AX) : isNew (.nilck x) = false := rfl
theorem qbq (x : AX) (t : Tmps) (q : Nat) : targetC t q (.nilck x) = [] := rfl
theorem isC_bin (o : BinOp) (x y : AX) : isCall (.bin o x y) = false := rfl
theorem qcv (o : BinOp) (x y : AX) : isPure (.bin o x y) = true := rfl
theorem zdf (o : BinOp) (x y : AX) : isNew (.bin o x y) = false := rfl
theorem zeb (o : BinOp) (x y : AX) (t : Tmps) (q : Nat) : targetC t q (.bin o x y) = [] := rfl
theorem isC_eq (e : EqT) (b : Bool) (x y : AX) : isCall (.eq e b x y) = false := rfl
theorem qdo (e : EqT) (b : Bool) (x y : AX) : isPure (.eq e b x y) = true := rfl
theorem qdy (e : EqT) (b : Bool) (x y : AX) : isNew (.eq e b x y) = false := rfl
theorem zep (e : EqT) (b : Bool) (x y : AX) (t : Tmps) (q : Nat) : targetC t q (.eq e b x y) = [] := rfl
theorem isC_un (o : UnOp) (x : AX) : isCall (.un o x) = false := rfl
theorem zeg (o : UnOp) (x : AX) : isPure (.un o x) = true := rfl
theorem qdx (o : UnOp) (x : AX) : isNew (.un o x) = false := rfl
theorem zel (o : UnOp) (x : AX) (t : Tmps) (q : Nat) : targetC t q (.un o x) = [] := rfl
theorem isC_conv (k : IntKind) (x : AX) : isCall (.conv k x) = false := rfl
theorem qbs (k : IntKind) (x : AX) : isPure (.conv k x) = true := rfl
theorem qbm (k : IntKind) (x : AX) : isNew (.conv k x) = false := rfl
theorem zck (k : IntKind) (x : AX) (t : Tmps) (q : Nat) : targetC t q (.conv k x) = [] := rfl
theorem isC_mkf (f : Nat) (l : List AX) : isCall (.mkf f l) = false := rfl
theorem zcf (f : Nat) (l : List AX) : isPure (.mkf f l) = true := rfl
theorem zdh (f : Nat) (l : List AX) : isNew (.mkf f l) = false := rfl
theorem qdq (f : Nat) (l : List AX) (t : Tmps) (q : Nat) : targetC t q (.mkf f l) = [] := rfl
theorem isC_mkmap  : isCall .mkmap = false := rfl
theorem zay  : isPure .mkmap = false := rfl
theorem zaz  : isNew .mkmap = true := rfl
theorem qbi  (t : Tmps) (q : Nat) : targetC t q .mkmap = [] := rfl
theorem isC_mks (a b : Nat) (z : List AV) (x y : AX) : isCall (.mks a b z x y) = false := rfl
theorem qde (a b : Nat) (z : List AV) (x y : AX) : isPure (.mks a b z x y) = false := rfl
theorem qdh (a b : Nat) (z : List AV) (x y : AX) : isNew (.mks a b z x y) = true := rfl
theorem qdu (a b : Nat) (z : List AV) (x y : AX) (t : Tmps) (q : Nat) : targetC t q (.mks a b z x y) = [] := rfl
theorem isC_slice (n : Nat) (x : AX) (l h m : Option AX) : isCall (.slice n x l h m) = false := rfl
theorem qap (n : Nat) (x : AX) (l h m : Option AX) : isPure (.slice n x l h m) = true := rfl
theorem qaz (n : Nat) (x : AX) (l h m : Option AX) : isNew (.slice n x l h m) = false := rfl
theorem qbn (n : Nat) (x : AX) (l h m : Option AX) (t : Tmps) (q : Nat) : targetC t q (.slice n x l h m) = [] := rfl
theorem isC_flda (n : Nat) (x : AX) : isCall (.flda n x) = false := rfl
theorem zbq (n : Nat) (x : AX) : isPure (.flda n x) = true := rfl
theorem zbo (n : Nat) (x : AX) : isNew (.flda n x) = false := rfl
theorem qcr (n : Nat) (x : AX) (t : Tmps) (q : Nat) : targetC t q (.flda n x) = [] := rfl
theorem isC_fld (b : Bool) (n m : Nat) (x : AX) : isCall (.fld b n m x) = false := rfl
theorem qcq (b : Bool) (n m : Nat) (x : AX) : isPure (.fld b n m x) = true := rfl
theorem zco (b : Bool) (n m : Nat) (x : AX) : isNew (.fld b n m x) = false := rfl
theorem zdu (b : Bool) (n m : Nat) (x : AX) (t : Tmps) (q : Nat) : targetC t q (.fld b n m x) = [] := rfl
theorem isC_idxa (n : Nat) (x y : AX) : isCall (.idxa n x y) = false := rfl
theorem qbp (n : Nat) (x y : AX) : isPure (.idxa n x y) = true := rfl
theorem qbo (n : Nat) (x y : AX) : isNew (.idxa n x y) = false := rfl
theorem qcc (n : Nat) (x y : AX) (t : Tmps) (q : Nat) : targetC t q (.idxa n x y) = [] := rfl
theorem isC_idxp (n m : Nat) (x y : AX) : isCall (.idxp n m x y) = false := rfl
theorem zbk (n m : Nat) (x y : AX) : isPure (.idxp n m x y) = true := rfl
theorem zbr (n m : Nat) (x y : AX) : isNew (.idxp n m x y) = false := rfl
theorem qcj (n m : Nat) (x y : AX) (t : Tmps) (q : Nat) : targetC t q (.idxp n m x y) = [] := rfl
theorem isC_idx (b : Bool) (n m : Nat) (x y : AX) : isCall (.idx b n m x y) = false := rfl
theorem zcv (b : Bool) (n m : Nat) (x y : AX) : isPure (.idx b n m x y) = true := rfl
theorem qck (b : Bool) (n m : Nat) (x y : AX) : isNew (.idx b n m x y) = false := rfl
theorem zdw (b : Bool) (n m : Nat) (x y : AX) (t : Tmps) (q : Nat) : targetC t q (.idx b n m x y) = [] := rfl
theorem isC_idxs (x y : AX) : isCall (.idxs x y) = false := rfl
theorem zbs (x y : AX) : isPure (.idxs x y) = true := rfl
theorem qbj (x y : AX) : isNew (.idxs x y) = false := rfl
theorem zcu (x y : AX) (t : Tmps) (q : Nat) : targetC t q (.idxs x y) = [] := rfl
theorem isC_lookup (z : AV) (b : Bool) (e : EqT) (x y : AX) : isCall (.lookup z b e x y) = false := rfl
theorem zaj (z : AV) (b : Bool) (e : EqT) (x y : AX) : isPure (.lookup z b e x y) = false := rfl
theorem zam (z : AV) (b : Bool) (e : EqT) (x y : AX) : isNew (.lookup z b e x y) = false := rfl
theorem qao (z : AV) (b : Bool) (e : EqT) (x y : AX) (t : Tmps) (q : Nat) : targetC t q (.lookup z b e x y) = [] := rfl
theorem isC_mapup (e : EqT) (x y z : AX) : isCall (.mapup e x y z) = false := rfl
theorem zaq (e : EqT) (x y z : AX) : isPure (.mapup e x y z) = false := rfl
theorem zbb (e : EqT) (x y z : AX) : isNew (.mapup e x y z) = false := rfl
theorem isC_ext (x : AX) (n : Nat) : isCall (.ext x n) = false := rfl
theorem zci (x : AX) (n : Nat) : isPure (.ext x n) = true := rfl
theorem zct (x : AX) (n : Nat) : isNew (.ext x n) = false := rfl
theorem zdp (x : AX) (n : Nat) (t : Tmps) (q : Nat) : targetC t q (.ext x n) = [] := rfl
theorem isC_app (n m : Nat) (x y : AX) : isCall (.app n m x y) = false := rfl
theorem zch (n m : Nat) (x y : AX) : isPure (.app n m x y) = false := rfl
theorem zcs (n m : Nat) (x y : AX) : isNew (.app n m x y) = false := rfl
theorem isC_len (x : AX) : isCall (.len x) = false := rfl
theorem qcw (x : AX) : isPure (.len x) = true := rfl
theorem qda (x : AX) : isNew (.len x) = false := rfl
theorem qdw (x : AX) (t : Tmps) (q : Nat) : targetC t q (.len x) = [] := rfl
theorem isC_lens (x : AX) : isCall (.lens x) = false := rfl
theorem zbz (x : AX) : isPure (.lens x) = true := rfl
theorem qbt (x : AX) : isNew (.lens x) = false := rfl
theorem zcx (x : AX) (t : Tmps) (q : Nat) : targetC t q (.lens x) = [] := rfl
theorem isC_lenm (x : AX) : isCall (.lenm x) = false := rfl
theorem zbu (x : AX) : isPure (.lenm x) = false := rfl
theorem zby (x : AX) : isNew (.lenm x) = false := rfl
theorem qcp (x : AX) (t : Tmps) (q : Nat) : targetC t q (.lenm x) = [] := rfl
theorem isC_min (l : List AX) : isCall (.min l) = false := rfl
theorem qci (l : List AX) : isPure (.min l) = true := rfl
theorem zcc (l : List AX) : isNew (.min l) = false := rfl
theorem zdv (l : List AX) (t : Tmps) (q : Nat) : targetC t q (.min l) = [] := rfl
theorem isC_max (l : List AX) : isCall (.max l) = false := rfl
theorem zdb (l : List AX) : isPure (.max l) = true := rfl
theorem qdc (l : List AX) : isNew (.max l) = false := rfl
theorem qdt (l : List AX) (t : Tmps) (q : Nat) : targetC t q (.max l) = [] := rfl
theorem qca (f : AX) (l : List AX) : isPure (.call f l) = false := rfl
theorem zcw (f : AX) (l : List AX) (t : Tmps) (q : Nat) : targetC t q (.call f l) = [] := rfl
/-- The object that a store writes, if it was there. -/
def tgt (n : Nat) : AV → List (Nat × Nat)
  | .ptr id _ => if id < n then [(id, id + 1)] else []
  | _ => []
theorem tgt_ptr (n id off : Nat) : tgt n (.ptr id off) = if id < n then [(id, id + 1)] else [] := rfl
theorem zev (m : Nat) (a x : AX) (t : Tmps) (n : Nat) : targetC t n (.st m a x) = tgt n (a.ev t) := by
  have e : target t (.st m a x) = (match a.ev t with | .ptr id _ => [(id, id + 1)] | _ => []) := rfl
  unfold targetC tgt
  rw [e]
  cases hv : a.ev t with
  | ptr id off =>
    simp only [List.filter_cons, List.filter_nil]
    by_cases h : id < n
    · rw [if_pos h, if_pos (Nat.ble_eq_true_of_le h)]
    · rw [if_neg h, if_neg (fun e => h (Nat.le_of_ble_eq_true e))]
  | _ => rfl
theorem AH.get_new {h : AH} (k : h.ok) (o : AO) {i : Nat} (h1 : h.n ≤ i) (h2 : i ≤ h.n) : (h.add o).get i = some o := k.new o (Nat.le_antisymm h2 h1)
theorem wo_n {F : Tr AFunc} {orc : Orc} {o : AOp} {t : Tmps} {h : AH} {Q : AV → AH → Prop} (hc : isCall o = false) : WO F orc o t h Q ↔ DP (aopD t h o) (fun v d => Q v (d.on h)) := zfa hc
theorem wl_n {F : Tr AFunc} {orc : Orc} {o : AOp} {t : Tmps} {h : AH} {hid : List (Nat × Nat)} {Q : AV → AH → Prop} (hc : isCall o = false) :
    WL F orc o t h hid Q ↔ DP (aopD t (h.loose (bif isNew o then [(0, h.n)] else hid)) o) (fun v d => Q v (d.on h.mark)) := qey hc
end Go.AM
end
section
/- Slices as lists; loops that count. No condition. -/
namespace Go.AM
theorem dropN_add {α : Type} : ∀ (a b : Nat) (l : List α), dropN (a + b) l = (dropN a l).bind (dropN b)
  | 0, b, l => by rw [Nat.zero_add, zal]; rfl
  | a + 1, b, [] => by
    rw [show a + 1 + b = (a + b) + 1 by omega]; rfl
  | a + 1, b, x :: l => by
    rw [show a + 1 + b = (a + b) + 1 by omega]
    exact dropN_add a b l
theorem takeN_add {α : Type} : ∀ (a b : Nat) (l x y r : List α), takeN a l = some x → dropN a l = some r → takeN b r = some y → takeN (a + b) l = some (x ++ y)
  | 0, b, l, x, y, r, h1, h2, h3 => by
    rw [zag] at h1; rw [zal] at h2; cases h1; cases h2; rw [Nat.zero_add]; exact h3
  | a + 1, b, [], x, y, r, h1, h2, h3 => by cases h1
  | a + 1, b, z :: l, x, y, r, h1, h2, h3 => by
    rw [qag] at h1
    cases h4 : takeN a l with
    | none => rw [h4] at h1; cases h1
    | some x' =>
      rw [h4] at h1; cases h1
      rw [show a + 1 + b = (a + b) + 1 by omega, qag, takeN_add a b l x' y r h4 h2 h3]; rfl
theorem cut_add {α : Type} {off a b : Nat} {l x y : List α} (h1 : cut off a l = some x) (h2 : cut (off + a) b l = some y) : cut off (a + b) l = some (x ++ y) := by
  rw [zdg] at *
  rw [dropN_add] at h2
  cases hd : dropN off l with
  | none => rw [hd] at h1; cases h1
  | some r =>
    rw [hd] at h1 h2
    simp only [Option.bind_some] at h1 h2 ⊢
    cases he : dropN a r with
    | none => rw [he] at h2; cases h2
    | some q =>
      rw [he] at h2
      exact takeN_add a b r x y q h1 he h2
theorem cut_zero_of {α : Type} {off n : Nat} {l x : List α} (h : cut off n l = some x) : cut off 0 l = some [] := by
  rw [zdg] at *
  cases hd : dropN off l with
  | none => rw [hd] at h; cases h
  | some r => simp only [Option.bind_some, zag]
theorem cut_all {es : Nat} {vs : List AV} : ∀ (L : List (List AV)) (off : Nat), L ≠ [] → (∀ k l, L[k]? = some l → cut (off + k * es) es vs = some l) → cut off (L.length * es) vs = some L.flatten
  | [], _, h, _ => absurd rfl h
  | [l], off, _, h => by
    have := h 0 l rfl
    simp only [Nat.zero_mul, Nat.add_zero] at this
    simpa using this
  | l :: m :: r, off, _, h => by
    have h0 := h 0 l rfl
    simp only [Nat.zero_mul, Nat.add_zero] at h0
    have ih := cut_all (m :: r) (off + es) (by simp) fun k x hk => by
      have := h (k + 1) x (by simpa using hk)
      rw [show off + (k + 1) * es = off + es + k * es by rw [Nat.add_mul]; omega] at this; exact this
    have := cut_add h0 ih
    rw [show (l :: m :: r).length * es = es + (m :: r).length * es by simp only [List.length_cons]; rw [Nat.add_mul (r.length + 1)]; omega]
    simpa using this
theorem cut_whole {α : Type} (l : List α) : cut 0 l.length l = some l := by
  rw [zdg, zal]
  simp only [Option.bind_some]
  induction l with
  | nil => rfl
  | cons x l ih => rw [List.length_cons, qag, ih]; rfl

/-- A slice that can be read, and its elements' cells. -/
def SlAt (h : AH) (es : Nat) (v : AV) (L : List (List AV)) : Prop :=
  (v = .nils ∧ L = []) ∨ ∃ id off cap rw vs, v = .sl id off L.length cap es ∧ h.get id = some (.cells rw vs) ∧ (∀ c, cap = some c → L.length ≤ c) ∧ cut off (L.length * es) vs = some L.flatten ∧ ∀ k l, L[k]? = some l → cut (off + k * es) es vs = some l

theorem SlAt.len {h : AH} {es : Nat} {v : AV} {L : List (List AV)} (s : SlAt h es v L) : aLen v = some (.i .i64 L.length) := by
  rcases s with ⟨rfl, rfl⟩ | ⟨id, off, cap, rw, vs, rfl, _⟩ <;> rfl
theorem SlAt.flat {h : AH} {es : Nat} {v : AV} {L : List (List AV)} (s : SlAt h es v L) : AV.flat v = [v] := by
  rcases s with ⟨rfl, rfl⟩ | ⟨id, off, cap, rw, vs, rfl, _⟩ <;> rfl
theorem SlAt.ext {h h' : AH} {es : Nat} {v : AV} {L : List (List AV)} (s : SlAt h es v L) (ok : h.ok) (e : Ext h h') : SlAt h' es v L := by
  rcases s with ⟨rfl, rfl⟩ | ⟨id, off, cap, rw, vs, rfl, hg, hc, hw, hk⟩
  · exact .inl ⟨rfl, rfl⟩
  · exact .inr ⟨id, off, cap, rw, vs, rfl, e.get_some ok hg, hc, hw, hk⟩
theorem SlAt.loose {h : AH} {es : Nat} {v : AV} {L : List (List AV)} (s : SlAt h es v L) {hid : List (Nat × Nat)} (hh : ∀ id off n cap es, v = .sl id off n cap es → zca hid id = false) : SlAt (h.loose hid) es v L := by
  rcases s with ⟨rfl, rfl⟩ | ⟨id, off, cap, rw, vs, rfl, hg, hc, hw, hk⟩
  · exact .inl ⟨rfl, rfl⟩
  · exact .inr ⟨id, off, cap, rw, vs, rfl, by rw [AH.get_loose (hh _ _ _ _ _ rfl)]; exact hg, hc, hw, hk⟩
theorem SlAt.idx {h : AH} (ok : h.ok) {es : Nat} {v : AV} {L : List (List AV)} (s : SlAt h es v L) {k : Nat} (hk : k < L.length) :
    ∃ id off rw vs, aIdxa es v (.i .i64 (k : Int)) = some (.ptr id off) ∧ h.get id = some (.cells rw vs) ∧ id < h.n ∧ cut off es vs = some L[k] := by
  rcases s with ⟨rfl, rfl⟩ | ⟨id, off, cap, rw, vs, rfl, hg, hc, hw, hel⟩
  · simp at hk
  · refine ⟨id, off + k * es, rw, vs, ?_, hg, ok.lt hg, hel k _ (by simp [hk])⟩
    rw [qbw ⟨by omega, by omega⟩]; simp
theorem bound_nat (m n : Nat) (k : IntKind) : bound m (.i k (n : Int)) = if n ≤ m then some n else none := by
  show (bif Nat.ble n m then some n else none) = _
  by_cases h : n ≤ m
  · rw [Nat.ble_eq_true_of_le h, if_pos h]; rfl
  · rw [if_neg h]
    cases hb : Nat.ble n m with
    | true => exact absurd (Nat.le_of_ble_eq_true hb) h
    | false => rfl
theorem SlAt.take {h : AH} {es : Nat} {v : AV} {L : List (List AV)} (s : SlAt h es v L) {i : Nat} (hi : i ≤ L.length) :
    ∃ v', aSlice es v none (some (.i .i64 (i : Int))) none = some v' ∧ SlAt h es v' (L.take i) := by
  rcases s with ⟨rfl, rfl⟩ | ⟨id, off, cap, rw, vs, rfl, hg, hc, hw, hel⟩
  · have : i = 0 := by simpa using hi
    subst this
    exact ⟨.nils, rfl, .inl ⟨rfl, rfl⟩⟩
  · have hlen : (L.take i).length = i := by simp [hi]
    have el : ∀ k l, (L.take i)[k]? = some l → cut (off + k * es) es vs = some l := fun k l hk => hel k l (by
      rw [List.getElem?_take] at hk; split at hk <;> simp_all)
    have e0 : loOf i none = some 0 := rfl
    have hw' : cut off ((L.take i).length * es) vs = some (L.take i).flatten := by
      by_cases hz : L.take i = []
      · rw [hz]; simpa using cut_zero_of hw
      · exact cut_all _ _ hz el
    cases cap with
    | some c =>
      have hc' : L.length ≤ c := hc c rfl
      refine ⟨.sl id off i (some c) es, ?_, .inr ⟨id, off, some c, rw, vs, by rw [hlen], hg, fun c' e => (by cases e; rw [hlen]; omega), hw', el⟩⟩
      have e1 : mxOf c none = some c := rfl
      have e2 : hiOf c L.length false (some (.i .i64 (i : Int))) = some i := by simp only [hiOf]; rw [bound_nat, if_pos (by omega)]
      simp only [aSlice, beq_self', cond_true, e1, aSliceK, Option.isSome_none, e2, e0, Nat.sub_zero]
      cases Nat.beq c 0 <;> simp
    | none =>
      refine ⟨.sl id off i none es, ?_, .inr ⟨id, off, none, rw, vs, by rw [hlen], hg, fun c' e => (by cases e), hw', el⟩⟩
      have e2 : hiOf L.length L.length false (some (.i .i64 (i : Int))) = some i := by simp only [hiOf]; rw [bound_nat, if_pos (by omega)]
      simp only [aSlice, beq_self', cond_true, e2, e0, Nat.sub_zero, Nat.zero_mul, Nat.add_zero]
theorem qau (i : Nat) : ((i + 1 : Nat) : Int) = (i : Int) + 1 := rfl
/-- A pair's cells. -/
def pr (p : Int × Int) : List AV := [.i .i64 p.1, .i .i64 p.2]
theorem cut_pair {a b : AV} {off : Nat} {vs : List AV} (h : cut off 2 vs = some [a, b]) : cut off 1 vs = some [a] ∧ cut (off + 1) 1 vs = some [b] := by
  rw [zdg] at h
  cases hd : dropN off vs with
  | none => rw [hd] at h; cases h
  | some r =>
    rw [hd] at h
    match r, h with
    | [], h => cases h
    | [x], h => cases h
    | x :: y :: r, h =>
      have h : some [x, y] = some [a, b] := h
      injection h with h; injection h with h1 h2; injection h2 with h2 _; subst h1; subst h2
      refine ⟨by rw [zdg, hd]; rfl, ?_⟩
      have : ∀ (n : Nat) (l : List AV) (x : AV) (r : List AV), dropN n l = some (x :: r) → dropN (n + 1) l = some r := by
        intro n
        induction n with
        | zero => intro l x r h; rw [zal] at h; injection h with h; subst h; exact zal r
        | succ n ih =>
          intro l x r h
          cases l with
          | nil => cases h
          | cons z l => exact ih l x r h
      rw [zdg, this off vs x (y :: r) hd]; rfl
theorem SlAt.pair {h : AH} (ok : h.ok) {v : AV} {E : List (Int × Int)} (s : SlAt h 2 v (E.map pr)) {k : Nat} (hk : k < E.length) :
    ∃ id off, aIdxa 2 v (.i .i64 (k : Int)) = some (.ptr id off) ∧ loadO (h.get id) 2 off = some [.i .i64 E[k].1, .i .i64 E[k].2] ∧ loadO (h.get id) 1 off = some [.i .i64 E[k].1] ∧ loadO (h.get id) 1 (off + 1) = some [.i .i64 E[k].2] ∧ id < h.n := by
  obtain ⟨id, off, rw, vs, e1, e2, e3, e4⟩ := s.idx ok (k := k) (by simpa using hk)
  have e5 : cut off 2 vs = some [.i .i64 E[k].1, .i .i64 E[k].2] := by rw [e4]; simp [pr]
  have := cut_pair e5
  exact ⟨id, off, e1, by rw [e2]; exact e5, by rw [e2]; exact this.1, by rw [e2]; exact this.2, e3⟩

section
variable {F : Tr AFunc} {orc : Orc}
def upK (n : Nat) (J : Nat → Tmps → AH → Prop) (i : Nat) (Q : AE → Tmps → AH → Prop) (e : AE) (t : Tmps) (h : AH) : Prop := match e with
  | .normal => i < n ∧ J (i + 1) t h
  | .exit j => Q (.exit j) t h
  | .ret => Q .ret t h
theorem qak (n : Nat) (J : Nat → Tmps → AH → Prop) (i : Nat) (Q : AE → Tmps → AH → Prop) (t : Tmps) (h : AH) : upK n J i Q .normal t h ↔ i < n ∧ J (i + 1) t h := Iff.rfl
theorem qbz (n : Nat) (J : Nat → Tmps → AH → Prop) (i j : Nat) (Q : AE → Tmps → AH → Prop) (t : Tmps) (h : AH) : upK n J i Q (.exit j) t h ↔ Q (.exit j) t h := Iff.rfl
theorem qcf (n : Nat) (J : Nat → Tmps → AH → Prop) (i : Nat) (Q : AE → Tmps → AH → Prop) (t : Tmps) (h : AH) : upK n J i Q .ret t h ↔ Q .ret t h := Iff.rfl
@[congr] theorem upK_congr {n : Nat} {J : Nat → Tmps → AH → Prop} {i : Nat} {Q : AE → Tmps → AH → Prop} {e e' : AE} {t t' : Tmps} {h h' : AH} (e0 : e = e') (e1 : t = t') (e2 : h = h') : upK n J i Q e t h = upK n J i Q e' t' h' := by rw [e0, e1, e2]
/-- A loop that counts up to n. -/
theorem WC.up {b : AC} {Q : AE → Tmps → AH → Prop} (n : Nat) (J : Nat → Tmps → AH → Prop)
    (hb : ∀ i t h, i ≤ n → J i t h → WC F orc b t h (upK n J i Q)) : ∀ i t h, i ≤ n → J i t h → WC F orc (.loop b) t h Q := by
  intro i t h hi hj
  refine WC.loop (Q := Q) (fun k t h => ∃ i, i + k = n ∧ J i t h) (fun k t h ⟨i, e, hj⟩ => ?_) (k := n - i) ⟨i, by omega, hj⟩
  refine (hb i t h (by omega) hj).mono fun e' t' h' q => ?_
  cases e' with
  | normal => obtain ⟨q1, q2⟩ := q; exact ⟨k - 1, by omega, i + 1, by omega, q2⟩
  | exit j => exact q
  | ret => exact q
end
end Go.AM
namespace Go.AM
section
variable {F : Tr AFunc} {orc : Orc}
/-- A call in a region whose order is open. -/
def WLF (F : Tr AFunc) (orc : Orc) (g : Nat) (l : List AV) (h : AH) (hid : List (Nat × Nat)) (Q : AV → AH → Prop) (_ : Fx Q := .mk) : Prop :=
  ∃ n v h', arunG F orc n g l (h.loose hid) = some (v, h') ∧ h.n ≤ h'.wm ∧ Q v (h.back h')
@[congr] theorem WLF_congr {g : Nat} {l l' : List AV} {h h' : AH} {m m' : List (Nat × Nat)} {Q : AV → AH → Prop} (e1 : l = l') (e2 : h = h') (e3 : m = m') : WLF F orc g l h m Q = WLF F orc g l' h' m' Q := by rw [e1, e2, e3]
theorem zbh {g : Nat} {args : List AX} {t : Tmps} {h : AH} {hid : List (Nat × Nat)} {Q : AV → AH → Prop} : WL F orc (.call (.c (.fn g [])) args) t h hid Q ↔ WLF F orc g (evs t args) h hid Q := by
  have e : ∀ n, runOp (arunG F orc n) t { h with wm := h.n, hid := (bif isNew (.call (.c (.fn g [])) args) then [(0, h.n)] else hid) ++ h.hid } (.call (.c (.fn g [])) args) = arunG F orc n g (evs t args ++ []) (h.loose hid) := fun n => rfl
  constructor
  · rintro ⟨n, v, h', a, b⟩
    unfold runLoose at a
    rw [e n, List.append_nil] at a
    split at a
    · cases a
    · rename_i v1 h1 hr
      have hi : (isWrite (.call (.c (.fn g [])) args)) = false := rfl
      rw [hi, Bool.false_or] at a
      cases hb : Nat.ble h.n h1.wm with
      | false => rw [hb] at a; cases a
      | true => rw [hb] at a; cases a; exact ⟨n, v, h1, hr, Nat.le_of_ble_eq_true hb, b⟩
  · rintro ⟨n, v, h', a, hw, b⟩
    refine ⟨n, v, h.back h', ?_, b⟩
    unfold runLoose
    rw [e n, List.append_nil, a]
    simp only [Nat.ble_eq_true_of_le hw, Bool.or_true, cond_true]; rfl
theorem WLF.of {g : Nat} {l : List AV} {h : AH} {hid : List (Nat × Nat)} {Q : AV → AH → Prop} {R : AV → AH → Prop}
    (hs : WF F orc g l (h.loose hid) (fun v h' => R v h' ∧ Ext (h.loose hid) h')) (k : ∀ v h', R v h' → Ext (h.loose hid) h' → Ext h (h.back h') → Q v (h.back h')) : WLF F orc g l h hid Q := by
  obtain ⟨n, v, h', a, r, e⟩ := hs
  exact ⟨n, v, h', a, e.wm h.n (Nat.le_refl _) (Nat.le_refl _), k v h' r e ((Ext.refl h).back e)⟩
/-- .. of which only the value is told. -/
theorem WLF.val {g : Nat} {l : List AV} {h : AH} {hid : List (Nat × Nat)} {Q : AV → AH → Prop} {x : AV}
    (hs : WF F orc g l (h.loose hid) (fun v h' => v = x ∧ Ext (h.loose hid) h')) (k : ∀ h', Ext h h' → Q x h') : WLF F orc g l h hid Q :=
  WLF.of (R := fun v _ => v = x) hs fun v h' r _ e => by rw [r]; exact k _ e
theorem WF.val {g : Nat} {l : List AV} {h : AH} {Q : AV → AH → Prop} {x : AV} (hs : WF F orc g l h (fun v h' => v = x ∧ Ext h h')) (k : ∀ h', Ext h h' → Q x h') : WF F orc g l h Q :=
  hs.mono fun v h' ⟨e1, e2⟩ => by rw [e1]; exact k _ e2
theorem hid_nil {h : AH} : ∀ p ∈ ([] : List (Nat × Nat)), p.2 ≤ h.n := fun p hp => by cases hp
theorem AH.mark_mark (h : AH) : h.mark.mark = h.mark := by
  simp only [AH.mark, minN]
  cases h1 : Nat.ble h.wm h.n <;> simp only [cond_true, cond_false]
  · have e : Nat.ble h.n h.n = true := Nat.ble_eq_true_of_le (Nat.le_refl _)
    rw [e]; rfl
  · rw [h1]; rfl
end
end Go.AM
end
section
/- Maps: look-ups and stores, as rules. No condition. -/
namespace Go.AM
def mpP (v : AV) (P : Prop) (f : Nat → Prop) (_ : Fx P := .mk) (_ : Fx f := .mk) : Prop := match v with | .nilm => P | .mp id => f id | _ => False
@[congr] theorem mpP_congr {v v' : AV} {P : Prop} {f : Nat → Prop} (e : v = v') : mpP v P f = mpP v' P f := by rw [e]
theorem zdk (id : Nat) (P : Prop) (f : Nat → Prop) : mpP (.mp id) P f ↔ f id := Iff.rfl
section
variable {t : Tmps} {h : AH} {f : AV → HD → Prop}
theorem qas {zero : AV} {ok : Bool} {kt : EqT} {m k : AX} : DP (aopD t h (.lookup zero ok kt m k)) f ↔ keyOk kt (k.ev t) = true ∧ mpP (m.ev t) (f (bif ok then .tup [zero, .b false] else zero) .same) (fun id => lookO (h.get id) zero (k.ev t) (fun v b => f (bif ok then .tup [v, .b b] else v) .same)) := by
  cases hm : m.ev t with
  | mp id => rw [d_lookup hm]; rfl
  | nilm =>
    show DP (op_lookup t h zero ok kt m k) f ↔ _
    unfold op_lookup
    rw [hm]
    cases hk : keyOk kt (k.ev t) with
    | false => simp [dp_none]
    | true => simp only [cond_true, dp_some, true_and]; rfl
  | _ =>
    show DP (op_lookup t h zero ok kt m k) f ↔ _
    unfold op_lookup
    rw [hm]
    cases hk : keyOk kt (k.ev t) with
    | false => simp [dp_none]
    | true => simp only [cond_true, dp_none, true_and]; rfl
theorem zbw {kt : EqT} {m k x : AX} : DP (aopD t h (.mapup kt m k x)) f ↔ keyOk kt (k.ev t) = true ∧ mpP (m.ev t) False (fun id => mapO (h.get id) (k.ev t) (x.ev t) (fun o => f und (.put id o))) := by
  cases hm : m.ev t with
  | mp id => rw [d_mapup hm]; rfl
  | _ =>
    show DP (op_mapup t h kt m k x) f ↔ _
    unfold op_mapup
    rw [hm]
    cases hk : keyOk kt (k.ev t) with
    | false => simp [dp_none]
    | true => simp only [cond_true, dp_none, true_and]; rfl
end
theorem zai (a b : IntKind) (x y : Int) : keyOk (.ints 2) (.agg [.i a x, .i b y]) = true := rfl
theorem zas (a : IntKind) (x : Int) : keyOk .int (.i a x) = true := rfl
theorem lookO_hit {k k' v zero : AV} {es : List (AV × AV)} {i : Nat} {f : AV → Bool → Prop} (h : mloc k es 0 = some (some i)) (h2 : es[i]? = some (k', v)) : lookO (some (.map es)) zero k f ↔ f v true := by
  simp only [lookO, h, h2]
theorem lookO_miss {k zero : AV} {es : List (AV × AV)} {f : AV → Bool → Prop} (h : mloc k es 0 = some none) : lookO (some (.map es)) zero k f ↔ f zero false := by
  simp only [lookO, h]
theorem mapO_miss {k v : AV} {es : List (AV × AV)} {f : AO → Prop} (h : mloc k es 0 = some none) : mapO (some (.map es)) k v f ↔ f (.map (es ++ [(k, v)])) := by
  simp only [mapO, h]
theorem mapO_hit {k v : AV} {es : List (AV × AV)} {i : Nat} {f : AO → Prop} (h : mloc k es 0 = some (some i)) : mapO (some (.map es)) k v f ↔ f (.map (es.set i (k, v))) := by
  simp only [mapO, h]
/-! Maps whose keys are pairs. -/
theorem keq_pair (a b : Int × Int) : keq (.agg (pr a)) (.agg (pr b)) = some (decide (a = b)) := by
  obtain ⟨a1, a2⟩ := a; obtain ⟨b1, b2⟩ := b
  simp only [pr, keq, keq.keqs, kEq_eq, decide_true, cond_true, iEq_eq]
  by_cases h1 : a1 = b1
  · have e2 : (a1 == b1) = true := by simpa using h1
    rw [e2, cond_true]
    by_cases h2 : a2 = b2
    · have e3 : (a2 == b2) = true := by simpa using h2
      rw [e3, cond_true]; simp [h1, h2]
    · have e3 : (a2 == b2) = false := by simpa using h2
      rw [e3, cond_false]; simp [h2]
  · have e2 : (a1 == b1) = false := by simpa using h1
    rw [e2, cond_false]; simp [h1]
/-- A map from pairs to one value. -/
def pmap (l : List ((Int × Int) × AV)) : List (AV × AV) := l.map fun p => (.agg (pr p.1), p.2)
theorem mloc_pmap (k : Int × Int) : ∀ (l : List ((Int × Int) × AV)) (i : Nat), mloc (.agg (pr k)) (pmap l) i = some ((l.findIdx? fun p => decide (p.1 = k)).map (· + i))
  | [], i => rfl
  | p :: r, i => by
    have e : pmap (p :: r) = (.agg (pr p.1), p.2) :: pmap r := rfl
    rw [e, mloc, keq_pair, List.findIdx?_cons]
    by_cases h : p.1 = k
    · have h' : k = p.1 := h.symm
      simp [h']
    · have h' : ¬ k = p.1 := fun e => h e.symm
      simp only [h', h, decide_false]
      rw [mloc_pmap k r (i + 1)]
      cases (r.findIdx? fun p => decide (p.1 = k)) <;> simp <;> omega
theorem mloc_none {k : Int × Int} {l : List ((Int × Int) × AV)} (h : ∀ p ∈ l, p.1 ≠ k) : mloc (.agg (pr k)) (pmap l) 0 = some none := by
  rw [mloc_pmap, List.findIdx?_eq_none_iff.mpr]; rfl
  intro p hp; simpa using h p hp
theorem mloc_some {k : Int × Int} {l : List ((Int × Int) × AV)} (h : ∃ p ∈ l, p.1 = k) : ∃ i p, mloc (.agg (pr k)) (pmap l) 0 = some (some i) ∧ l[i]? = some p ∧ p.1 = k ∧ (pmap l)[i]? = some (.agg (pr k), p.2) := by
  cases hf : l.findIdx? fun p => decide (p.1 = k) with
  | none =>
    obtain ⟨p, hp, e⟩ := h
    have := List.findIdx?_eq_none_iff.mp hf p hp
    simp [e] at this
  | some i =>
    obtain ⟨hi, e1, _⟩ := List.findIdx?_eq_some_iff_getElem.mp hf
    refine ⟨i, l[i], by rw [mloc_pmap, hf]; simp, by simp [hi], by simpa using e1, ?_⟩
    have e2 : l[i].1 = k := by simpa using e1
    simp [pmap, hi, e2]
end Go.AM
end
section
/- append: onto nothing, and onto a slice of one's own. Conditions: the room is there. -/
namespace Go.AM
theorem zcz (h : AH) (i : Nat) (o : AO) : (HD.kadd i o).on h = (h.put i .dead).add o := rfl
theorem zej {t : Tmps} {h : AH} {f : AV → HD → Prop} {es b : Nat} {s x : AX} : DP (aopD t h (.app es b s x)) f ↔ DP (aAppend h es b (s.ev t) (x.ev t)) f := Iff.rfl
theorem AH.has_new1 {h : AH} {o : AO} {k : Nat} (hk : k = h.n) (ok : h.ok) : (h.add o).has k := AH.has_new ok o hk
theorem AH.ok_put1 {h : AH} {i : Nat} {o : AO} (hi : i < h.n) (ok : h.ok) : (h.put i o).ok := ok.put hi o
theorem zfc {a b i : Nat} {r : List (Nat × Nat)} {x : Bool} (h : i < a ∨ b ≤ i) (hr : zca r i = x) : zca ((a, b) :: r) i = x := (zaa _ _ _ _ h).trans hr
/-- The object that an append writes, if it was there. -/
def tgtS (n : Nat) : AV → List (Nat × Nat)
  | .sl id _ _ _ _ => if id < n then [(id, id + 1)] else []
  | _ => []
theorem tgtS_sl (n id a b : Nat) (c : Option Nat) (d : Nat) : tgtS n (.sl id a b c d) = if id < n then [(id, id + 1)] else [] := rfl
theorem zau (n : Nat) : tgtS n .nils = [] := rfl
theorem zdy (m k : Nat) (a x : AX) (t : Tmps) (n : Nat) : targetC t n (.app m k a x) = tgtS n (a.ev t) := by
  have e : target t (.app m k a x) = (match a.ev t with | .sl id _ _ _ _ => [(id, id + 1)] | _ => []) := rfl
  unfold targetC tgtS
  rw [e]
  cases hv : a.ev t with
  | sl id a b c d =>
    simp only [List.filter_cons, List.filter_nil]
    by_cases h : id < n
    · rw [if_pos h, if_pos (Nat.ble_eq_true_of_le h)]
    · rw [if_neg h, if_neg (fun e => h (Nat.le_of_ble_eq_true e))]
  | _ => rfl
theorem fits_of {n b : Nat} (h : n * b ≤ 140737488355328) (h2 : n ≤ 140737488355328) : fits n b = true := by
  unfold fits; rw [Nat.ble_eq_true_of_le h, Nat.ble_eq_true_of_le h2]; rfl
theorem app_nils {H : AH} {es bytes : Nat} {x : AV} {L : List (List AV)} (s : SlAt H es x L) (h1 : L.length * bytes ≤ 140737488355328) (h2 : L.length ≤ 140737488355328) :
    (L = [] ∧ aAppend H es bytes .nils x = some (.nils, .same)) ∨ (L ≠ [] ∧ aAppend H es bytes .nils x = some (.sl H.n 0 L.length none es, .add (.cells true L.flatten))) := by
  rcases s with ⟨rfl, rfl⟩ | ⟨id, off, cap, rw, vs, rfl, hg, hc, hw, hel⟩
  · exact .inl ⟨rfl, rfl⟩
  · by_cases h : L = []
    · left
      subst h
      refine ⟨rfl, ?_⟩
      simp only [aAppend, elems, beq_self', cond_true, hg, hw]; rfl
    · right
      refine ⟨h, ?_⟩
      obtain ⟨n, hn⟩ : ∃ n, L.length = n + 1 := ⟨L.length - 1, by have := List.length_pos_iff.mpr h; omega⟩
      have hf := fits_of h1 h2
      simp only [aAppend, elems, beq_self', cond_true, hg, hw]
      rw [hn] at hf ⊢
      simp only [hf, cond_true]
theorem zcd {n id off : Nat} (h : id < n) : tgt n (.ptr id off) = [(id, id + 1)] := if_pos h
theorem qce {n id off : Nat} (h : n ≤ id) : tgt n (.ptr id off) = [] := if_neg (by omega)
theorem zbf {n id a b d : Nat} {c : Option Nat} (h : id < n) : tgtS n (.sl id a b c d) = [(id, id + 1)] := if_pos h
theorem zbv {n id a b d : Nat} {c : Option Nat} (h : n ≤ id) : tgtS n (.sl id a b c d) = [] := if_neg (by omega)
/-- A slice of one's own, made by append; its object was made behind a mark. -/
def OwnAt (m : Nat) (H : AH) (es : Nat) (v : AV) (L : List (List AV)) : Prop :=
  (∀ l ∈ L, l.length = es) ∧ ((v = .nils ∧ L = []) ∨ ∃ id, v = .sl id 0 L.length none es ∧ H.get id = some (.cells true L.flatten) ∧ m ≤ id)
theorem OwnAt.flat {m : Nat} {H : AH} {es : Nat} {v : AV} {L : List (List AV)} (o : OwnAt m H es v L) : AV.flat v = [v] := by
  obtain ⟨_, ⟨rfl, _⟩ | ⟨id, rfl, _⟩⟩ := o <;> rfl
theorem flatten_len {es : Nat} : ∀ {L : List (List AV)}, (∀ l ∈ L, l.length = es) → L.flatten.length = L.length * es
  | [], _ => by simp
  | l :: r, h => by
    rw [List.flatten_cons, List.length_append, flatten_len fun x hx => h x (by simp [hx]), h l (by simp), List.length_cons, Nat.add_mul]; omega
theorem flatten_cut {es : Nat} : ∀ {L : List (List AV)} {k : Nat} {l : List AV}, (∀ l ∈ L, l.length = es) → L[k]? = some l → cut (k * es) es L.flatten = some l
  | [], k, l, _, h => by simp at h
  | x :: r, 0, l, hl, h => by
    have e : x = l := by simpa using h
    subst e
    rw [Nat.zero_mul, zdg, zal]
    have hx : x.length = es := hl x (by simp)
    subst hx
    have : ∀ (x y : List AV), takeN x.length (x ++ y) = some x := by
      intro x y
      induction x with
      | nil => exact zag _
      | cons a x ih => rw [List.length_cons, List.cons_append, qag, ih]; rfl
    exact this _ _
  | x :: r, k + 1, l, hl, h => by
    have ih := flatten_cut (L := r) (k := k) (l := l) (fun y hy => hl y (by simp [hy])) (by simpa using h)
    have hx : x.length = es := hl x (by simp)
    rw [zdg] at ih ⊢
    rw [show (k + 1) * es = es + k * es by rw [Nat.add_mul]; omega, dropN_add]
    have : dropN es (x :: r).flatten = some r.flatten := by
      subst hx
      rw [List.flatten_cons]
      have : ∀ (x y : List AV), dropN x.length (x ++ y) = some y := by
        intro x y
        induction x with
        | nil => exact zal _
        | cons a x ih => rw [List.length_cons, List.cons_append, zan]; exact ih
      exact this _ _
    rw [this]; exact ih
theorem OwnAt.sl {m : Nat} {H : AH} {es : Nat} {v : AV} {L : List (List AV)} (o : OwnAt m H es v L) : SlAt H es v L := by
  obtain ⟨hl, ⟨rfl, rfl⟩ | ⟨id, rfl, hg, _⟩⟩ := o
  · exact .inl ⟨rfl, rfl⟩
  · refine .inr ⟨id, 0, none, true, _, rfl, hg, fun c e => (by cases e), ?_, fun k l hk => ?_⟩
    · rw [← flatten_len hl]; exact cut_whole _
    · rw [Nat.zero_add]; exact flatten_cut hl hk
theorem OwnAt.le {m m' : Nat} {H : AH} {es : Nat} {v : AV} {L : List (List AV)} (o : OwnAt m H es v L) (h : m' ≤ m) : OwnAt m' H es v L := by
  obtain ⟨hl, h' | ⟨id, e, hg, hid⟩⟩ := o
  · exact ⟨hl, .inl h'⟩
  · exact ⟨hl, .inr ⟨id, e, hg, Nat.le_trans h hid⟩⟩
theorem OwnAt.ext {m : Nat} {H H' : AH} {es : Nat} {v : AV} {L : List (List AV)} (o : OwnAt m H es v L) (ok : H.ok) (e : Ext H H') : OwnAt m H' es v L := by
  obtain ⟨hl, h' | ⟨id, e1, hg, hid⟩⟩ := o
  · exact ⟨hl, .inl h'⟩
  · exact ⟨hl, .inr ⟨id, e1, e.get_some ok hg, hid⟩⟩
/-- Objects ahead of its own are written. -/
theorem OwnAt.put {m : Nat} {H : AH} {es : Nat} {v : AV} {L : List (List AV)} (o : OwnAt m H es v L) {i : Nat} (hi : i < m) (x : AO) : OwnAt m (H.put i x) es v L := by
  obtain ⟨hl, h' | ⟨id, e1, hg, hid⟩⟩ := o
  · exact ⟨hl, .inl h'⟩
  · exact ⟨hl, .inr ⟨id, e1, by rw [AH.get_put_other _ (by omega)]; exact hg, hid⟩⟩
theorem OwnAt.nil (m : Nat) (H : AH) (es : Nat) : OwnAt m H es .nils [] := ⟨by simp, .inl ⟨rfl, rfl⟩⟩
/-- One more. -/
theorem OwnAt.app {m : Nat} {H : AH} {es bytes : Nat} {v : AV} {L : List (List AV)} (o : OwnAt m H es v L) (ok : H.ok) {k : Nat} {c : List AV} {rw_ : Bool} {cap : Option Nat} (hk : H.get k = some (.cells rw_ c)) (hc : c.length = es) (hm : m ≤ H.n)
    (hb : (L.length + 1) * bytes ≤ 140737488355328) (hb2 : L.length + 1 ≤ 140737488355328) :
    ∃ v' d, aAppend H es bytes v (.sl k 0 1 cap es) = some (v', d) ∧ OwnAt m (d.on H) es v' (L ++ [c]) ∧ (∀ h0, h0.n ≤ m → Ext h0 H → Ext h0 (d.on H)) ∧ (d.on H).n = H.n + 1 ∧ (∀ j, j < m → (d.on H).get j = H.get j) := by
  have e1 : elems H es (.sl k 0 1 cap es) = some c := by
    simp only [elems, beq_self', cond_true, hk, Nat.one_mul]; rw [← hc]; exact cut_whole c
  have hl' : ∀ l ∈ L ++ [c], l.length = es := fun l hl => by
    rcases List.mem_append.mp hl with h | h
    · exact o.1 l h
    · simp at h; subst h; exact hc
  obtain ⟨hl, ⟨rfl, rfl⟩ | ⟨id, rfl, hg, hid⟩⟩ := o
  · refine ⟨.sl H.n 0 1 none es, .add (.cells true c), ?_, ⟨hl', .inr ⟨H.n, rfl, ?_, hm⟩⟩, fun h0 _ e => e.add _, rfl, fun j hj => AH.get_add_old _ (by omega)⟩
    · simp only [aAppend, e1]
      have : fits 1 bytes = true := fits_of (by simpa using hb) (by simpa using hb2)
      simp only [this, cond_true]
    · simp [zdn]; exact AH.get_new ok (.cells true c) (Nat.le_refl _) (Nat.le_refl _)
  · have hidn : id < H.n := ok.lt hg
    have hcut : cut 0 (L.length * es) L.flatten = some L.flatten := by rw [← flatten_len hl]; exact cut_whole _
    refine ⟨.sl H.n 0 (L.length + 1) none es, .kadd id (.cells true (L.flatten ++ c)), ?_, ⟨hl', .inr ⟨H.n, by simp, ?_, hm⟩⟩, fun h0 h0m e => ?_, rfl, fun j hj => ?_⟩
    · simp only [aAppend, e1, beq_self', cond_true, hg]
      have hf : fits (L.length + 1) bytes = true := fits_of hb hb2
      simp only [hf, Bool.and_self, cond_true, hcut]
    · show ((H.put id .dead).add _).get H.n = _
      rw [AH.get_new (h := H.put id .dead) (i := H.n) (ok.put hidn _) _ (Nat.le_refl _) (Nat.le_refl _)]; simp
    · exact (e.put _ (by omega) hidn).add _
    · show ((H.put id .dead).add _).get j = _
      rw [AH.get_add_old _ (by show j < H.n; omega), AH.get_put_other _ (by omega)]
theorem OwnAt.keep {m : Nat} {H H' : AH} {es : Nat} {v : AV} {L : List (List AV)} (o : OwnAt m H es v L) (hk : ∀ j x, m ≤ j → H.get j = some x → H'.get j = some x) : OwnAt m H' es v L := by
  obtain ⟨hl, h | ⟨id, rfl, hg, hid⟩⟩ := o
  · exact ⟨hl, .inl h⟩
  · exact ⟨hl, .inr ⟨id, rfl, hk _ _ hid hg, hid⟩⟩
end Go.AM
end
section
/- Names of slots. -/
namespace Go.AM
abbrev s000 : Sl := .s .d0 .d0 .d0
abbrev s001 : Sl := .s .d0 .d0 .d1
abbrev s002 : Sl := .s .d0 .d0 .d2
abbrev s003 : Sl := .s .d0 .d0 .d3
abbrev s004 : Sl := .s .d0 .d0 .d4
abbrev s005 : Sl := .s .d0 .d0 .d5
abbrev s006 : Sl := .s .d0 .d0 .d6
abbrev s007 : Sl := .s .d0 .d0 .d7
abbrev s010 : Sl := .s .d0 .d1 .d0
abbrev s011 : Sl := .s .d0 .d1 .d1
abbrev s012 : Sl := .s .d0 .d1 .d2
abbrev s013 : Sl := .s .d0 .d1 .d3
abbrev s014 : Sl := .s .d0 .d1 .d4
abbrev s015 : Sl := .s .d0 .d1 .d5
abbrev s016 : Sl := .s .d0 .d1 .d6
abbrev s017 : Sl := .s .d0 .d1 .d7
abbrev s020 : Sl := .s .d0 .d2 .d0
abbrev s021 : Sl := .s .d0 .d2 .d1
abbrev s022 : Sl := .s .d0 .d2 .d2
abbrev s023 : Sl := .s .d0 .d2 .d3
abbrev s024 : Sl := .s .d0 .d2 .d4
abbrev s025 : Sl := .s .d0 .d2 .d5
abbrev s026 : Sl := .s .d0 .d2 .d6
abbrev s027 : Sl := .s .d0 .d2 .d7
abbrev s030 : Sl := .s .d0 .d3 .d0
abbrev s031 : Sl := .s .d0 .d3 .d1
abbrev s032 : Sl := .s .d0 .d3 .d2
abbrev s033 : Sl := .s .d0 .d3 .d3
abbrev s034 : Sl := .s .d0 .d3 .d4
abbrev s035 : Sl := .s .d0 .d3 .d5
abbrev s036 : Sl := .s .d0 .d3 .d6
abbrev s037 : Sl := .s .d0 .d3 .d7
abbrev s040 : Sl := .s .d0 .d4 .d0
abbrev s041 : Sl := .s .d0 .d4 .d1
abbrev s042 : Sl := .s .d0 .d4 .d2
abbrev s043 : Sl := .s .d0 .d4 .d3
abbrev s044 : Sl := .s .d0 .d4 .d4
abbrev s045 : Sl := .s .d0 .d4 .d5
abbrev s046 : Sl := .s .d0 .d4 .d6
abbrev s047 : Sl := .s .d0 .d4 .d7
abbrev s050 : Sl := .s .d0 .d5 .d0
abbrev s051 : Sl := .s .d0 .d5 .d1
abbrev s052 : Sl := .s .d0 .d5 .d2
abbrev s053 : Sl := .s .d0 .d5 .d3
abbrev s054 : Sl := .s .d0 .d5 .d4
abbrev s055 : Sl := .s .d0 .d5 .d5
abbrev s056 : Sl := .s .d0 .d5 .d6
abbrev s057 : Sl := .s .d0 .d5 .d7
abbrev s060 : Sl := .s .d0 .d6 .d0
abbrev s061 : Sl := .s .d0 .d6 .d1
abbrev s062 : Sl := .s .d0 .d6 .d2
abbrev s063 : Sl := .s .d0 .d6 .d3
abbrev s064 : Sl := .s .d0 .d6 .d4
abbrev s065 : Sl := .s .d0 .d6 .d5
abbrev s066 : Sl := .s .d0 .d6 .d6
abbrev s067 : Sl := .s .d0 .d6 .d7
abbrev s070 : Sl := .s .d0 .d7 .d0
abbrev s071 : Sl := .s .d0 .d7 .d1
abbrev s072 : Sl := .s .d0 .d7 .d2
abbrev s073 : Sl := .s .d0 .d7 .d3
abbrev s074 : Sl := .s .d0 .d7 .d4
abbrev s075 : Sl := .s .d0 .d7 .d5
abbrev s076 : Sl := .s .d0 .d7 .d6
abbrev s077 : Sl := .s .d0 .d7 .d7
abbrev s100 : Sl := .s .d1 .d0 .d0
abbrev s101 : Sl := .s .d1 .d0 .d1
abbrev s102 : Sl := .s .d1 .d0 .d2
abbrev s103 : Sl := .s .d1 .d0 .d3
abbrev s104 : Sl := .s .d1 .d0 .d4
abbrev s105 : Sl := .s .d1 .d0 .d5
abbrev s106 : Sl := .s .d1 .d0 .d6
abbrev s107 : Sl := .s .d1 .d0 .d7
abbrev s110 : Sl := .s .d1 .d1 .d0
abbrev s111 : Sl := .s .d1 .d1 .d1
abbrev s112 : Sl := .s .d1 .d1 .d2
abbrev s113 : Sl := .s .d1 .d1 .d3
abbrev s114 : Sl := .s .d1 .d1 .d4
abbrev s115 : Sl := .s .d1 .d1 .d5
abbrev s116 : Sl := .s .d1 .d1 .d6
abbrev s117 : Sl := .s .d1 .d1 .d7
abbrev s120 : Sl := .s .d1 .d2 .d0
abbrev s121 : Sl := .s .d1 .d2 .d1
abbrev s122 : Sl := .s .d1 .d2 .d2
abbrev s123 : Sl := .s .d1 .d2 .d3
abbrev s124 : Sl := .s .d1 .d2 .d4
abbrev s125 : Sl := .s .d1 .d2 .d5
abbrev s126 : Sl := .s .d1 .d2 .d6
abbrev s127 : Sl := .s .d1 .d2 .d7
abbrev s130 : Sl := .s .d1 .d3 .d0
abbrev s131 : Sl := .s .d1 .d3 .d1
abbrev s132 : Sl := .s .d1 .d3 .d2
abbrev s133 : Sl := .s .d1 .d3 .d3
abbrev s134 : Sl := .s .d1 .d3 .d4
abbrev s135 : Sl := .s .d1 .d3 .d5
abbrev s136 : Sl := .s .d1 .d3 .d6
abbrev s137 : Sl := .s .d1 .d3 .d7
abbrev s140 : Sl := .s .d1 .d4 .d0
abbrev s141 : Sl := .s .d1 .d4 .d1
abbrev s142 : Sl := .s .d1 .d4 .d2
abbrev s143 : Sl := .s .d1 .d4 .d3
abbrev s144 : Sl := .s .d1 .d4 .d4
abbrev s145 : Sl := .s .d1 .d4 .d5
abbrev s146 : Sl := .s .d1 .d4 .d6
abbrev s147 : Sl := .s .d1 .d4 .d7
abbrev s150 : Sl := .s .d1 .d5 .d0
abbrev s151 : Sl := .s .d1 .d5 .d1
abbrev s152 : Sl := .s .d1 .d5 .d2
abbrev s153 : Sl := .s .d1 .d5 .d3
abbrev s154 : Sl := .s .d1 .d5 .d4
abbrev s155 : Sl := .s .d1 .d5 .d5
abbrev s156 : Sl := .s .d1 .d5 .d6
abbrev s157 : Sl := .s .d1 .d5 .d7
abbrev s160 : Sl := .s .d1 .d6 .d0
abbrev s161 : Sl := .s .d1 .d6 .d1
abbrev s162 : Sl := .s .d1 .d6 .d2
abbrev s163 : Sl := .s .d1 .d6 .d3
abbrev s164 : Sl := .s .d1 .d6 .d4
abbrev s165 : Sl := .s .d1 .d6 .d5
abbrev s166 : Sl := .s .d1 .d6 .d6
abbrev s167 : Sl := .s .d1 .d6 .d7
abbrev s170 : Sl := .s .d1 .d7 .d0
abbrev s171 : Sl := .s .d1 .d7 .d1
abbrev s172 : Sl := .s .d1 .d7 .d2
abbrev s173 : Sl := .s .d1 .d7 .d3
abbrev s174 : Sl := .s .d1 .d7 .d4
abbrev s175 : Sl := .s .d1 .d7 .d5
abbrev s176 : Sl := .s .d1 .d7 .d6
abbrev s177 : Sl := .s .d1 .d7 .d7
abbrev s200 : Sl := .s .d2 .d0 .d0
abbrev s201 : Sl := .s .d2 .d0 .d1
abbrev s202 : Sl := .s .d2 .d0 .d2
abbrev s203 : Sl := .s .d2 .d0 .d3
abbrev s204 : Sl := .s .d2 .d0 .d4
abbrev s205 : Sl := .s .d2 .d0 .d5
abbrev s206 : Sl := .s .d2 .d0 .d6
abbrev s207 : Sl := .s .d2 .d0 .d7
abbrev s210 : Sl := .s .d2 .d1 .d0
abbrev s211 : Sl := .s .d2 .d1 .d1
abbrev s212 : Sl := .s .d2 .d1 .d2
abbrev s213 : Sl := .s .d2 .d1 .d3
abbrev s214 : Sl := .s .d2 .d1 .d4
abbrev s215 : Sl := .s .d2 .d1 .d5
abbrev s216 : Sl := .s .d2 .d1 .d6
abbrev s217 : Sl := .s .d2 .d1 .d7
abbrev s220 : Sl := .s .d2 .d2 .d0
abbrev s221 : Sl := .s .d2 .d2 .d1
abbrev s222 : Sl := .s .d2 .d2 .d2
abbrev s223 : Sl := .s .d2 .d2 .d3
abbrev s224 : Sl := .s .d2 .d2 .d4
abbrev s225 : Sl := .s .d2 .d2 .d5
abbrev s226 : Sl := .s .d2 .d2 .d6
abbrev s227 : Sl := .s .d2 .d2 .d7
abbrev s230 : Sl := .s .d2 .d3 .d0
abbrev s231 : Sl := .s .d2 .d3 .d1
abbrev s232 : Sl := .s .d2 .d3 .d2
abbrev s233 : Sl := .s .d2 .d3 .d3
abbrev s234 : Sl := .s .d2 .d3 .d4
abbrev s235 : Sl := .s .d2 .d3 .d5
abbrev s236 : Sl := .s .d2 .d3 .d6
abbrev s237 : Sl := .s .d2 .d3 .d7
abbrev s240 : Sl := .s .d2 .d4 .d0
abbrev s241 : Sl := .s .d2 .d4 .d1
abbrev s242 : Sl := .s .d2 .d4 .d2
abbrev s243 : Sl := .s .d2 .d4 .d3
abbrev s244 : Sl := .s .d2 .d4 .d4
abbrev s245 : Sl := .s .d2 .d4 .d5
abbrev s246 : Sl := .s .d2 .d4 .d6
abbrev s247 : Sl := .s .d2 .d4 .d7
abbrev s250 : Sl := .s .d2 .d5 .d0
abbrev s251 : Sl := .s .d2 .d5 .d1
abbrev s252 : Sl := .s .d2 .d5 .d2
abbrev s253 : Sl := .s .d2 .d5 .d3
abbrev s254 : Sl := .s .d2 .d5 .d4
abbrev s255 : Sl := .s .d2 .d5 .d5
abbrev s256 : Sl := .s .d2 .d5 .d6
abbrev s257 : Sl := .s .d2 .d5 .d7
abbrev s260 : Sl := .s .d2 .d6 .d0
abbrev s261 : Sl := .s .d2 .d6 .d1
abbrev s262 : Sl := .s .d2 .d6 .d2
abbrev s263 : Sl := .s .d2 .d6 .d3
abbrev s264 : Sl := .s .d2 .d6 .d4
abbrev s265 : Sl := .s .d2 .d6 .d5
abbrev s266 : Sl := .s .d2 .d6 .d6
abbrev s267 : Sl := .s .d2 .d6 .d7
abbrev s270 : Sl := .s .d2 .d7 .d0
abbrev s271 : Sl := .s .d2 .d7 .d1
abbrev s272 : Sl := .s .d2 .d7 .d2
abbrev s273 : Sl := .s .d2 .d7 .d3
abbrev s274 : Sl := .s .d2 .d7 .d4
abbrev s275 : Sl := .s .d2 .d7 .d5
abbrev s276 : Sl := .s .d2 .d7 .d6
abbrev s277 : Sl := .s .d2 .d7 .d7
abbrev s300 : Sl := .s .d3 .d0 .d0
abbrev s301 : Sl := .s .d3 .d0 .d1
abbrev s302 : Sl := .s .d3 .d0 .d2
abbrev s303 : Sl := .s .d3 .d0 .d3
abbrev s304 : Sl := .s .d3 .d0 .d4
abbrev s305 : Sl := .s .d3 .d0 .d5
abbrev s306 : Sl := .s .d3 .d0 .d6
abbrev s307 : Sl := .s .d3 .d0 .d7
abbrev s310 : Sl := .s .d3 .d1 .d0
abbrev s311 : Sl := .s .d3 .d1 .d1
abbrev s312 : Sl := .s .d3 .d1 .d2
abbrev s313 : Sl := .s .d3 .d1 .d3
abbrev s314 : Sl := .s .d3 .d1 .d4
abbrev s315 : Sl := .s .d3 .d1 .d5
abbrev s316 : Sl := .s .d3 .d1 .d6
abbrev s317 : Sl := .s .d3 .d1 .d7
abbrev s320 : Sl := .s .d3 .d2 .d0
abbrev s321 : Sl := .s .d3 .d2 .d1
abbrev s322 : Sl := .s .d3 .d2 .d2
abbrev s323 : Sl := .s .d3 .d2 .d3
abbrev s324 : Sl := .s .d3 .d2 .d4
abbrev s325 : Sl := .s .d3 .d2 .d5
abbrev s326 : Sl := .s .d3 .d2 .d6
abbrev s327 : Sl := .s .d3 .d2 .d7
abbrev s330 : Sl := .s .d3 .d3 .d0
abbrev s331 : Sl := .s .d3 .d3 .d1
abbrev s332 : Sl := .s .d3 .d3 .d2
abbrev s333 : Sl := .s .d3 .d3 .d3
abbrev s334 : Sl := .s .d3 .d3 .d4
abbrev s335 : Sl := .s .d3 .d3 .d5
abbrev s336 : Sl := .s .d3 .d3 .d6
abbrev s337 : Sl := .s .d3 .d3 .d7
abbrev s340 : Sl := .s .d3 .d4 .d0
abbrev s341 : Sl := .s .d3 .d4 .d1
abbrev s342 : Sl := .s .d3 .d4 .d2
abbrev s343 : Sl := .s .d3 .d4 .d3
abbrev s344 : Sl := .s .d3 .d4 .d4
abbrev s345 : Sl := .s .d3 .d4 .d5
abbrev s346 : Sl := .s .d3 .d4 .d6
abbrev s347 : Sl := .s .d3 .d4 .d7
abbrev s350 : Sl := .s .d3 .d5 .d0
abbrev s351 : Sl := .s .d3 .d5 .d1
abbrev s352 : Sl := .s .d3 .d5 .d2
abbrev s353 : Sl := .s .d3 .d5 .d3
abbrev s354 : Sl := .s .d3 .d5 .d4
abbrev s355 : Sl := .s .d3 .d5 .d5
abbrev s356 : Sl := .s .d3 .d5 .d6
abbrev s357 : Sl := .s .d3 .d5 .d7
abbrev s360 : Sl := .s .d3 .d6 .d0
abbrev s361 : Sl := .s .d3 .d6 .d1
abbrev s362 : Sl := .s .d3 .d6 .d2
abbrev s363 : Sl := .s .d3 .d6 .d3
abbrev s364 : Sl := .s .d3 .d6 .d4
abbrev s365 : Sl := .s .d3 .d6 .d5
abbrev s366 : Sl := .s .d3 .d6 .d6
abbrev s367 : Sl := .s .d3 .d6 .d7
abbrev s370 : Sl := .s .d3 .d7 .d0
abbrev s371 : Sl := .s .d3 .d7 .d1
abbrev s372 : Sl := .s .d3 .d7 .d2
abbrev s373 : Sl := .s .d3 .d7 .d3
abbrev s374 : Sl := .s .d3 .d7 .d4
abbrev s375 : Sl := .s .d3 .d7 .d5
abbrev s376 : Sl := .s .d3 .d7 .d6
abbrev s377 : Sl := .s .d3 .d7 .d7
end Go.AM
end
