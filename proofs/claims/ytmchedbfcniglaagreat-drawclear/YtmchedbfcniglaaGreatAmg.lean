/- Part 7 of the proof that 'DrawClear' holds. Conditions: as each part says. -/
import Derived.Test.YtmchedbfcniglaaGreatAma
import Derived.Test.YtmchedbfcniglaaGreatAmb
import Derived.Test.YtmchedbfcniglaaGreatAmd
import Derived.Test.YtmchedbfcniglaaGreatAmf
set_option linter.unusedSimpArgs false
set_option linter.unusedVariables false
set_option linter.unusedSectionVars false
set_option linter.unnecessarySimpa false
section
/- The abstract machine, run strictly (for the kernel): the same answers. No condition. -/
namespace Go.AM

def fN (n : Nat) (k : Nat → Bool) : Bool := Nat.rec (motive := fun _ => Bool) (k 0) (fun m _ => k (m + 1)) n
theorem fN_eq (n : Nat) (k : Nat → Bool) : fN n k = k n := by cases n <;> rfl
def fI : Int → (Int → Bool) → Bool
  | .ofNat n, k => fN n fun n => k (.ofNat n)
  | .negSucc n, k => fN n fun n => k (.negSucc n)
theorem fI_eq (n : Int) (k : Int → Bool) : fI n k = k n := by cases n <;> simp [fI, fN_eq]
def fB : Bool → (Bool → Bool) → Bool
  | true, k => k true
  | false, k => k false
theorem fB_eq (n : Bool) (k : Bool → Bool) : fB n k = k n := by cases n <;> rfl
def fON : Option Nat → (Option Nat → Bool) → Bool
  | none, k => k none
  | some n, k => fN n fun n => k (some n)
theorem fON_eq (n : Option Nat) (k : Option Nat → Bool) : fON n k = k n := by cases n <;> simp [fON, fN_eq]

def fS : AV → (AV → Bool) → Bool
  | .b v, k => fB v fun v => k (.b v)
  | .i t n, k => fI n fun n => k (.i t n)
  | .ptr a b, k => fN a fun a => fN b fun b => k (.ptr a b)
  | .sl a b c d e, k => fN a fun a => fN b fun b => fN c fun c => fON d fun d => fN e fun e => k (.sl a b c d e)
  | .mp a, k => fN a fun a => k (.mp a)
  | v, k => k v
theorem fS_eq (v : AV) (k : AV → Bool) : fS v k = k v := by cases v <;> simp [fS, fB_eq, fI_eq, fN_eq, fON_eq]
def fLS : List AV → (List AV → Bool) → Bool
  | [], k => k []
  | v :: r, k => fS v fun v => fLS r fun r => k (v :: r)
theorem fLS_eq (l : List AV) : ∀ k : List AV → Bool, fLS l k = k l := by
  induction l with
  | nil => intro k; rfl
  | cons v r ih => intro k; simp [fLS, fS_eq, ih]
def fV1 : AV → (AV → Bool) → Bool
  | .agg l, k => fLS l fun l => k (.agg l)
  | .fn f l, k => fLS l fun l => k (.fn f l)
  | v, k => fS v k
theorem fV1_eq (v : AV) (k : AV → Bool) : fV1 v k = k v := by cases v <;> simp [fV1, fLS_eq, fS_eq]
def fL1 : List AV → (List AV → Bool) → Bool
  | [], k => k []
  | v :: r, k => fV1 v fun v => fL1 r fun r => k (v :: r)
theorem fL1_eq (l : List AV) : ∀ k : List AV → Bool, fL1 l k = k l := by
  induction l with
  | nil => intro k; rfl
  | cons v r ih => intro k; simp [fL1, fV1_eq, ih]
def fV : AV → (AV → Bool) → Bool
  | .tup l, k => fL1 l fun l => k (.tup l)
  | v, k => fV1 v k
theorem fV_eq (v : AV) (k : AV → Bool) : fV v k = k v := by cases v <;> simp [fV, fV1_eq, fL1_eq]
def fE : List (AV × AV) → (List (AV × AV) → Bool) → Bool
  | [], k => k []
  | (a, b) :: r, k => fV1 a fun a => fV1 b fun b => fE r fun r => k ((a, b) :: r)
theorem fE_eq (l : List (AV × AV)) : ∀ k : List (AV × AV) → Bool, fE l k = k l := by
  induction l with
  | nil => intro k; rfl
  | cons v r ih => intro k; obtain ⟨a, b⟩ := v; simp [fE, fV1_eq, ih]
def fO : AO → (AO → Bool) → Bool
  | .cells rw vs, k => fLS vs fun vs => k (.cells rw vs)
  | .map es, k => fE es fun es => k (.map es)
  | .dead, k => k .dead
theorem fO_eq (o : AO) (k : AO → Bool) : fO o k = k o := by cases o <;> simp [fO, fLS_eq, fE_eq]
def fH : List (Nat × Nat) → (List (Nat × Nat) → Bool) → Bool
  | [], k => k []
  | (a, b) :: r, k => fN a fun a => fN b fun b => fH r fun r => k ((a, b) :: r)
theorem fH_eq (l : List (Nat × Nat)) : ∀ k : List (Nat × Nat) → Bool, fH l k = k l := by
  induction l with
  | nil => intro k; rfl
  | cons v r ih => intro k; obtain ⟨a, b⟩ := v; simp [fH, fN_eq, ih]

def setK {α : Type} : Nat → Tr α → Nat → α → (Tr α → Bool) → Bool
  | 0, t, _, _, k => k t
  | f + 1, .nil, n, a, k => match n with
    | 0 => k (.nd (some a) .nil .nil)
    | m + 1 => match Nat.mod m 2 with
      | 0 => setK f .nil (Nat.div m 2) a (fun l => k (.nd none l .nil))
      | _ + 1 => setK f .nil (Nat.div m 2) a (fun r => k (.nd none .nil r))
  | f + 1, .nd v l r, n, a, k => match n with
    | 0 => k (.nd (some a) l r)
    | m + 1 => match Nat.mod m 2 with
      | 0 => setK f l (Nat.div m 2) a (fun l => k (.nd v l r))
      | _ + 1 => setK f r (Nat.div m 2) a (fun r => k (.nd v l r))
theorem setK_eq {α : Type} (f : Nat) : ∀ (t : Tr α) (n : Nat) (a : α) (k : Tr α → Bool), setK f t n a k = k (Tr.setF f t n a) := by
  induction f with
  | zero => intro t n a k; simp [setK, Tr.setF]
  | succ f ih =>
    intro t n a k
    cases t <;> cases n <;> simp only [setK, Tr.setF] <;> (try rfl) <;> (cases Nat.mod _ 2 <;> simp [ih])

def updK {α : Type} (t : N8 α) (d : D) (u : α → (α → Bool) → Bool) (k : N8 α → Bool) : Bool :=
  match t with
  | .n8 x0 x1 x2 x3 x4 x5 x6 x7 => match d with
    | .d0 => u x0 fun y => k (.n8 y x1 x2 x3 x4 x5 x6 x7) | .d1 => u x1 fun y => k (.n8 x0 y x2 x3 x4 x5 x6 x7)
    | .d2 => u x2 fun y => k (.n8 x0 x1 y x3 x4 x5 x6 x7) | .d3 => u x3 fun y => k (.n8 x0 x1 x2 y x4 x5 x6 x7)
    | .d4 => u x4 fun y => k (.n8 x0 x1 x2 x3 y x5 x6 x7) | .d5 => u x5 fun y => k (.n8 x0 x1 x2 x3 x4 y x6 x7)
    | .d6 => u x6 fun y => k (.n8 x0 x1 x2 x3 x4 x5 y x7) | .d7 => u x7 fun y => k (.n8 x0 x1 x2 x3 x4 x5 x6 y)
theorem updK_eq {α : Type} (t : N8 α) (d : D) (u : α → (α → Bool) → Bool) (f : α → α) (hu : ∀ x k, u x k = k (f x)) (k : N8 α → Bool) : updK t d u k = k (t.set d (f (t.get d))) := by
  cases t; cases d <;> simp [updK, hu, N8.set, N8.get]
def tsetK (t : Tmps) (s : Sl) (v : AV) (k : Tmps → Bool) : Bool := match s with
  | .s a b c => updK t a (fun t k => updK t b (fun t k => updK t c (fun _ k => k v) k) k) k
theorem tsetK_eq (t : Tmps) (s : Sl) (v : AV) (k : Tmps → Bool) : tsetK t s v k = k (tset t s v) := by
  obtain ⟨a, b, c⟩ := s
  exact updK_eq t a _ (fun t => t.set b ((t.get b).set c v)) (fun t k => updK_eq t b _ (fun t => t.set c v) (fun t k => updK_eq t c _ (fun _ => v) (fun _ _ => rfl) k) k) k

def putK (t : Tmps) (d : Option Sl) (v : AV) (k : Tmps → Bool) : Bool := match d with | some n => tsetK t n v k | none => k t
theorem putK_eq (t : Tmps) (d : Option Sl) (v : AV) (k : Tmps → Bool) : putK t d v k = k (putD t d v) := by cases d <;> simp [putK, putD, tsetK_eq]

def addK (h : AH) (o : AO) (k : AH → Bool) : Bool := fO o fun o => setK (h.n + 1) h.os h.n o fun os => fN (h.n + 1) fun n => k { os := os, n := n, wm := h.wm, hid := h.hid }
theorem addK_eq (h : AH) (o : AO) (k : AH → Bool) : addK h o k = k (h.add o) := by simp [addK, fO_eq, setK_eq, fN_eq, AH.add, Tr.set]
def putHK (h : AH) (i : Nat) (o : AO) (k : AH → Bool) : Bool := fO o fun o => setK (i + 1) h.os i o fun os => fN (bif Nat.ble h.wm i then h.wm else i) fun m => k { os := os, n := h.n, wm := m, hid := h.hid }
theorem putHK_eq (h : AH) (i : Nat) (o : AO) (k : AH → Bool) : putHK h i o k = k (h.put i o) := by simp [putHK, fO_eq, setK_eq, fN_eq, AH.put, Tr.set]
def onK (h : AH) : HD → (AH → Bool) → Bool
  | .same, k => k h
  | .add o, k => addK h o k
  | .put i o, k => fN i fun i => putHK h i o k
  | .kadd i o, k => fN i fun i => putHK h i .dead fun h => addK h o k
theorem onK_eq (h : AH) (d : HD) (k : AH → Bool) : onK h d k = k (d.on h) := by cases d <;> simp [onK, HD.on, addK_eq, putHK_eq, fN_eq]

def bnd {α β : Type} (o : Option (α × β)) (k : α → β → Bool) : Bool := match o with | some (a, b) => k a b | none => false

abbrev CallK := Nat → List AV → AH → (AV → AH → Bool) → Bool
abbrev CodeK := AC → Tmps → AH → (AE → Tmps → AH → Bool) → Bool

def runOpK (call : CallK) (t : Tmps) (h : AH) (o : AOp) (k : AV → AH → Bool) : Bool :=
  match isCall o with
  | false => match aopD t h o with
    | some r => match r with
      | (v, d) => fV v fun v => onK h d fun h => k v h
    | none => false
  | true => match o with
    | .call f args => match f.ev t with
      | .fn g caps => fL1 (evs t args ++ caps) fun l => call g l h k
      | _ => false
    | _ => false

def CallEq (cK : CallK) (c : CallF) : Prop := ∀ g l h k, cK g l h k = bnd (c g l h) k

theorem runOpK_eq {cK : CallK} {c : CallF} (hc : CallEq cK c) (t : Tmps) (h : AH) (o : AOp) (k : AV → AH → Bool) : runOpK cK t h o k = bnd (runOp c t h o) k := by
  cases o
  case call f args =>
    simp only [runOpK, runOp, isCall]
    cases f.ev t <;> simp [bnd, fL1_eq, hc _ _ _ _]
  all_goals
    simp only [runOpK, runOp, aop, isCall]
    generalize aopD t h _ = r
    cases r with
    | none => rfl
    | some r => obtain ⟨v, d⟩ := r; simp [bnd, fV_eq, onK_eq]

noncomputable def runRegK (call : CallK) (l : List AOper) : Tmps → AH → (Tmps → AH → Bool) → Bool :=
  List.rec (motive := fun _ => Tmps → AH → (Tmps → AH → Bool) → Bool) (fun t h k => k t h)
    (fun o _ ih t h k => match o with
      | ⟨d, op, g⟩ => match wantedA t g with
        | true => runOpK call t h op fun v h => putK t d v fun t => ih t h k
        | false => putK t d und fun t => ih t h k) l

theorem runRegK_eq {cK : CallK} {c : CallF} (hc : CallEq cK c) (l : List AOper) : ∀ t h k, runRegK cK l t h k = bnd (runReg c l t h) k := by
  induction l with
  | nil => intro t h k; rfl
  | cons o r ih =>
    intro t h k
    show (match wantedA t o.guard with | true => runOpK cK t h o.op fun v h => putK t o.dst v fun t => runRegK cK r t h k | false => putK t o.dst und fun t => runRegK cK r t h k) = _
    simp only [runReg]
    cases wantedA t o.guard with
    | false => simp [putK_eq, ih]
    | true =>
      simp only [cond_true, runOpK_eq hc]
      cases runOp c t h o.op with
      | none => rfl
      | some r => obtain ⟨v, h'⟩ := r; simp [bnd, putK_eq, ih]

def runLooseK (ih : CallK) (t : Tmps) (h : AH) (hid : List (Nat × Nat)) (o : AOp) (k : AV → AH → Bool) : Bool :=
  fH ((bif isNew o then [(0, h.n)] else hid) ++ h.hid) fun hd =>
    runOpK ih t { os := h.os, n := h.n, wm := h.n, hid := hd } o fun v h' =>
      bif isWrite o || Nat.ble h.n h'.wm then fN (minN h.wm h'.wm) fun m => k v { os := h'.os, n := h'.n, wm := m, hid := h.hid } else false

theorem runLooseK_eq {cK : CallK} {c : CallF} (hc : CallEq cK c) (t : Tmps) (h : AH) (hid : List (Nat × Nat)) (o : AOp) (k : AV → AH → Bool) :
    runLooseK cK t h hid o k = bnd (runLoose c t h hid o) k := by
  simp only [runLooseK, runLoose, fH_eq, runOpK_eq hc]
  generalize runOp c t _ o = r
  cases r with
  | none => rfl
  | some r =>
    obtain ⟨v, h'⟩ := r
    simp only [bnd, fN_eq]
    cases isWrite o || Nat.ble h.n h'.wm <;> rfl

def runDregK (ih : CallK) : List (Nat × AOper × Nat × Bool) → List (Nat × List (Nat × Nat)) → Tmps → AH → (Tmps → AH → Bool) → Bool
  | [], _, t, h, k => k t h
  | (i, o, pre, bar) :: r, made, t, h, k =>
    bif wantedA t o.guard then
      bif bar || isPure o.op then
        runOpK ih t h o.op fun v h => putK t o.dst v fun t => runDregK ih r made t h k
      else
        runLooseK ih t h (hideOf pre made) o.op fun v h' => putK t o.dst v fun t' => fH ((h.n, h'.n) :: targetC t h.n o.op) fun m => runDregK ih r ((i, m) :: made) t' h' k
    else putK t o.dst und fun t => runDregK ih r made t h k

theorem runDregK_eq {cK : CallK} {c : CallF} (hc : CallEq cK c) (l : List (Nat × AOper × Nat × Bool)) : ∀ made t h k, runDregK cK l made t h k = bnd (runDreg c l made t h) k := by
  induction l with
  | nil => intro made t h k; rfl
  | cons o r ih =>
    intro made t h k
    obtain ⟨i, o, pre, bar⟩ := o
    simp only [runDregK, runDreg]
    cases wantedA t o.guard with
    | false => simp [putK_eq, ih]
    | true =>
      simp only [cond_true]
      cases bar || isPure o.op with
      | true =>
        simp only [cond_true, runOpK_eq hc]
        cases runOp c t h o.op with
        | none => rfl
        | some r => obtain ⟨v, h'⟩ := r; simp [bnd, putK_eq, ih]
      | false =>
        simp only [cond_false, runLooseK_eq hc]
        cases runLoose c t h (hideOf pre made) o.op with
        | none => rfl
        | some r => obtain ⟨v, h'⟩ := r; simp [bnd, putK_eq, ih, fH_eq]

def bnd3 (o : Option (AE × Tmps × AH)) (k : AE → Tmps → AH → Bool) : Bool := match o with | some (a, b, c) => k a b c | none => false
def CodeEq (cK : CodeK) (c : CodeF) : Prop := ∀ x t h k, cK x t h k = bnd3 (c x t h) k

noncomputable def stepK (call : CallK) (ih : CodeK) : CodeK := fun c =>
  AC.rec (motive := fun _ => Tmps → AH → (AE → Tmps → AH → Bool) → Bool)
    (fun t h k => k .normal t h)
    (fun ops t h k => runRegK call ops t h fun t h => k .normal t h)
    (fun ops t h k => runDregK call ops [] t h fun t h => k .normal t h)
    (fun _ _ ia ib t h k => ia t h fun e t h => match e with
      | .normal => ib t h k
      | .exit i => k (.exit i) t h
      | .ret => k .ret t h)
    (fun c _ _ ia ib t h k => match c.ev t with
      | .b v => match v with
        | true => ia t h k
        | false => ib t h k
      | _ => false)
    (fun id _ ib t h k => ib t h fun e t h => match e with
      | .exit j => bif Nat.beq j id then k .normal t h else k (.exit j) t h
      | .normal => k .normal t h
      | .ret => k .ret t h)
    (fun b ib t h k => ib t h fun e t h => match e with
      | .normal => ih (.loop b) t h k
      | .exit i => k (.exit i) t h
      | .ret => k .ret t h)
    (fun id t h k => k (.exit id) t h)
    (fun t h k => k .ret t h) c

theorem stepK_eq {cK : CallK} {c : CallF} (hc : CallEq cK c) {dK : CodeK} {d : CodeF} (hd : CodeEq dK d) : CodeEq (stepK cK dK) (stepC c d) := by
  intro x
  induction x with
  | skip => intro t h k; rfl
  | exit id => intro t h k; rfl
  | ret => intro t h k; rfl
  | reg ops =>
    intro t h k
    show runRegK cK ops t h _ = _
    simp only [stepC, runRegK_eq hc]
    cases runReg c ops t h with
    | none => rfl
    | some r => rfl
  | dreg ops =>
    intro t h k
    show runDregK cK ops [] t h _ = _
    simp only [stepC, runDregK_eq hc]
    cases runDreg c ops [] t h with
    | none => rfl
    | some r => rfl
  | seq a b iha ihb =>
    intro t h k
    show stepK cK dK a t h (fun e t h => match e with
      | .normal => stepK cK dK b t h k
      | .exit i => k (.exit i) t h
      | .ret => k .ret t h) = _
    simp only [stepC, iha]
    cases stepC c d a t h with
    | none => rfl
    | some r => obtain ⟨e, t, h⟩ := r; cases e <;> simp [bnd3, ihb]
  | cond x a b iha ihb =>
    intro t h k
    show (match x.ev t with
      | .b v => match v with
        | true => stepK cK dK a t h k
        | false => stepK cK dK b t h k
      | _ => false) = _
    simp only [stepC]
    cases x.ev t with
    | b v => cases v <;> simp [iha, ihb]
    | _ => rfl
  | block id b ih =>
    intro t h k
    show stepK cK dK b t h (fun e t h => match e with
      | .exit j => bif Nat.beq j id then k .normal t h else k (.exit j) t h
      | .normal => k .normal t h
      | .ret => k .ret t h) = _
    simp only [stepC, ih]
    cases stepC c d b t h with
    | none => rfl
    | some r => obtain ⟨e, t, h⟩ := r; cases e <;> simp only [bnd3]; cases Nat.beq _ id <;> rfl
  | loop b ih =>
    intro t h k
    show stepK cK dK b t h (fun e t h => match e with
      | .normal => dK (.loop b) t h k
      | .exit i => k (.exit i) t h
      | .ret => k .ret t h) = _
    simp only [stepC, ih]
    cases stepC c d b t h with
    | none => rfl
    | some r => obtain ⟨e, t, h⟩ := r; cases e <;> simp [bnd3, hd _ _ _ _]

def argsK : Nat → List AV → Tmps → (Tmps → Bool) → Bool
  | _, [], t, k => k t
  | n, v :: r, t, k => tsetK t (toSl n) v fun t => argsK (n + 1) r t k
theorem argsK_eq (l : List AV) : ∀ n t k, argsK n l t k = k (argsT n l t) := by
  induction l with
  | nil => intro n t k; rfl
  | cons v r ih => intro n t k; simp [argsK, argsT, tsetK_eq, ih]

def enterK (code : CodeK) (f : AFunc) (args : List AV) (h : AH) (k : AV → AH → Bool) : Bool :=
  bif Nat.beq args.length f.nargs then
    argsK 0 args noT fun t => code f.body t h fun e t h => match e with
      | .exit _ => false
      | _ => match finish f t h with
        | some (v, h) => fV v fun v => k v h
        | none => false
  else false

theorem enterK_eq {dK : CodeK} {d : CodeF} (hd : CodeEq dK d) (f : AFunc) (args : List AV) (h : AH) (k : AV → AH → Bool) : enterK dK f args h k = bnd (enter d f args h) k := by
  simp only [enterK, enter]
  cases Nat.beq args.length f.nargs with
  | false => rfl
  | true =>
    simp only [cond_true, argsK_eq, hd _ _ _ _]
    cases d f.body (argsT 0 args noT) h with
    | none => rfl
    | some r =>
      obtain ⟨e, t, h⟩ := r
      cases e with
      | exit j => rfl
      | normal => simp only [bnd3]; cases finish f t h <;> simp [bnd, fV_eq]
      | ret => simp only [bnd3]; cases finish f t h <;> simp [bnd, fV_eq]

noncomputable def acodeK (F : Tr AFunc) (n : Nat) : CodeK :=
  Nat.rec (motive := fun _ => CodeK) (fun _ _ _ _ => false) (fun _ ih => stepK (fun g args h k => match F.get g with | some f => enterK ih f args h k | none => false) ih) n

theorem acodeK_eq (F : Tr AFunc) (n : Nat) : CodeEq (acodeK F n) (acode F n) := by
  induction n with
  | zero => intro x t h k; rfl
  | succ n ih =>
    refine stepK_eq ?_ ih
    intro g l h k
    show (match F.get g with | some f => enterK (acodeK F n) f l h k | none => false) = bnd (match F.get g with | some f => enter (acode F n) f l h | none => none) k
    cases F.get g with
    | none => rfl
    | some f => exact enterK_eq ih f l h k

noncomputable def arunK (F : Tr AFunc) (n : Nat) : CallK := fun g args h k => match F.get g with | some f => enterK (acodeK F n) f args h k | none => false
theorem arunK_eq (F : Tr AFunc) (n : Nat) (g : Nat) (l : List AV) (h : AH) (k : AV → AH → Bool) : arunK F n g l h k = bnd (arun F n g l h) k := by
  show (match F.get g with | some f => enterK (acodeK F n) f l h k | none => false) = bnd (match F.get g with | some f => enter (acode F n) f l h | none => none) k
  cases F.get g with
  | none => rfl
  | some f => exact enterK_eq (acodeK_eq F n) f l h k

end Go.AM
end
section
/- Calls whose answers are known: one function's answers at given arguments, found by runs of their own, used in a greater run. -/
namespace Go.AM

/-- A call of a function that takes a struct of an integer and a slice of pairs, and yields a slice: the argument, and what kind of slice comes back. -/
structure OEnt where
  n : Int
  len : Nat
  cap : Option Nat
  flat : List Int
  res : Option (Nat × Option Nat × Nat)

def ints : List Int → List AV
  | [] => []
  | n :: r => .i .i64 n :: ints r
def OEnt.arg (e : OEnt) : List AV := [.agg [.i .i64 e.n, .sl 0 0 e.len e.cap 2]]
def OEnt.heap (e : OEnt) : AH := emptyH.add (.cells false (ints e.flat))
def OEnt.ok (F : Tr AFunc) (n k : Nat) (e : OEnt) : Prop :=
  ∃ v h', arun F n k e.arg e.heap = some (v, h') ∧ match e.res with | none => v = .nils | some (len, cap, es) => ∃ id off, v = .sl id off len cap es

def chk (r : Option (Nat × Option Nat × Nat)) (v : AV) : Bool := match r, v with
  | none, .nils => true
  | some (len, cap, es), .sl _ _ len' cap' es' => Nat.beq len len' && decide (cap = cap') && Nat.beq es es'
  | _, _ => false

theorem OEnt.ok_of {F : Tr AFunc} {n k : Nat} {e : OEnt} (h : arunK F n k e.arg e.heap (fun v _ => chk e.res v) = true) : e.ok F n k := by
  rw [arunK_eq] at h
  cases hr : arun F n k e.arg e.heap with
  | none => rw [hr] at h; cases h
  | some r =>
    obtain ⟨v, h'⟩ := r
    rw [hr] at h
    simp only [bnd] at h
    refine ⟨v, h', hr, ?_⟩
    unfold chk at h
    split at h
    · rename_i he; rw [he]
    · rename_i len cap es id off len' cap' es' he
      rw [he]
      simp only [Bool.and_eq_true, decide_eq_true_eq] at h
      obtain ⟨⟨h1, h2⟩, h3⟩ := h
      rw [Nat.eq_of_beq_eq_true h1, h2, Nat.eq_of_beq_eq_true h3]
      exact ⟨id, off, rfl⟩
    · cases h

def sameI : List AV → List Int → Bool
  | [], [] => true
  | .i .i64 n :: r, m :: s => decide (n = m) && sameI r s
  | _, _ => false
theorem sameI_eq : ∀ {l : List AV} {m : List Int}, sameI l m = true → l = ints m
  | [], [], _ => rfl
  | .i .i64 n :: r, m :: s, h => by
    simp only [sameI, Bool.and_eq_true, decide_eq_true_eq] at h
    rw [h.1, sameI_eq h.2]; rfl

def findE : List OEnt → Int → Nat → Option Nat → List AV → Option OEnt
  | [], _, _, _, _ => none
  | e :: r, n, len, cap, l => bif decide (e.n = n) && Nat.beq e.len len && decide (e.cap = cap) && sameI l e.flat then some e else findE r n len cap l
theorem findE_eq : ∀ {tab : List OEnt} {n : Int} {len : Nat} {cap : Option Nat} {l : List AV} {e : OEnt}, findE tab n len cap l = some e → e ∈ tab ∧ e.n = n ∧ e.len = len ∧ e.cap = cap ∧ l = ints e.flat
  | e' :: r, n, len, cap, l, e, h => by
    simp only [findE] at h
    cases hb : decide (e'.n = n) && Nat.beq e'.len len && decide (e'.cap = cap) && sameI l e'.flat with
    | true =>
      rw [hb] at h
      injection h with h; subst h
      simp only [Bool.and_eq_true, decide_eq_true_eq] at hb
      exact ⟨by simp, hb.1.1.1, Nat.eq_of_beq_eq_true hb.1.1.2, hb.1.2, sameI_eq hb.2⟩
    | false =>
      rw [hb] at h
      obtain ⟨h1, h2⟩ := findE_eq h
      exact ⟨by simp [h1], h2⟩

def resOfE (h : AH) : Option (Nat × Option Nat × Nat) → AV
  | none => .nils
  | some (len, cap, es) => .sl h.n 0 len cap es

def orcE (tab : List OEnt) (l : List AV) (h : AH) : Option OEnt := match l with
  | [.agg [.i .i64 n, .sl id off len cap 2]] => match h.get id with
    | some (.cells _ vs) => match cut off (len * 2) vs with
      | some l => findE tab n len cap l
      | none => none
    | _ => none
  | _ => none
def orc (tab : List OEnt) (l : List AV) (h : AH) : Option (AV × AH) := match orcE tab l h with
  | some e => some (resOfE h e.res, h.add .dead)
  | none => none
def orcK (tab : List OEnt) (l : List AV) (h : AH) (k : AV → AH → Bool) : Bool := match orcE tab l h with
  | some e => fV (resOfE h e.res) fun v => addK h .dead fun h => k v h
  | none => false
theorem orcK_eq (tab : List OEnt) (l : List AV) (h : AH) (k : AV → AH → Bool) : orcK tab l h k = bnd (orc tab l h) k := by
  unfold orcK orc
  cases orcE tab l h with
  | none => rfl
  | some e => simp [fV_eq, addK_eq, bnd]

section
variable {ren : FuncId → Option Nat} {P : Program}

theorem dead_get (h : AH) (i : Nat) (o : AO) (hl : o.live = true) (hg : (h.add .dead).get i = some o) : i ≠ h.n ∧ h.get i = some o := by
  rw [AH.get_add] at hg
  split at hg
  · rename_i e
    exfalso
    cases hh : zca h.hid i with
    | true => rw [hh] at hg; cases hg
    | false => rw [hh] at hg; injection hg with hg; subst hg; cases hl
  · rename_i e; exact ⟨e, hg⟩

/-- A call that wrote nothing of ours. -/
theorem Post.dead {ρ ρ' : Rho} {B0 : Nat} {h : AH} {w w' : World} (hr : HR ren ρ B0 h w) (hwf : h.wf) (hf : ρ h.n = none) (he : ∀ i, i ≠ h.n → ρ' i = ρ i) (h1 : w'.os = w.os) (h2 : w'.tape = w.tape) (h3 : w'.output = w.output) (h3' : w.drawn ≤ w'.drawn) (h4 : w.heap.size ≤ w'.heap.size)
    (h5 : ∀ b, b < w.heap.size → w'.heap[b]? = w.heap[b]?) : Post ren ρ B0 h w ρ' (h.add .dead) w' := by
  have le : ρ.le ρ' := fun i e hi => by
    rw [he i (fun ee => by rw [ee, hf] at hi; cases hi)]; exact hi
  have hos : ∀ i, (h.add .dead).os.get i = if i = h.n then some .dead else h.os.get i := fun i => by simp only [AH.add, Tr.get_set]
  refine ⟨le, fun i hi => ?_, ⟨Nat.le_trans hr.base h4, fun i o hg hl => ?_, fun i j o o' e e' hij hgi hgj hw hl hi hj => ?_⟩, Nat.le_succ _, rfl, Nat.le_refl _, fun i hi _ => ?_, fun i o hi hg hw => ?_, h1, h2, h3, h3', h4, fun b hb _ => h5 b hb, fun i o hi hg hw => ?_⟩
  · by_cases c : i = h.n
    · subst c; exact ⟨Nat.le_refl _, Nat.lt_succ_self _⟩
    · exact absurd (he i c) hi
  · obtain ⟨k1, k2⟩ := dead_get h i o hl hg
    obtain ⟨e, e1, e2⟩ := hr.obj i o k2 hl
    exact ⟨e, le i e e1, e2.of_block le (h5 _ (OR.blk_lt e2 hl))⟩
  · obtain ⟨k1, k2⟩ := dead_get h i o (AO.live_of_wr hw) hgi
    obtain ⟨k3, k4⟩ := dead_get h j o' hl hgj
    rw [he i k1] at hi
    rw [he j k3] at hj
    exact hr.dist i j o o' e e' hij k2 k4 hw hl hi hj
  · rw [hos, if_neg (by omega)]
  · exact ⟨o, (dead_get h i o (AO.live_of_wr hw) hg).2, hw⟩
  · obtain ⟨k1, k2⟩ := dead_get h i o (AO.live_of_wr hw) hg
    rw [AH.get_none hwf hi] at k2; cases k2

theorem orc_ok {F : Tr AFunc} {n k : Nat} (hc : CallOk ren P (arun F n)) {tab : List OEnt} (ht : ∀ e ∈ tab, e.ok F n k) {l : List AV} {h h' : AH} {v : AV} (hr : orc tab l h = some (v, h')) (hwf : h.wf) {f : FuncId} (hf : ren f = some k) :
    (∃ fn, P.funcs[f]? = some fn ∧ (fn.name == "runtime.NumGoroutine") = false ∧ fn.body.isNone = false) ∧
    ∀ (ρ : Rho) (B0 : Nat) (w : World) (cl : Array Value), HR ren ρ B0 h w → VRL ren ρ l cl.toList → (∀ i, h.n ≤ i → i < h'.n → ρ i = none) →
      Calls P f cl w (fun e w' => ∃ v' ρ', e = .returned v' ∧ VR ren ρ' v v' ∧ Post ren ρ B0 h w ρ' h' w') := by
  unfold orc at hr
  split at hr
  · rename_i e hE
    injection hr with hr; injection hr with hv hh; subst hv; subst hh
    unfold orcE at hE
    split at hE
    · rename_i nn id off len cap
      split at hE
      · rename_i rw vs hg
        split at hE
        · rename_i cs hcut
          obtain ⟨e1, e2, e3, e4, e5⟩ := findE_eq hE
          obtain ⟨vs0, hs', a1, a2⟩ := ht e e1
          have hwf0 : e.heap.wf := (Kp.add emptyH (o := .cells true []) rfl).wf emptyH_wf |> fun _ => by
            intro x hx
            have hx : 1 ≤ x := hx
            simp only [OEnt.heap, AH.add, Tr.get_set]
            rw [if_neg (by simp only [emptyH]; omega)]; rfl
          obtain ⟨b1, b2⟩ := hc k e.arg e.heap vs0 hs' a1 hwf0 f hf
          refine ⟨b1, fun ρ B0 w cl hr hvl hfr => ?_⟩
          -- the argument, as the small run has it
          obtain ⟨q, hq, hor⟩ := hr.obj id _ hg rfl
          obtain ⟨c, el, fz, o1, o2, o3, o4, o5⟩ := hor
          obtain ⟨c1, c2, c3⟩ := cut_spec hcut
          let ρs : Rho := fun i => if i = 0 then some ⟨q.blk, q.sh + off, q.sz⟩ else none
          have hgs : ∀ i o, e.heap.get i = some o → i = 0 ∧ o = .cells false (ints e.flat) := fun i o hi => by
            simp only [OEnt.heap, AH.get_add] at hi
            split at hi
            · rename_i hi0
              refine ⟨hi0, ?_⟩
              injection hi with hi; exact hi.symm
            · cases hi
          have HRs : HR ren ρs B0 e.heap w := by
            refine ⟨hr.base, fun i o hi hl => ?_, fun i j o o' e e' _ hi _ hw => ?_⟩
            · obtain ⟨i0, io⟩ := hgs i o hi
              subst i0; subst io
              refine ⟨_, rfl, c, el, fz, o1, o2, ?_, fun j x hx => ?_, (fun h => by cases h)⟩
              · rw [← e5, c2]; simp only; omega
              · rw [← e5] at hx
                have hj : j < len * 2 := by
                  have := (List.getElem?_eq_some_iff.mp hx).1; omega
                rw [c3 j hj] at hx
                obtain ⟨y, y1, y2, y3⟩ := o4 (off + j) x hx
                refine ⟨y, by simp only; rw [Nat.add_assoc]; exact y1, ?_, y3⟩
                rw [← c3 j hj, e5] at hx
                have hi : ∀ (m : List Int) (j : Nat) (x : AV), (ints m)[j]? = some x → ∃ z, x = .i .i64 z := by
                  intro m
                  induction m with
                  | nil => intro j x h; simp [ints] at h
                  | cons a m ih =>
                    intro j x h
                    cases j with
                    | zero => simp [ints] at h; exact ⟨a, h.symm⟩
                    | succ j => simp [ints] at h; exact ih j x h
                obtain ⟨z, rfl⟩ := hi _ _ _ hx
                cases y2; exact .i _ _
            · obtain ⟨_, io⟩ := hgs i o hi
              subst io; cases hw
          have HVs : VRL ren ρs e.arg cl.toList := by
            obtain ⟨y, ys, y1, y2, y3⟩ := hvl.cons_inv
            have : ys = [] := by have := y3.1; simp at this; exact List.eq_nil_of_length_eq_zero this.symm
            subst this
            rw [y1]
            refine VRL.cons ?_ (VRL.nil _)
            cases y2 with
            | agg hl h1 hj =>
              rename_i arr
              refine .agg hl (by intro x hx; simp at hx; rcases hx with rfl | rfl <;> rfl) fun j x y hx hy => ?_
              match j, hx with
              | 0, hx =>
                simp at hx; subst hx
                have := hj 0 _ y rfl hy
                rw [e2]; cases this; exact .i _ _
              | 1, hx =>
                simp at hx; subst hx
                have := hj 1 _ y rfl hy
                rw [e3, e4]
                cases this with
                | slx hh hl2 ho => rw [hq] at hh; injection hh with hh; subst hh; exact .slx (e := ⟨q.blk, q.sh + off, q.sz⟩) rfl hl2 (by simpa using ho)
                | slo hh hl2 hz ho => rw [hq] at hh; injection hh with hh; subst hh; exact .slo (e := ⟨q.blk, q.sh + off, q.sz⟩) rfl hl2 hz (by simpa using ho)
              | j + 2, hx => simp at hx
          refine (b2 ρs B0 w cl HRs HVs (fun i hi _ => by
            have hi : 1 ≤ i := hi
            show (if i = 0 then _ else none) = none
            rw [if_neg (by omega)])).mono fun ex w' hex => ?_
          obtain ⟨v', ρ2, x1, x2, p⟩ := hex
          have hfr' : ρ h.n = none := hfr h.n (Nat.le_refl _) (Nat.lt_succ_self _)
          have all : ∀ b, b < w.heap.size → w'.heap[b]? = w.heap[b]? := fun b hb => p.frame b hb fun i o _ hi hw => by
            obtain ⟨_, io⟩ := hgs i o hi
            subst io; cases hw
          cases hres : e.res with
          | none =>
            rw [hres] at a2
            simp only at a2
            subst a2
            cases x2
            exact ⟨_, ρ, x1, .nils, Post.dead hr hwf hfr' (fun _ _ => rfl) p.os p.tape p.output p.drw p.size all⟩
          | some r =>
            obtain ⟨rl, rc, re⟩ := r
            rw [hres] at a2
            obtain ⟨rid, roff, a2⟩ := a2
            subst a2
            have mk : ∀ q2 : RM, ρ2 rid = some q2 → ∃ ρ' : Rho, ρ' h.n = some ⟨q2.blk, q2.sh + roff, q2.sz⟩ ∧ (∀ i, i ≠ h.n → ρ' i = ρ i) := fun q2 _ => ⟨ρ.upd h.n ⟨q2.blk, q2.sh + roff, q2.sz⟩, Rho.upd_same _ _ _, fun i hi => Rho.upd_other _ _ hi⟩
            cases x2 with
            | slx hh hl ho =>
              rename_i q2
              obtain ⟨ρ', m1, m2⟩ := mk q2 hh
              exact ⟨_, ρ', x1, .slx (e := ⟨q2.blk, q2.sh + roff, q2.sz⟩) m1 hl (by simpa using ho), Post.dead hr hwf hfr' m2 p.os p.tape p.output p.drw p.size all⟩
            | slo hh hl hz ho =>
              rename_i q2
              obtain ⟨ρ', m1, m2⟩ := mk q2 hh
              exact ⟨_, ρ', x1, .slo (e := ⟨q2.blk, q2.sh + roff, q2.sz⟩) m1 hl hz (by simpa using ho), Post.dead hr hwf hfr' m2 p.os p.tape p.output p.drw p.size all⟩
        · cases hE
      · cases hE
    · cases hE
  · cases hr
end
end Go.AM
end
section
/- The machine that asks a table of known answers for one function's calls. -/
namespace Go.AM

def callO (F : Tr AFunc) (k : Nat) (tab : List OEnt) (d : CodeF) : CallF := fun g args h => bif Nat.beq g k then orc tab args h else (match F.get g with | some f => enter d f args h | none => none)
def acodeO (F : Tr AFunc) (k : Nat) (tab : List OEnt) (n : Nat) : CodeF := Nat.rec (motive := fun _ => CodeF) (fun _ _ _ => none) (fun _ ih => stepC (callO F k tab ih) ih) n
def arunO (F : Tr AFunc) (k : Nat) (tab : List OEnt) (n : Nat) : CallF := fun g args h => match F.get g with | some f => enter (acodeO F k tab n) f args h | none => none

noncomputable def acodeOK (F : Tr AFunc) (k : Nat) (tab : List OEnt) (n : Nat) : CodeK :=
  Nat.rec (motive := fun _ => CodeK) (fun _ _ _ _ => false) (fun _ ih => stepK (fun g args h c => bif Nat.beq g k then orcK tab args h c else (match F.get g with | some f => enterK ih f args h c | none => false)) ih) n
noncomputable def arunOK (F : Tr AFunc) (k : Nat) (tab : List OEnt) (n : Nat) : CallK := fun g args h c => match F.get g with | some f => enterK (acodeOK F k tab n) f args h c | none => false

theorem acodeOK_eq (F : Tr AFunc) (k : Nat) (tab : List OEnt) (n : Nat) : CodeEq (acodeOK F k tab n) (acodeO F k tab n) := by
  induction n with
  | zero => intro x t h c; rfl
  | succ n ih =>
    refine stepK_eq ?_ ih
    intro g l h c
    show (bif Nat.beq g k then orcK tab l h c else (match F.get g with | some f => enterK (acodeOK F k tab n) f l h c | none => false)) = bnd (bif Nat.beq g k then orc tab l h else (match F.get g with | some f => enter (acodeO F k tab n) f l h | none => none)) c
    cases Nat.beq g k with
    | true => exact orcK_eq tab l h c
    | false =>
      simp only [cond_false]
      cases F.get g with
      | none => rfl
      | some f => exact enterK_eq ih f l h c
theorem arunOK_eq (F : Tr AFunc) (k : Nat) (tab : List OEnt) (n : Nat) (g : Nat) (l : List AV) (h : AH) (c : AV → AH → Bool) : arunOK F k tab n g l h c = bnd (arunO F k tab n g l h) c := by
  show (match F.get g with | some f => enterK (acodeOK F k tab n) f l h c | none => false) = bnd (match F.get g with | some f => enter (acodeO F k tab n) f l h | none => none) c
  cases F.get g with
  | none => rfl
  | some f => exact enterK_eq (acodeOK_eq F k tab n) f l h c

theorem Kp.addDead (h : AH) : Kp h (h.add .dead) := by
  have g : ∀ x, (h.add .dead).os.get x = if x = h.n then some .dead else h.os.get x := fun x => by simp only [AH.add, Tr.get_set]
  refine ⟨by simp [AH.add], rfl, Nat.le_refl _, fun x h1 _ => ?_, fun _ x h1 _ => ?_, fun hw x o' h1 h2 h3 => ?_, fun hw x hx => ?_⟩
  · rw [g, if_neg (by omega)]
  · rw [g, if_neg (by omega)]
  · rw [g] at h1
    split at h1
    · injection h1 with h1; subst h1; cases h2
    · exact h1
  · have : h.n + 1 ≤ x := hx
    rw [g, if_neg (by omega)]; exact hw x (by omega)

theorem callO_kp {F : Tr AFunc} {k : Nat} {tab : List OEnt} {d : CodeF} (hd : KpC d) : KpF (callO F k tab d) := fun g l h v h' hr => by
  unfold callO at hr
  cases hb : Nat.beq g k with
  | true =>
    rw [hb, cond_true] at hr
    unfold orc at hr
    split at hr
    · injection hr with hr; injection hr with _ hr; subst hr; exact Kp.addDead h
    · cases hr
  | false => rw [hb, cond_false] at hr; exact tabCall_kp hd _ _ _ _ _ hr

section
variable {ren : FuncId → Option Nat} {P : Program}

theorem callO_ok {F : Tr AFunc} {k : Nat} {tab : List OEnt} {n m : Nat} {d : CodeF} (hT : TabOk ren P F) (hmix : P.follows .mixedOrders = true) (ht : ∀ e ∈ tab, e.ok F m k) (L : Level ren P n d) : CallOk ren P (callO F k tab d) := by
  intro g l h v h' hr hwf f hf
  unfold callO at hr
  cases hb : Nat.beq g k with
  | true =>
    rw [hb, cond_true] at hr
    rw [Nat.eq_of_beq_eq_true hb] at hf
    exact orc_ok (arun_ok hT hmix m) ht hr hwf hf
  | false => rw [hb, cond_false] at hr; exact tabCall_ok hT L g l h v h' hr hwf f hf

theorem acodeO_level {F : Tr AFunc} {k : Nat} {tab : List OEnt} {m : Nat} (hT : TabOk ren P F) (hmix : P.follows .mixedOrders = true) (ht : ∀ e ∈ tab, e.ok F m k) : ∀ n, Level ren P n (acodeO F k tab n)
  | 0 => level_zero
  | n + 1 => by
    have L := acodeO_level hT hmix ht n
    exact level_succ (callO_ok hT hmix ht L) (callO_kp L.kp) hmix L

theorem arunO_ok {F : Tr AFunc} {k : Nat} {tab : List OEnt} {m : Nat} (hT : TabOk ren P F) (hmix : P.follows .mixedOrders = true) (ht : ∀ e ∈ tab, e.ok F m k) (n : Nat) : CallOk ren P (arunO F k tab n) := tabCall_ok hT (acodeO_level hT hmix ht n)

/-- A call that answers true, from nothing: it leaves alone all that was there. -/
theorem true_from_nothing {F : Tr AFunc} {k : Nat} {tab : List OEnt} {m : Nat} (hT : TabOk ren P F) (hmix : P.follows .mixedOrders = true) (ht : ∀ e ∈ tab, e.ok F m k) {n g : Nat} {f : FuncId} (hf : ren f = some g)
    (hr : arunOK F k tab n g [] emptyH (fun v _ => match v with | .b true => true | _ => false) = true) (w : World) :
    Calls P f #[] w (fun e w' => e = .returned (.bool true) ∧ w'.os = w.os ∧ w'.tape = w.tape ∧ w'.output = w.output ∧ w.drawn ≤ w'.drawn ∧ w.heap.size ≤ w'.heap.size ∧ ∀ b, b < w.heap.size → w'.heap[b]? = w.heap[b]?) := by
  rw [arunOK_eq] at hr
  cases ha : arunO F k tab n g [] emptyH with
  | none => rw [ha] at hr; cases hr
  | some r =>
    obtain ⟨v, h'⟩ := r
    rw [ha] at hr
    simp only [bnd] at hr
    have hv : v = .b true := by
      split at hr
      · rfl
      · cases hr
    subst hv
    refine ((arunO_ok hT hmix ht n g [] emptyH _ h' ha emptyH_wf f hf).2 (fun _ => none) w.heap.size w #[] (emptyH_HR _ w) (VRL.nil _) (fun _ _ _ => rfl)).mono fun e w' he => ?_
    obtain ⟨v', ρ', e1, e2, p⟩ := he
    cases e2
    exact ⟨e1, p.os, p.tape, p.output, p.drw, p.size, fun b hb => p.frame b hb fun i o e hi => by cases hi⟩
end
end Go.AM
end
section
/- The arguments at which one function's answers are found by runs of their own. No condition. -/
namespace Go.AM.Zd
def e0 : OEnt := ⟨5, 10, none, [0, 1, 0, 2, 0, 3, 0, 4, 1, 2, 1, 3, 1, 4, 2, 3, 2, 4, 3, 4], none⟩
def e1 : OEnt := ⟨5, 9, none, [0, 2, 0, 3, 0, 4, 1, 2, 1, 3, 1, 4, 2, 3, 2, 4, 3, 4], some (5, some 5, 1)⟩
def e2 : OEnt := ⟨5, 9, none, [0, 1, 0, 3, 0, 4, 1, 2, 1, 3, 1, 4, 2, 3, 2, 4, 3, 4], some (5, some 5, 1)⟩
def e3 : OEnt := ⟨5, 9, none, [0, 1, 0, 2, 0, 4, 1, 2, 1, 3, 1, 4, 2, 3, 2, 4, 3, 4], some (5, some 5, 1)⟩
def e4 : OEnt := ⟨5, 9, none, [0, 1, 0, 2, 0, 3, 1, 2, 1, 3, 1, 4, 2, 3, 2, 4, 3, 4], some (5, some 5, 1)⟩
def e5 : OEnt := ⟨5, 9, none, [0, 1, 0, 2, 0, 3, 0, 4, 1, 3, 1, 4, 2, 3, 2, 4, 3, 4], some (5, some 5, 1)⟩
def e6 : OEnt := ⟨5, 9, none, [0, 1, 0, 2, 0, 3, 0, 4, 1, 2, 1, 4, 2, 3, 2, 4, 3, 4], some (5, some 5, 1)⟩
def e7 : OEnt := ⟨5, 9, none, [0, 1, 0, 2, 0, 3, 0, 4, 1, 2, 1, 3, 2, 3, 2, 4, 3, 4], some (5, some 5, 1)⟩
def e8 : OEnt := ⟨5, 9, none, [0, 1, 0, 2, 0, 3, 0, 4, 1, 2, 1, 3, 1, 4, 2, 4, 3, 4], some (5, some 5, 1)⟩
def e9 : OEnt := ⟨5, 9, none, [0, 1, 0, 2, 0, 3, 0, 4, 1, 2, 1, 3, 1, 4, 2, 3, 3, 4], some (5, some 5, 1)⟩
def e10 : OEnt := ⟨5, 9, none, [0, 1, 0, 2, 0, 3, 0, 4, 1, 2, 1, 3, 1, 4, 2, 3, 2, 4], some (5, some 5, 1)⟩
def tab : List OEnt := [e0, e1, e2, e3, e4, e5, e6, e7, e8, e9, e10]
end Go.AM.Zd
end
