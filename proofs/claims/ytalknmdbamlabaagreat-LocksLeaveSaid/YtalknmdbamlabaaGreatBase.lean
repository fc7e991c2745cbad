/- My own walk layer: a Go function's code as an assertion over heaps, and that the assertion gives the call. Conditions: none. -/
import Derived.CallsIn
import Derived.OrdersIn
import Derived.RangeFuncIn
import Derived.RangeFuncRecord
import Derived.RangeFuncLeaves
import Derived.RangeFuncCalls
import Derived.KernelRfl
import Derived.Laws.Sem
namespace Go.Proofs.YtalknmdbamlabaaGreat.Q
open Go

/-! heaps, assertions, registers -/
abbrev Hp := Array Obj
abbrev A := Hp → Prop
abbrev Rg := Nat → Value
def upd (σ : Rg) (d : Nat) (v : Value) : Rg := fun t => if t = d then v else σ t
def updO (σ : Rg) : Option Nat → Value → Rg
  | some d, v => upd σ d v
  | none, _ => σ
def ev (σ : Rg) : Operand → Value
  | .tmp t => σ t
  | .const v => v
  | .global g => .pointer (some ⟨g, 0, none⟩)
  | .func f => .func (.func f) #[] #[]
/-- what every step keeps: blocks for deferred calls of range-over-func loops; records of rounds under way. -/
def isK : Obj → Bool
  | .deferred (some []) => true
  | .loop r => match r.state with | .busy => true | _ => false
  | _ => false
def Keep (h h' : Hp) : Prop := h.size ≤ h'.size ∧ ∀ (b : Nat) (o : Obj), h[b]? = some o → isK o = true → h'[b]? = some o
theorem Keep.refl (h : Hp) : Keep h h := ⟨Nat.le_refl _, fun _ _ h _ => h⟩
theorem Keep.trans {a b c : Hp} (h : Keep a b) (k : Keep b c) : Keep a c := ⟨Nat.le_trans h.1 k.1, fun i o hi ho => k.2 i o (h.2 i o hi ho) ho⟩
/-- objects that the user's own facts never speak of. -/
def soft : Obj → Bool
  | .mapIter .. => true
  | .stringIter .. => true
  | _ => false
def ctl : Obj → Bool
  | .mapIter .. => true
  | .stringIter .. => true
  | .deferred _ => true
  | .loop _ => true
  | _ => false
/-- an iterator's own steps, of iterators from block n on. -/
def Sx (n : Nat) (h h' : Hp) : Prop := h.size ≤ h'.size ∧ ∀ b : Nat, b < h.size → h'[b]? = h[b]? ∨ (n ≤ b ∧ ∃ o o', h[b]? = some o ∧ h'[b]? = some o' ∧ soft o = true ∧ soft o' = true)
/-- the machine's own steps around a range over a function. -/
def Cx (n : Nat) (h h' : Hp) : Prop := h.size ≤ h'.size ∧ ∀ b : Nat, b < h.size → h'[b]? = h[b]? ∨ (n ≤ b ∧ ∃ o o', h[b]? = some o ∧ h'[b]? = some o' ∧ ctl o = true ∧ ctl o' = true)
/-- objects that the machine alone keeps for loops over functions. -/
def lctl : Obj → Bool
  | .deferred _ => true
  | .loop _ => true
  | _ => false
/-- the machine's own steps, iterators left alone. -/
def Lx (n : Nat) (h h' : Hp) : Prop := h.size ≤ h'.size ∧ ∀ b : Nat, b < h.size → h'[b]? = h[b]? ∨ (n ≤ b ∧ ∃ o o', h[b]? = some o ∧ h'[b]? = some o' ∧ lctl o = true ∧ lctl o' = true)
theorem lctl_ctl {o : Obj} (h : lctl o = true) : ctl o = true := by cases o <;> first | rfl | simp [lctl] at h
theorem lctl_soft {o : Obj} (h : lctl o = true) : soft o = false := by cases o <;> first | rfl | simp [lctl] at h
theorem Lx.cx {n : Nat} {h h' : Hp} (H : Lx n h h') : Cx n h h' := ⟨H.1, fun b hb => (H.2 b hb).imp id fun ⟨hn, o, o', e1, e2, e3, e4⟩ => ⟨hn, o, o', e1, e2, lctl_ctl e3, lctl_ctl e4⟩⟩
/-- the iterators of h from block n on are as they were. -/
def Sk (n : Nat) (h h' : Hp) : Prop := ∀ (b : Nat) (o : Obj), n ≤ b → h[b]? = some o → soft o = true → h'[b]? = some o
theorem Sk.refl (n : Nat) (h : Hp) : Sk n h h := fun _ _ _ h _ => h
theorem Sk.trans {n : Nat} {a b c : Hp} (h : Sk n a b) (k : Sk n b c) : Sk n a c := fun i o hn hi ho => k i o hn (h i o hn hi ho) ho
theorem Sk.lx {n : Nat} {h h' : Hp} (H : Lx n h h') : Sk n h h' := fun b o _ hb ho => by
  have hlt : b < h.size := by
    rcases Nat.lt_or_ge b h.size with hl | hl
    · exact hl
    · rw [Array.getElem?_eq_none hl] at hb; cases hb
  rcases H.2 b hlt with e | ⟨_, o1, o2, e1, _, e3, _⟩
  · rw [e]; exact hb
  · rw [hb] at e1; cases e1; rw [lctl_soft e3] at ho; cases ho
def cx (n : Nat) (X : A) : A := fun h => ∀ h', Lx n h h' → X h'
/-- what a call keeps of the world. -/
def KW (w w' : World) : Prop := Keep w.heap w'.heap ∧ w'.os = w.os ∧ w'.output = w.output ∧ w'.tape = w.tape
theorem KW.refl (w : World) : KW w w := ⟨Keep.refl _, rfl, rfl, rfl⟩
theorem KW.trans {a b c : World} (h : KW a b) (k : KW b c) : KW a c := ⟨h.1.trans k.1, k.2.1.trans h.2.1, k.2.2.1.trans h.2.2.1, k.2.2.2.trans h.2.2.2⟩

/-- the fence of my walks: none. -/
def Fr (ro : Option Nat) : Fence := { fn := fun _ => True, depth := none, alive := false, round := ro }
theorem Fr_room (ro : Option Nat) (n : Nat) : (Fr ro).room n := fun _ h => by simp [Fr] at h
theorem Fr_wide : Fr none = Fence.wide := rfl
theorem callsFr {ro n P f args w R} : CallsIn (Fr ro) n P f args w R ↔ Calls P f args w R := by
  have h := @callsIn_wide n P f args w R
  cases ro with
  | none => exact h
  | some l => exact h

/-! a function's call, a function value's call -/
def Ret (w : World) (R : Value → A) (e : Ending) (w' : World) : Prop := ∃ v, e = .returned v ∧ R v w'.heap ∧ KW w w'
def FnW (P : Program) (f : FuncId) (args : Array Value) (R : Value → A) : A := fun h => ∀ w : World, w.heap = h → Calls P f args w (Ret w R)
def YW (P : Program) (l : Nat) (args : Array Value) (R : Value → A) : A := fun h => ∀ w : World, w.heap = h →
  ∃ fn tmps assign body, (Instr.yield l args).run P w = .ok (.round l fn tmps assign body) w ∧ RoundIn (Fr none) 0 P l fn tmps assign body w (Ret w R)
def CV (P : Program) (fv : Value) (args : List Value) (R : Value → A) : A :=
  match fv with
  | .func (.func f) first captured => fun h => (∃ fn, P.funcs[f]? = some fn ∧ fn.body.isSome = true ∧ (fn.name == "runtime.NumGoroutine") = false) ∧ FnW P f (first ++ args.toArray ++ captured) R h
  | .func (.yield l) first _ => YW P l (first ++ args.toArray) R
  | _ => fun _ => False
theorem Ret.mono {h : World} {R R' : Value → A} {e w'} (hr : ∀ v h', R v h' → R' v h') (H : Ret h R e w') : Ret h R' e w' := by
  obtain ⟨v, h1, h2, h3⟩ := H; exact ⟨v, h1, hr _ _ h2, h3⟩
theorem FnW.mono {P f args R R'} {h : Hp} (H : FnW P f args R h) (hr : ∀ v h', R v h' → R' v h') : FnW P f args R' h :=
  fun w hw => (H w hw).mono fun _ _ => Ret.mono hr
theorem YW.mono {P l args R R'} {h : Hp} (H : YW P l args R h) (hr : ∀ v h', R v h' → R' v h') : YW P l args R' h := by
  intro w hw; obtain ⟨fn, tmps, as, body, h1, h2⟩ := H w hw
  exact ⟨fn, tmps, as, body, h1, h2.mono fun _ _ => Ret.mono hr⟩
theorem CV.mono {P fv args R R'} {h : Hp} (H : CV P fv args R h) (hr : ∀ v h', R v h' → R' v h') : CV P fv args R' h := by
  cases fv with
  | func fn first captured =>
    cases fn with
    | func f => exact ⟨H.1, FnW.mono H.2 hr⟩
    | yield l => exact YW.mono H hr
    | _ => exact False.elim H
  | _ => exact False.elim H
theorem CV_cases {P fv args R} {h : Hp} (H : CV P fv args R h) :
    (∃ g first captured, fv = .func (.func g) first captured ∧ (∃ fn, P.funcs[g]? = some fn ∧ fn.body.isSome = true ∧ (fn.name == "runtime.NumGoroutine") = false) ∧ FnW P g (first ++ args.toArray ++ captured) R h) ∨
    (∃ l first captured, fv = .func (.yield l) first captured ∧ YW P l (first ++ args.toArray) R h) := by
  cases fv with
  | func fn first captured =>
    cases fn with
    | func f => exact .inl ⟨f, first, captured, rfl, H.1, H.2⟩
    | yield l => exact .inr ⟨l, first, captured, rfl, H⟩
    | _ => exact False.elim H
  | _ => exact False.elim H

/-! the three kinds of operations -/
/-- in every world the same, which stays. -/
def pp {α : Type} (P : Program) (S : Sem α) (K : α → A) : A := fun h => ∃ v, (∀ w : World, S.run P w = .ok v w) ∧ K v h
/-- in every world of this heap the same, which stays. -/
def qt {α : Type} (P : Program) (S : Sem α) (K : α → A) : A := fun h => ∃ v, (∀ w : World, w.heap = h → S.run P w = .ok v w) ∧ K v h
/-- whatever it does to the heap. -/
def ru {α : Type} (P : Program) (S : Sem α) (K : α → A) : A := fun h => ∀ w : World, w.heap = h → ∃ v w', S.run P w = .ok v w' ∧ K v w'.heap ∧ KW w w'
/-- a conditional. -/
def cn (c : Value) (X Y : A) : A := fun h => ∃ b, c = .bool b ∧ (b = true → X h) ∧ (b = false → Y h)
/-- a guarded operation. -/
def gd (c : Value) (want : Bool) (X : (Value → A) → A) (K : Value → A) : A := fun h => (c = .bool want → X K h) ∧ (c ≠ .bool want → K undef h)
def xt (P : Program) (f : FuncId) (args : Array Value) (K : Value → A) : A := fun h => ∀ w : World, w.heap = h → ∃ v w', (callFunc f args).run P w = .ok (.value v) w' ∧ K v w'.heap ∧ KW w w'
def cl (P : Program) (f : FuncId) (args : List Value) (K : Value → A) : A := fun h =>
  ((∃ fn, P.funcs[f]? = some fn ∧ fn.body.isSome = true ∧ (fn.name == "runtime.NumGoroutine") = false) ∧ FnW P f args.toArray K h) ∨ xt P f args.toArray K h

end Go.Proofs.YtalknmdbamlabaaGreat.Q

/-! clean operations -/
namespace Go.Proofs.YtalknmdbamlabaaGreat.Q
open Go
def cel (h : Hp) (a : Addr) : Option Value :=
  match h[a.block]? with
  | some (.cells c _ _) => if a.spot.isSome then none else c[a.off]?
  | _ => none
def frz (h : Hp) (a : Addr) : Bool :=
  match h[a.block]? with
  | some (.cells _ _ (lo, hi)) => lo ≤ a.off && a.off < hi
  | _ => false
def setc (h : Hp) (a : Addr) (v : Value) : Hp := h.modify a.block fun
  | .cells c elem frozen => .cells (if a.spot.isSome then c else c.setIfInBounds a.off v) elem frozen
  | o => o
def oneC : Value → Bool
  | .agg _ => false
  | .tuple _ => false
  | _ => true
def cels (h : Hp) (a : Addr) : Nat → Nat → Option (List Value)
  | _, 0 => some []
  | i, n + 1 => match cel h (a.add i) with
    | some v => (cels h a (i + 1) n).map (v :: ·)
    | none => none
def stcs (h : Hp) (a : Addr) : Nat → List Value → Option Hp
  | _, [] => some h
  | i, v :: vs => match cel h (a.add i) with
    | some _ => if oneC v = true ∧ frz h (a.add i) = false then stcs (setc h (a.add i) v) a (i + 1) vs else none
    | none => none

section run
variable {P : Program}
theorem run_ld {w : World} {a : Addr} {v : Value} (h : cel w.heap a = some v) : (load a).run P w = .ok v w := by
  have h' : w.cell? a = some v := h
  simp only [load, Sem.run, h']
theorem run_ldn {a : Addr} {w : World} : ∀ (n i : Nat) (acc : Array Value) (vs : List Value), cels w.heap a i n = some vs → (loadCellsFrom a i n acc).run P w = .ok (acc ++ vs.toArray) w := by
  intro n
  induction n with
  | zero => intro i acc vs h; simp only [cels, Option.some.injEq] at h; subst h; simp [loadCellsFrom, Sem.run_pure]
  | succ n ih =>
    intro i acc vs h
    simp only [cels] at h
    cases hc : cel w.heap (a.add i) with
    | none => simp [hc] at h
    | some v =>
      simp only [hc, Option.map_eq_some_iff] at h
      obtain ⟨vs', h1, rfl⟩ := h
      simp only [loadCellsFrom, Sem.run_bind, run_ld hc, Result.andThen]
      rw [ih (i + 1) (acc.push v) vs' h1]; simp
theorem run_st {a : Addr} : ∀ (vs : List Value) (i : Nat) (w : World) (h' : Hp), stcs w.heap a i vs = some h' → (storeCells a vs i).run P w = .ok () { w with heap := h' } := by
  intro vs
  induction vs with
  | nil => intro i w h' h; simp only [stcs, Option.some.injEq] at h; subst h; simp [storeCells, Sem.run_pure]
  | cons v vs ih =>
    intro i w h' h
    simp only [stcs] at h
    cases hc : cel w.heap (a.add i) with
    | none => simp [hc] at h
    | some u =>
      simp only [hc] at h
      split at h
      · rename_i hcond
        have hc' : w.cell? (a.add i) = some u := hc
        have hf' : w.frozen? (a.add i) = false := hcond.2
        simp only [storeCells, Sem.run_bind]
        have : (store (a.add i) v).run P w = .ok () { w with heap := setc w.heap (a.add i) v } := by
          have hone := hcond.1
          cases v <;> first | (simp [oneC] at hone; done) | (simp only [store, Sem.run, hc', hf', Bool.false_eq_true, if_false]; rfl)
        rw [this]; simp only [Result.andThen]
        exact ih (i + 1) { w with heap := setc w.heap (a.add i) v } h' h
      · cases h
theorem Keep_setc (h : Hp) (a : Addr) (v : Value) : Keep h (setc h a v) := by
  refine ⟨by simp [setc], fun b o hb ho => ?_⟩
  unfold setc
  by_cases e : b = a.block
  · subst e
    rw [Array.getElem?_modify, if_pos rfl, hb]
    cases o <;> first | (simp [isK] at ho; done) | rfl
  · rw [Array.getElem?_modify, if_neg (Ne.symm e), hb]
theorem Keep_stcs {a : Addr} : ∀ (vs : List Value) (i : Nat) (h h' : Hp), stcs h a i vs = some h' → Keep h h' := by
  intro vs
  induction vs with
  | nil => intro i h h' e; simp only [stcs, Option.some.injEq] at e; subst e; exact Keep.refl _
  | cons v vs ih =>
    intro i h h' e
    simp only [stcs] at e
    split at e
    · split at e
      · exact (Keep_setc _ _ _).trans (ih _ _ _ e)
      · cases e
    · cases e
theorem lt_of_get {h : Hp} {b : Nat} {o : Obj} (hb : h[b]? = some o) : b < h.size := (Array.getElem?_eq_some_iff.1 hb).1
theorem Keep_push (h : Hp) (o : Obj) : Keep h (h.push o) := by
  refine ⟨by simp, fun b o' hb _ => ?_⟩
  have := lt_of_get hb
  rw [Array.getElem?_push, if_neg (by omega)]; exact hb
theorem run_und {w : World} {t : TypeId} {d : TypeDesc} (h : P.underlying t = some d) : (underlying t).run P w = .ok d w := by
  unfold underlying; rw [Sem.run_bind]; show Result.andThen (.ok P w) _ = _; simp only [Result.andThen, h]; rfl
theorem run_ti {w : World} {t : TypeId} {d : TypeInfo} (h : P.info? t = some d) : (typeInfo t).run P w = .ok d w := by
  unfold typeInfo; rw [Sem.run_bind]; show Result.andThen (.ok P w) _ = _; simp only [Result.andThen, h]; rfl
theorem run_sz {w : World} {t : TypeId} {d : TypeInfo} (h : P.info? t = some d) : (sizeOf t).run P w = .ok d.size w := by
  unfold sizeOf; rw [Sem.run_bind, run_ti h]; rfl
theorem run_zv {w : World} {t : TypeId} {d : TypeInfo} {z : Value} (h : P.info? t = some d) (hz : d.zero = some z) : (zeroValue t).run P w = .ok z w := by
  unfold zeroValue; rw [Sem.run_bind, run_ti h]; simp only [Result.andThen, hz]; rfl
def _root_.Go.Proofs.YtalknmdbamlabaaGreat.Q.aggD : TypeDesc → Bool
  | .struct _ => true
  | .array _ _ => true
  | _ => false
theorem run_agg {w : World} {t : TypeId} {d : TypeDesc} (h : P.underlying t = some d) : (isAgg t).run P w = .ok (aggD d) w := by
  unfold isAgg; rw [Sem.run_bind, run_und h]; simp only [Result.andThen]; cases d <;> rfl
end run

/-! type tables -/
def szOf (P : Program) (t : TypeId) : Option Nat := (P.info? t).map (·.size)
def zOf (P : Program) (t : TypeId) : Option (List Value) := (P.info? t).bind fun i => i.zero.map (·.cells.toList)
def byOf (P : Program) (t : TypeId) : Option Nat := (P.info? t).map (·.bytes)
def aggOf (P : Program) (t : TypeId) : Option Bool := (P.underlying t).map aggD
def elOf (P : Program) (t : TypeId) : Option TypeId := (P.underlying t).bind fun | .slice e => some e | _ => none
def fOff (P : Program) (s : TypeId) (f : Nat) : Option Nat :=
  match P.underlying s with
  | some (.struct fs) => match fs[f]? with
    | some fd => match szOf P fd.type with
      | some n => bif Nat.beq n 0 then none else some fd.offset
      | none => none
    | none => none
  | _ => none

/-! combinators -/
def pk (c a b : Value) (K : Value → A) : A := fun h => ∃ t, c = .bool t ∧ K (if t then a else b) h
def al (z : List Value) (t : TypeId) (K : Value → A) : A := fun h => K (.pointer (some ⟨h.size, 0, none⟩)) (h.push (.cells z.toArray t))
def bx (t : TypeId) (v : Value) (K : Value → A) : A := fun h => K (.pointer (some ⟨h.size, 0, none⟩)) (h.push (.cells v.cells t))
def ld1 (x : Value) (K : Value → A) : A := fun h => ∃ a v, x = .pointer (some a) ∧ cel h a = some v ∧ K v h
def ldn (n : Nat) (x : Value) (K : Value → A) : A := fun h => ∃ a vs, x = .pointer (some a) ∧ cels h a 0 n = some vs ∧ K (.agg vs.toArray) h
def st (n : Nat) (x v : Value) (K : A) : A := fun h => ∃ a h', x = .pointer (some a) ∧ v.cells.size = n ∧ stcs h a 0 v.cells.toList = some h' ∧ K h'
def fa (x : Value) (off : Nat) (K : Value → A) : A := fun h => ∃ a, x = .pointer (some a) ∧ K (.pointer (some (a.add off))) h
def nc (x : Value) (K : Value → A) : A := fun h => ∃ a, x = .pointer (some a) ∧ K x h
def ixs (sz : Nat) (x i : Value) (K : Value → A) : A := fun h => ∃ a len cap k n, x = .slice (some a) len cap ∧ i = .int k n ∧ 0 ≤ n ∧ n < (len : Int) ∧ K (.pointer (some (a.add (n.toNat * sz)))) h
def ex (i : Nat) (x : Value) (K : Value → A) : A := fun h => ∃ vs v, x = .tuple vs ∧ vs[i]? = some v ∧ K v h
def intV (op : BinOp) (k : IntKind) (a b : Int) : Option Value :=
  match op with
  | .add => some (.int k (k.wrap (a + b)))
  | .sub => some (.int k (k.wrap (a - b)))
  | .mul => some (.int k (k.wrap (a * b)))
  | .quo => if b = 0 then none else some (.int k (k.wrap (a.tdiv b)))
  | .rem => if b = 0 then none else some (.int k (a.tmod b))
  | .and => some (.int k (k.wrap (BitVec.ofInt k.bits a &&& BitVec.ofInt k.bits b).toNat))
  | .or => some (.int k (k.wrap (BitVec.ofInt k.bits a ||| BitVec.ofInt k.bits b).toNat))
  | .xor => some (.int k (k.wrap (BitVec.ofInt k.bits a ^^^ BitVec.ofInt k.bits b).toNat))
  | .andNot => some (.int k (k.wrap (BitVec.ofInt k.bits a &&& ~~~(BitVec.ofInt k.bits b)).toNat))
  | .eql => some (.bool (a == b))
  | .neq => some (.bool (a != b))
  | .lss => some (.bool (a < b))
  | .leq => some (.bool (a ≤ b))
  | .gtr => some (.bool (a > b))
  | .geq => some (.bool (a ≥ b))
  | _ => none
def strV (op : BinOp) (x y : ByteArray) : Option Value :=
  match op with
  | .add => if ((x.size + y.size : Nat) : Int) > 9223372036854775807 then none else some (.string (x ++ y))
  | .eql => some (.bool (x.toList == y.toList))
  | .neq => some (.bool !(x.toList == y.toList))
  | .lss => some (.bool (Op.bytesLess x.toList y.toList))
  | .leq => some (.bool (Op.bytesLess x.toList y.toList || x.toList == y.toList))
  | .gtr => some (.bool !(Op.bytesLess x.toList y.toList || x.toList == y.toList))
  | .geq => some (.bool !(Op.bytesLess x.toList y.toList))
  | _ => none
def binV (op : BinOp) (x y : Value) : Option Value :=
  match x, y with
  | .int k a, .int k' b =>
    match op with
    | .shl => if b < 0 then none else some (.int k (k.wrap (a * 2 ^ (min b.toNat k.bits))))
    | .shr => if b < 0 then none else some (.int k (a.fdiv (2 ^ (min b.toNat k.bits))))
    | op => if k = k' then intV op k a b else none
  | .string a, .string b => strV op a b
  | _, _ => none
/-- an operation on two numbers or two strings. -/
def bn (op : BinOp) (x y : Value) (K : Value → A) : A := fun h => ∃ v, binV op x y = some v ∧ K v h
/-- '==' or '!=' (neg) at type t. -/
def okEq : Value → Value → Bool
  | .bool _, .bool _ => true
  | .pointer _, .pointer _ => true
  | .slice _ _ _, .slice _ _ _ => true
  | .map _, .map _ => true
  | .agg _, .agg _ => true
  | .nilFunc, .nilFunc => true
  | .nilFunc, .func _ _ _ => true
  | .func _ _ _, .nilFunc => true
  | _, _ => false
def be (P : Program) (t : TypeId) (neg : Bool) (x y : Value) (K : Value → A) : A := fun h => okEq x y = true ∧ pp P (Op.equal t x y) (fun b => K (.bool (b != neg))) h
def unV (op : UnOp) (x : Value) : Option Value :=
  match op, x with
  | .neg, .int k n => some (.int k (k.wrap (0 - n)))
  | .xor, .int k n => intV .xor k (if k.signed then -1 else k.max) n
  | .not, .bool b => some (.bool !b)
  | _, _ => none
def un (op : UnOp) (x : Value) (K : Value → A) : A := fun h => ∃ v, unV op x = some v ∧ K v h
def cvi (k : IntKind) (x : Value) (K : Value → A) : A := fun h => ∃ j n, x = .int j n ∧ K (.int k (k.wrap n)) h
def lnS (x : Value) (K : Value → A) : A := fun h => ∃ a n c, x = .slice a n c ∧ K (.int .i64 n) h
def lnT (x : Value) (K : Value → A) : A := fun h => ∃ s, x = .string s ∧ K (.int .i64 s.size) h
/-- what an append takes from x: number of elements, cells. -/
def srcOf (h : Hp) (sz : Nat) : Value → Option (Nat × List Value)
  | .slice none n _ => if n = 0 then some (0, []) else none
  | .slice (some a) n _ => (cels h a 0 (n * sz)).map fun l => (n, l)
  | .string s => some (s.size, s.data.toList.map fun b => .int .u8 b.toNat)
  | _ => none
def rep (z : List Value) : Nat → List Value
  | 0 => []
  | n + 1 => z ++ rep z n
def apd (z : List Value) (by_ : Nat) (e : TypeId) (s x : Value) (K : Value → A) : A := fun h =>
  ∃ base len cap n new, s = .slice base len cap ∧ srcOf h z.length x = some (n, new) ∧
    (len + n ≤ cap → (base = none → K (.slice none (len + n) cap) h) ∧ (∀ a, base = some a → ∃ h', stcs h (a.add (len * z.length)) 0 new = some h' ∧ K (.slice base (len + n) cap) h')) ∧
    (cap < len + n → Builtin.nextslicecap (len + n) cap * by_ ≤ 2 ^ 48 ∧ ((len + n : Nat) : Int) ≤ 9223372036854775807 ∧ ∃ m old, srcOf h z.length (.slice base len cap) = some (m, old) ∧
      ∀ c', len + n ≤ c' → K (.slice (some ⟨h.size, 0, none⟩) (len + n) c') (h.push (.cells (old ++ new ++ rep z (c' - (len + n))).toArray e)))
def fill2 : List Value → List (Nat × Nat × Value) → Option (List Value)
  | z, [] => some z
  | z, (o, s, v) :: rest => if v.cells.size = s ∧ o + s ≤ z.length then fill2 (z.take o ++ v.cells.toList ++ z.drop (o + s)) rest else none
def bd (z : List Value) (ps : List (Nat × Nat × Value)) (K : Value → A) : A := fun h => ∃ cs, fill2 z ps = some cs ∧ K (.agg cs.toArray) h
def bsl (z : List Value) (e : TypeId) (n : Nat) (ps : List (Nat × Nat × Value)) (K : Value → A) : A := fun h =>
  ∃ cs, fill2 (rep z n) ps = some cs ∧ K (.slice (some ⟨h.size, 0, none⟩) n n) (h.push (.cells cs.toArray e))
def bnd (o : Option Value) (d : Nat) (n : Nat) : Prop :=
  match o with
  | none => n = d
  | some v => ∃ k, v = .int k (n : Int)
def sls (lo hi : Option Value) (x : Value) (K : Value → A) : A := fun h => ∃ s l u, x = .string s ∧ bnd lo 0 l ∧ bnd hi s.size u ∧ l ≤ u ∧ u ≤ s.size ∧ K (.string (s.extract l u)) h
def slc (sz : Nat) (lo hi mx : Option Value) (x : Value) (K : Value → A) : A := fun h =>
  ∃ a len cap l u m, x = .slice a len cap ∧ bnd mx cap m ∧ bnd hi len u ∧ bnd lo 0 l ∧ l ≤ u ∧ u ≤ m ∧ m ≤ cap ∧ (mx.isSome = true → hi.isSome = true) ∧
    K (.slice (if m = l then a else a.map (·.add (l * sz))) (u - l) (m - l)) h
def mf (f : Fn) (first captured : List Value) (K : Value → A) : A := K (.func f first.toArray captured.toArray)
end Go.Proofs.YtalknmdbamlabaaGreat.Q

/-! soundness: operations -/
namespace Go.Proofs.YtalknmdbamlabaaGreat.Q
open Go
structure Sim (n : Nat) (a : Act) (σ : Rg) : Prop where
  size : a.tmps.size = n
  reg : ∀ t, a.tmps.getD t undef = σ t
theorem Sim.eval {n a σ} (h : Sim n a σ) : a.eval = ev σ := by
  funext x; cases x <;> simp [Act.eval, ev, ← h.reg]
theorem put_getD (a : Act) (d t : Nat) (v : Value) (hd : d < a.tmps.size) : (a.put (some d) v).tmps.getD t undef = if t = d then v else a.tmps.getD t undef := by
  simp only [Act.put]
  by_cases h : t = d
  · subst h; simp [Array.getD, hd]
  · rw [if_neg h]; simp [Array.getD_eq_getD_getElem?, Array.getElem?_setIfInBounds_ne (Ne.symm h)]
theorem Sim.put {n a σ} (h : Sim n a σ) (dst : Option Nat) (v : Value) (hd : ∀ d, dst = some d → d < n) : Sim n (a.put dst v) (updO σ dst v) := by
  cases dst with
  | none => exact h
  | some d =>
    have hd' : d < a.tmps.size := h.size ▸ hd d rfl
    refine ⟨by simp [Act.put, h.size], fun t => ?_⟩
    rw [put_getD a d t v hd']; simp [updO, upd, h.reg]
theorem put_defers (a : Act) (dst : Option Nat) (v : Value) : (a.put dst v).defers = a.defers := by cases dst <;> rfl

theorem run_callFunc {P : Program} {f : FuncId} {args : Array Value} {w : World} (h : ∃ fn, P.funcs[f]? = some fn ∧ fn.body.isSome = true ∧ (fn.name == "runtime.NumGoroutine") = false) :
    (callFunc f args).run P w = .ok (.enter f args) w := by
  obtain ⟨fn, h1, h2, h3⟩ := h
  have h4 : fn.body.isNone = false := by cases hb : fn.body <;> simp_all
  unfold callFunc
  rw [Sem.run_bind]
  show Result.andThen (.ok P w) _ = _
  simp only [Result.andThen, h1, h3, h4, Bool.false_eq_true, if_false]
  rfl

theorem cv_sound {P : Program} {ro : Option Nat} {n : Nat} {o : Oper} {a : Act} {w : World} {K : Value → A} {next : Act → World → Prop} {Q : Exit → Act → World → Prop} {c : Call} {f : Operand}
    {ρ : Operand → Value} (hcg : execOp a.eval o = execOp ρ o) (ho : o.op = .call c) (hf : c.callee = .value f)
    (h : CV P (ρ f) (c.args.toList.map ρ) K w.heap) (hn : ∀ v w', K v w'.heap → KW w w' → next (a.put o.dst v) w') : o.wpIn (Fr ro) n P a w next Q := by
  refine ⟨fun _ _ => trivial, ?_⟩
  rw [Oper.semAt_eq _ _ _ (by rw [ho]; intro c hc; cases hc)]
  have hargs : c.args.map ρ = (c.args.toList.map ρ).toArray := by rw [← Array.toList_map]
  have hS : execOp ρ o = (do let d ← resolve ρ c o.type; invoke d.target d.args) := by simp only [execOp, ho]
  have hr : resolve ρ c o.type = Deferred.ofValue (ρ f) (c.args.toList.map ρ).toArray := by simp only [resolve, hf, hargs]
  rw [hcg, hS, hr]
  rcases CV_cases h with ⟨g, first, captured, hv, hb, h2⟩ | ⟨l, first, captured, hv, h2⟩
  · have h1 := run_callFunc (args := first ++ (c.args.toList.map ρ).toArray ++ captured) (w := w) hb
    have : (do let d ← Deferred.ofValue (ρ f) (c.args.toList.map ρ).toArray; invoke d.target d.args : Sem Next).run P w = .ok (.enter g (first ++ (c.args.toList.map ρ).toArray ++ captured)) w := by
      rw [hv]; exact h1
    rw [this]
    refine ⟨fun h => by simp [Fr] at h, callsFr.2 ?_⟩
    refine (h2 w rfl).mono ?_
    rintro e w' ⟨v, rfl, hK, hk⟩
    exact hn _ _ hK hk
  · obtain ⟨fn, tmps, as, body, h1, h3⟩ := h2 w rfl
    have : (do let d ← Deferred.ofValue (ρ f) (c.args.toList.map ρ).toArray; invoke d.target d.args : Sem Next).run P w = .ok (.round l fn tmps as body) w := by
      rw [hv]; exact h1
    rw [this]
    refine ⟨fun h => by simp [Fr] at h, ?_⟩
    have h4 : RoundIn (Fr ro) (n - 1) P l fn tmps as body w (Ret w K) := by
      refine ⟨trivial, fun c cs _ => ?_⟩
      exact h3.2 c cs (Fr_room _ _)
    refine h4.mono ?_
    rintro e w' ⟨v, rfl, hK, hk⟩
    exact hn _ _ hK hk


/-- one operation. -/
def plc (P : Program) (t : TypeId) : Option (List (Nat × Nat)) :=
  match P.underlying t with
  | some (.struct fs) => fs.toList.mapM fun f => (szOf P f.type).map fun n => (f.offset, n)
  | _ => none
def plcs (pl : List (Nat × Nat)) (ρ : Operand → Value) : List (Nat × Operand) → Option (List (Nat × Nat × Value))
  | [] => some []
  | (i, x) :: rest => match pl[i]?, plcs pl ρ rest with
    | some (o, n), some l => some ((o, n, ρ x) :: l)
    | _, _ => none
def rplcs (sz : Nat) (ρ : Operand → Value) : List (Nat × Operand) → List (Nat × Nat × Value)
  | [] => []
  | (i, x) :: rest => (i * sz, sz, ρ x) :: rplcs sz ρ rest
def no : A := fun _ => False
def oA {α : Type} (o : Option α) (f : α → A) : A := match o with | some x => f x | none => no
def oE {α : Type} (o : Option α) (f : α → A) (g : A) : A := match o with | some x => f x | none => g
theorem oA_some {α : Type} {o : Option α} {f : α → A} {h : Hp} (H : oA o f h) : ∃ x, o = some x ∧ f x h := by
  cases o with
  | none => exact H.elim
  | some x => exact ⟨x, rfl, H⟩
def bA (b : Bool) (X : A) : A := bif b then X else no
theorem bA_true {b : Bool} {X : A} {h : Hp} (H : bA b X h) : b = true ∧ X h := by
  cases b with
  | false => exact H.elim
  | true => exact ⟨rfl, H⟩
inductive SK | str | sl (e : TypeId) | oth
def slK (P : Program) (t : TypeId) : SK :=
  match P.underlying t with
  | some .string => .str
  | some (.slice e) => .sl e
  | _ => .oth
inductive BK | num | eql | neq | bad
def bK (P : Program) (t : TypeId) (op : BinOp) : BK :=
  match P.underlying t with
  | some (.int _) => .num
  | some .string => .num
  | some _ => bif P.eqGuardType P.depth t then .bad else match op with | .eql => .eql | .neq => .neq | _ => .bad
  | none => .bad
inductive CK | int (k : IntKind) | s2b | b2s | oth
def cK (P : Program) (s d : TypeId) : CK :=
  match P.underlying s, P.underlying d with
  | some (.int _), some (.int k) => .int k
  | some .string, some (.slice _) => .s2b
  | some (.slice _), some .string => .b2s
  | _, _ => .oth
def isSS (P : Program) (u : TypeId) : Option Bool :=
  match P.underlying u with
  | some (.slice _) => some false
  | some .string => some true
  | _ => none
def opW (P : Program) (ρ : Operand → Value) (o : Oper) (K : Value → A) : A :=
  match o.op with
  | .move x => K (ρ x)
  | .assign x => K (ρ x)
  | .pick c a b => pk (ρ c) (ρ a) (ρ b) K
  | .alloc t => oA (zOf P t) fun z => al z t K
  | .box t x => bx t (ρ x) K
  | .load t a => oA (aggOf P t) fun b => oA (szOf P t) fun n => bif b then ldn n (ρ a) K else ld1 (ρ a) K
  | .store t a x => oA (szOf P t) fun n => st n (ρ a) (ρ x) (K undef)
  | .fieldAddr s x f => oA (fOff P s f) fun off => fa (ρ x) off K
  | .nilCheck x => nc (ρ x) K
  | .indexAddr t x i => match slK P t with
    | .sl e => oA (szOf P e) fun n => ixs n (ρ x) (ρ i) K
    | _ => pp P (Instr.indexAt t (ρ x) (ρ i)) K
  | .build t parts => oA (zOf P t) fun z => oA ((plc P t).bind fun pl => plcs pl ρ parts.toList) fun ps => bd z ps K
  | .buildSlice t n parts => oA (elOf P t) fun e => oA (zOf P e) fun z => oA (szOf P e) fun m => bA (Nat.ble (n * z.length) 16777216 && (Nat.beq m z.length && !(Nat.beq m 0))) (bsl z e n (rplcs z.length ρ parts.toList) K)
  | .slice t x lo hi mx => match slK P t with
    | .str => bA mx.isNone (sls (lo.map ρ) (hi.map ρ) (ρ x) K)
    | .sl e => oA (szOf P e) fun n => slc n (lo.map ρ) (hi.map ρ) (mx.map ρ) (ρ x) K
    | .oth => pp P (Instr.sliceAt t (ρ x) (lo.map ρ) (hi.map ρ) (mx.map ρ)) K
  | .extract x i => ex i (ρ x) K
  | .field t x i => pp P (Instr.field t (ρ x) i) K
  | .binOp op t x y _ => match bK P t op with
    | .num => bn op (ρ x) (ρ y) K
    | .eql => be P t false (ρ x) (ρ y) K
    | .neq => be P t true (ρ x) (ρ y) K
    | .bad => no
  | .unOp op _ x => un op (ρ x) K
  | .convert src dst x => match cK P src dst with
    | .int k => cvi k (ρ x) K
    | .s2b => ru P (convert src dst (ρ x)) K
    | .b2s => qt P (convert src dst (ρ x)) K
    | .oth => pp P (convert src dst (ρ x)) K
  | .makeFunc fn first captured => mf fn (first.toList.map ρ) (captured.toList.map ρ) K
  | .index t x i => pp P (Instr.index t (ρ x) (ρ i)) K
  | .lookup t x i ok => qt P (Instr.lookup t (ρ x) (ρ i) ok) K
  | .mapUpdate t m k x => ru P (Instr.mapUpdate t (ρ m) (ρ k) (ρ x)) fun _ => K undef
  | .insert t m k x => ru P (Instr.mapUpdate t (ρ m) (ρ k) (ρ x)) fun _ => K undef
  | .mapEntry t m k => ru P (Instr.mapEntry t (ρ m) (ρ k)) K
  | .entryStore t m s x => ru P (Instr.entryStore t (ρ m) (ρ s) (ρ x)) fun _ => K undef
  | .makeMap t r => ru P (Instr.makeMap t (r.map ρ)) K
  | .makeSlice t l c => ru P (Instr.makeSlice t (ρ l) (ρ c)) K
  | .range t x => ru P (Instr.range t (ρ x)) K
  | .next it s => ru P (Instr.next (ρ it) s o.type) K
  | .entry it => qt P (Instr.entry (ρ it)) K
  | .call { callee := .value (.func f), args, .. } => cl P f (args.toList.map ρ) K
  | .call { callee := .value f, args, .. } => CV P (ρ f) (args.toList.map ρ) K
  | .call { callee := .builtin .len, args, argTypes } => match args.toList, argTypes.toList with
    | [x], [t] => match slK P t with
      | .sl _ => lnS (ρ x) K
      | .str => lnT (ρ x) K
      | .oth => qt P (Builtin.len_ #[t] o.type #[ρ x]) K
    | _, _ => no
  | .call { callee := .builtin .append, args, argTypes } => match args.toList, argTypes.toList with
    | [s, x], [t, u] => oE (isSS P u) (fun isS => oA (elOf P t) fun e => oA (zOf P e) fun z => oA (byOf P e) fun b => oA (szOf P e) fun m => bA (Nat.beq m z.length && (bif isS then Nat.beq m 1 else !(Nat.beq m 0))) (apd z b e (ρ s) (ρ x) K)) (ru P (Builtin.append_ #[t, u] o.type #[ρ s, ρ x]) K)
    | _, _ => no
  | .call { callee := .builtin .cap, args, argTypes } => pp P (Builtin.cap_ argTypes o.type (args.map ρ)) K
  | .call { callee := .builtin .min, args, argTypes } => pp P (Builtin.min_ argTypes o.type (args.map ρ)) K
  | .call { callee := .builtin .max, args, argTypes } => pp P (Builtin.max_ argTypes o.type (args.map ρ)) K
  | .call { callee := .builtin .copy, args, argTypes } => ru P (Builtin.copy_ argTypes o.type (args.map ρ)) K
  | .call { callee := .builtin .clear, args, argTypes } => ru P (Builtin.clear_ argTypes o.type (args.map ρ)) K
  | .call { callee := .builtin .delete, args, argTypes } => ru P (Builtin.delete_ argTypes o.type (args.map ρ)) K
  | _ => no

theorem semAt_op {ro : Option Nat} {ρ : Operand → Value} {o : Oper} (h : ∀ c, o.op ≠ .defer c) : o.semAt ro ρ = execOp ρ o := Oper.semAt_eq _ _ _ h
section
variable {P : Program} {ro : Option Nat} {n : Nat} {o : Oper} {a : Act} {w : World} {K : Value → A} {next : Act → World → Prop} {Q : Exit → Act → World → Prop}
theorem val_run {S : Sem Value} {v : Value} {w' : World} (hnd : ∀ c, o.op ≠ .defer c) (hS : execOp a.eval o = (do pure (.value (← S)))) (hr : S.run P w = .ok v w') (hn : next (a.put o.dst v) w') : o.wpIn (Fr ro) n P a w next Q := by
  refine ⟨fun _ _ => trivial, ?_⟩
  rw [semAt_op hnd, hS, Sem.run_bind, hr]
  exact hn
theorem unit_run {S : Sem Unit} {w' : World} (hnd : ∀ c, o.op ≠ .defer c) (hS : execOp a.eval o = (do S; pure .skip)) (hr : S.run P w = .ok () w') (hn : next (a.put o.dst undef) w') : o.wpIn (Fr ro) n P a w next Q := by
  refine ⟨fun _ _ => trivial, ?_⟩
  rw [semAt_op hnd, hS, Sem.run_bind, hr]
  exact hn
theorem pp_snd {S : Sem Value} (hnd : ∀ c, o.op ≠ .defer c) (hS : execOp a.eval o = (do pure (.value (← S)))) (h : pp P S K w.heap) (hn : ∀ v w', K v w'.heap → KW w w' → next (a.put o.dst v) w') : o.wpIn (Fr ro) n P a w next Q := by
  obtain ⟨v, h1, h2⟩ := h; exact val_run hnd hS (h1 w) (hn _ _ h2 (KW.refl _))
theorem qt_snd {S : Sem Value} (hnd : ∀ c, o.op ≠ .defer c) (hS : execOp a.eval o = (do pure (.value (← S)))) (h : qt P S K w.heap) (hn : ∀ v w', K v w'.heap → KW w w' → next (a.put o.dst v) w') : o.wpIn (Fr ro) n P a w next Q := by
  obtain ⟨v, h1, h2⟩ := h; exact val_run hnd hS (h1 w rfl) (hn _ _ h2 (KW.refl _))
theorem ru_snd {S : Sem Value} (hnd : ∀ c, o.op ≠ .defer c) (hS : execOp a.eval o = (do pure (.value (← S)))) (h : ru P S K w.heap) (hn : ∀ v w', K v w'.heap → KW w w' → next (a.put o.dst v) w') : o.wpIn (Fr ro) n P a w next Q := by
  obtain ⟨v, w', h1, h2, h3⟩ := h w rfl; exact val_run hnd hS h1 (hn _ _ h2 h3)
theorem ruu_snd {S : Sem Unit} (hnd : ∀ c, o.op ≠ .defer c) (hS : execOp a.eval o = (do S; pure .skip)) (h : ru P S (fun _ => K undef) w.heap) (hn : ∀ v w', K v w'.heap → KW w w' → next (a.put o.dst v) w') : o.wpIn (Fr ro) n P a w next Q := by
  obtain ⟨v, w', h1, h2, h3⟩ := h w rfl; exact unit_run hnd hS h1 (hn _ _ h2 h3)
end
end Go.Proofs.YtalknmdbamlabaaGreat.Q
namespace Go.Proofs.YtalknmdbamlabaaGreat.Q
open Go
section
variable {P : Program} {ro : Option Nat} {n : Nat} {o : Oper} {a : Act} {w : World} {K : Value → A} {next : Act → World → Prop} {Q : Exit → Act → World → Prop}
theorem run_newRow' (e : TypeId) (cs : Array Value) (w : World) : (newRow e cs).run P w = .ok ⟨w.heap.size, 0, none⟩ { w with heap := w.heap.push (.cells cs e) } := by
  unfold newRow; rw [Sem.run_bind]; rfl
theorem info_of_z {t : TypeId} {z : List Value} (h : zOf P t = some z) : ∃ i v, P.info? t = some i ∧ i.zero = some v ∧ v.cells = z.toArray := by
  unfold zOf at h
  cases hi : P.info? t with
  | none => simp [hi] at h
  | some i =>
    simp only [hi, Option.bind_some, Option.map_eq_some_iff] at h
    obtain ⟨v, h1, h2⟩ := h
    exact ⟨i, v, rfl, h1, by rw [← h2]⟩
theorem info_of_sz {t : TypeId} {m : Nat} (h : szOf P t = some m) : ∃ i, P.info? t = some i ∧ i.size = m := by
  unfold szOf at h
  cases hi : P.info? t with
  | none => simp [hi] at h
  | some i => simp only [hi, Option.map_some, Option.some.injEq] at h; exact ⟨i, rfl, h⟩
theorem und_of_agg {t : TypeId} {b : Bool} (h : aggOf P t = some b) : ∃ d, P.underlying t = some d ∧ aggD d = b := by
  unfold aggOf at h
  cases hi : P.underlying t with
  | none => simp [hi] at h
  | some d => simp only [hi, Option.map_some, Option.some.injEq] at h; exact ⟨d, rfl, h⟩
theorem und_of_el {t e : TypeId} (h : elOf P t = some e) : P.underlying t = some (.slice e) := by
  unfold elOf at h
  cases hi : P.underlying t with
  | none => simp [hi] at h
  | some d => simp only [hi, Option.bind_some] at h; cases d <;> simp at h; rw [h]
theorem alloc_run {t : TypeId} {z : List Value} (h : zOf P t = some z) (w : World) : (Instr.alloc t true (.tuple #[])).run P w = .ok (.pointer (some ⟨w.heap.size, 0, none⟩)) { w with heap := w.heap.push (.cells z.toArray t) } := by
  obtain ⟨i, v, hi, hz, hv⟩ := info_of_z h
  unfold Instr.alloc
  rw [Sem.run_bind, run_zv hi hz]
  simp only [Result.andThen, newVar, hv]
  rw [Sem.run_bind, run_newRow']; rfl
theorem box_run (t : TypeId) (v : Value) (w : World) : (Instr.box t v).run P w = .ok (.pointer (some ⟨w.heap.size, 0, none⟩)) { w with heap := w.heap.push (.cells v.cells t) } := by
  unfold Instr.box newVar
  rw [Sem.run_bind, run_newRow']; rfl
theorem ld1_run {t : TypeId} {b : Addr} {v : Value} {w : World} (ht : aggOf P t = some false) (hc : cel w.heap b = some v) : (Instr.loadAt t (.pointer (some b))).run P w = .ok v w := by
  obtain ⟨d, h1, h2⟩ := und_of_agg ht
  unfold Instr.loadAt
  rw [Sem.run_bind]
  show Result.andThen (.ok b w) _ = _
  simp only [Result.andThen, loadVar]
  rw [Sem.run_bind, run_agg h1]
  simp only [Result.andThen, h2, Bool.false_eq_true, if_false]
  exact run_ld hc
theorem ldn_run {t : TypeId} {b : Addr} {m : Nat} {vs : List Value} {w : World} (ht : aggOf P t = some true) (hs : szOf P t = some m) (hc : cels w.heap b 0 m = some vs) : (Instr.loadAt t (.pointer (some b))).run P w = .ok (.agg vs.toArray) w := by
  obtain ⟨d, h1, h2⟩ := und_of_agg ht
  obtain ⟨i, h3, h4⟩ := info_of_sz hs
  unfold Instr.loadAt
  rw [Sem.run_bind]
  show Result.andThen (.ok b w) _ = _
  simp only [Result.andThen, loadVar]
  rw [Sem.run_bind, run_agg h1]
  simp only [Result.andThen, h2, if_true]
  rw [Sem.run_bind, run_sz h3]
  simp only [Result.andThen, loadCells, h4]
  rw [Sem.run_bind, run_ldn m 0 #[] vs hc]
  simp only [Result.andThen]
  show Result.ok _ _ = _
  simp
theorem st_run {t : TypeId} {b : Addr} {m : Nat} {v : Value} {w : World} {h' : Hp} (hs : szOf P t = some m) (hv : v.cells.size = m) (hc : stcs w.heap b 0 v.cells.toList = some h') : (Instr.storeAt t (.pointer (some b)) v).run P w = .ok () { w with heap := h' } := by
  obtain ⟨i, h3, h4⟩ := info_of_sz hs
  unfold Instr.storeAt
  rw [Sem.run_bind]
  show Result.andThen (.ok b w) _ = _
  simp only [Result.andThen, storeVar]
  rw [Sem.run_bind, run_sz h3]
  simp only [Result.andThen, h4, hv, ne_eq, not_true, if_false]
  exact run_st _ 0 w h' hc
theorem fa_run {s : TypeId} {f off : Nat} {b : Addr} {w : World} (h : fOff P s f = some off) : (Instr.fieldAt s (.pointer (some b)) f).run P w = .ok (.pointer (some (b.add off))) w := by
  unfold fOff at h
  cases hu : P.underlying s with
  | none => simp [hu] at h
  | some d =>
    simp only [hu] at h
    cases d <;> simp only [reduceCtorEq] at h
    rename_i fs
    cases hf : fs[f]? with
    | none => simp [hf] at h
    | some fd =>
      simp only [hf] at h
      cases hz : szOf P fd.type with
      | none => simp [hz] at h
      | some m =>
        simp only [hz] at h
        obtain ⟨i, h3, h4⟩ := info_of_sz hz
        have hm : Nat.beq m 0 = false := by cases hb : Nat.beq m 0 with
          | false => rfl
          | true => simp [hb] at h
        simp only [hm, cond_false, Option.some.injEq] at h
        have hm' : m ≠ 0 := fun e => by subst e; simp [Nat.beq] at hm
        unfold Instr.fieldAt
        rw [Sem.run_bind, run_und hu]
        simp only [Result.andThen, hf]
        rw [Sem.run_bind]
        show Result.andThen (.ok b w) _ = _
        simp only [Result.andThen, fieldPlace]
        rw [Sem.run_bind, Sem.run_bind, run_sz h3]
        simp only [Result.andThen, h4, hm', if_false, h]
        rfl
theorem asIntOf_run {k : IntKind} {i : Int} {w : World} : (asIntOf (.int k i)).run P w = .ok (k, i) w := rfl
theorem ixs_run {t e : TypeId} {m : Nat} {b : Addr} {len cap : Nat} {k : IntKind} {i : Int} {w : World} (he : P.underlying t = some (.slice e)) (hs : szOf P e = some m) (h0 : 0 ≤ i) (h1 : i < (len : Int)) :
    (Instr.indexAt t (.slice (some b) len cap) (.int k i)).run P w = .ok (.pointer (some (b.add (i.toNat * m)))) w := by
  obtain ⟨d, h3, h4⟩ := info_of_sz hs
  unfold Instr.indexAt
  simp only [Sem.run_bind, asIntOf_run, run_und he, Result.andThen, Sem.run_pure, h0, h1, and_self, if_true, run_sz h3, h4]
theorem bound_run {x : Value} {y m : Nat} {code : BoundsCode} {w : World} (h : ∃ k, x = .int k (m : Int)) (hm : m ≤ y) : (Instr.sliceBound x y code).run P w = .ok m w := by
  obtain ⟨k, rfl⟩ := h
  unfold Instr.sliceBound
  simp only [Sem.run_bind, asIntOf_run, Result.andThen]
  rw [if_pos ⟨by omega, by omega⟩]; rfl
theorem bounds_run {isS : Bool} {len cap l u m : Nat} {lo hi mx : Option Value} {w : World} (hm : bnd mx cap m) (hu : bnd hi len u) (hl : bnd lo 0 l) (h1 : l ≤ u) (h2 : u ≤ m) (h3 : m ≤ cap) (h4 : mx.isSome = true → hi.isSome = true) :
    (Instr.sliceBounds isS len cap lo hi mx).run P w = .ok (l, u, m) w := by
  unfold Instr.sliceBounds
  cases mx with
  | none =>
    simp only [bnd] at hm; subst hm
    cases hi with
    | none =>
      simp only [bnd] at hu; subst hu
      cases lo with
      | none => simp only [bnd] at hl; subst hl; rfl
      | some v =>
        have e3 := fun (code : BoundsCode) => bound_run (P := P) (w := w) (code := code) hl h1
        simp only [Sem.run_bind, Sem.run_pure, Result.andThen, e3]
    | some x =>
      have e2 := fun (code : BoundsCode) => bound_run (P := P) (w := w) (code := code) hu h2
      cases lo with
      | none => simp only [bnd] at hl; subst hl; simp only [Sem.run_bind, Sem.run_pure, Result.andThen, e2]
      | some v =>
        have e3 := fun (code : BoundsCode) => bound_run (P := P) (w := w) (code := code) hl h1
        simp only [Sem.run_bind, Sem.run_pure, Result.andThen, e2, e3]
  | some y =>
    have e1 := fun (code : BoundsCode) => bound_run (P := P) (w := w) (code := code) hm h3
    cases hi with
    | none => simp at h4
    | some x =>
      have e2 := fun (code : BoundsCode) => bound_run (P := P) (w := w) (code := code) hu h2
      cases lo with
      | none => simp only [bnd] at hl; subst hl; simp only [Sem.run_bind, Sem.run_pure, Result.andThen, e1, e2]
      | some v =>
        have e3 := fun (code : BoundsCode) => bound_run (P := P) (w := w) (code := code) hl h1
        simp only [Sem.run_bind, Sem.run_pure, Result.andThen, e1, e2, e3]
theorem sls_run {t : TypeId} {lo hi : Option Value} {s : ByteArray} {l u : Nat} {w : World} (ht : P.underlying t = some .string) (hu : bnd hi s.size u) (hl : bnd lo 0 l) (h1 : l ≤ u) (h2 : u ≤ s.size) :
    (Instr.sliceAt t (.string s) lo hi none).run P w = .ok (.string (s.extract l u)) w := by
  unfold Instr.sliceAt
  rw [Sem.run_bind, run_und ht]
  simp only [Result.andThen, Instr.slice]
  rw [Sem.run_bind, run_und ht]
  simp only [Result.andThen, Option.isSome_none, Bool.false_eq_true, if_false]
  rw [Sem.run_bind, bounds_run (m := s.size) (show bnd none s.size s.size from rfl) hu hl h1 h2 (Nat.le_refl _) (by simp)]; rfl
theorem slc_run {t e : TypeId} {sz : Nat} {lo hi mx : Option Value} {b : Option Addr} {len cap l u m : Nat} {w : World} (ht : P.underlying t = some (.slice e)) (hs : szOf P e = some sz)
    (hm : bnd mx cap m) (hu : bnd hi len u) (hl : bnd lo 0 l) (h1 : l ≤ u) (h2 : u ≤ m) (h3 : m ≤ cap) (h4 : mx.isSome = true → hi.isSome = true) :
    (Instr.sliceAt t (.slice b len cap) lo hi mx).run P w = .ok (.slice (if m = l then b else b.map (·.add (l * sz))) (u - l) (m - l)) w := by
  obtain ⟨i, hi1, hi2⟩ := info_of_sz hs
  unfold Instr.sliceAt
  rw [Sem.run_bind, run_und ht]
  simp only [Result.andThen, Instr.slice]
  rw [Sem.run_bind, run_und ht]
  simp only [Result.andThen]
  rw [Sem.run_bind, bounds_run hm hu hl h1 h2 h3 h4]
  simp only [Result.andThen]
  rw [Sem.run_bind, run_sz hi1, hi2]; rfl
end
end Go.Proofs.YtalknmdbamlabaaGreat.Q
namespace Go.Proofs.YtalknmdbamlabaaGreat.Q
open Go
section
variable {P : Program} {w : World}
theorem eqg_int (op : BinOp) (t : TypeId) (xo yo : Operand) (x y : Value) (h : ∀ a b, ¬ (x = .agg a ∧ y = .agg b)) (h2 : x ≠ .nilIface) : (eqGuard op t xo yo x y).run P w = .ok () w := by
  unfold eqGuard
  cases hop : (!(match op with | .eql => true | .neq => true | _ => false) : Bool) <;> cases op <;> simp at hop <;> (first | rfl | skip)
  all_goals
    cases x <;> cases y <;> first | rfl | (exact absurd ⟨rfl, rfl⟩ (h _ _)) | (exact absurd rfl h2)
theorem eqg_agg (op : BinOp) (t : TypeId) (xo yo : Operand) (a b : Array Value) (h : P.eqGuardType P.depth t = false) : (eqGuard op t xo yo (.agg a) (.agg b)).run P w = .ok () w := by
  unfold eqGuard
  cases op <;> first | rfl | skip
  all_goals
    show Sem.run P (if (!P.eqGuardType P.depth t) = true then _ else _) w = _
    rw [h]; rfl
theorem bn_run {op : BinOp} {t : TypeId} {xo yo : Operand} {x y v : Value} (h : binV op x y = some v) : (do eqGuard op t xo yo x y; binOp op t x y : Sem Value).run P w = .ok v w := by
  have hs : (∃ k a k' b, x = .int k a ∧ y = .int k' b) ∨ (∃ a b, x = .string a ∧ y = .string b) := by
    unfold binV at h
    split at h
    · exact .inl ⟨_, _, _, _, rfl, rfl⟩
    · exact .inr ⟨_, _, rfl, rfl⟩
    · cases h
  rw [Sem.run_bind, eqg_int op t xo yo x y (by rcases hs with ⟨_, _, _, _, rfl, rfl⟩ | ⟨_, _, rfl, rfl⟩ <;> simp) (by rcases hs with ⟨_, _, _, _, rfl, rfl⟩ | ⟨_, _, rfl, rfl⟩ <;> simp)]
  simp only [Result.andThen]
  rcases hs with ⟨k, a, k', b, rfl, rfl⟩ | ⟨a, b, rfl, rfl⟩
  · cases op <;> simp only [binV] at h <;> simp only [binOp]
    case shl => 
      by_cases hb : b < 0
      · simp [hb] at h
      · simp only [hb, if_false, Option.some.injEq] at h; subst h; simp only [Op.shift, hb, if_false]; rfl
    case shr => 
      by_cases hb : b < 0
      · simp [hb] at h
      · simp only [hb, if_false, Option.some.injEq] at h; subst h; simp only [Op.shift, hb, if_false]; rfl
    all_goals
      by_cases hk : k = k'
      · subst hk
        simp only [if_true, intV] at h
        first
          | (simp only [Option.some.injEq] at h; subst h; simp only [ne_eq, not_true, if_false]; rfl)
          | (by_cases hb : b = 0
             · simp [hb] at h
             · simp only [hb, if_false, Option.some.injEq] at h; subst h; simp only [ne_eq, not_true, if_false, Op.intDiv, hb]; rfl)
          | (simp at h)
      · simp [hk] at h
  · cases op <;> simp only [binV, strV] at h <;> simp only [binOp, Op.stringOp]
    case add =>
      by_cases hb : ((a.size + b.size : Nat) : Int) > 9223372036854775807
      · rw [if_pos hb] at h; cases h
      · rw [if_neg hb] at h; simp only [Option.some.injEq] at h; subst h
        have hm : IntKind.i64.max = 9223372036854775807 := by decide
        rw [hm, if_neg hb]; rfl
    all_goals first
      | (simp only [Option.some.injEq] at h; subst h; rfl)
      | (simp at h)
theorem be_run {t : TypeId} {xo yo : Operand} {x y : Value} {b : Bool} (neg : Bool) (hg : P.eqGuardType P.depth t = false) (ho : okEq x y = true) (h : (Op.equal t x y).run P w = .ok b w) :
    (do eqGuard (if neg then .neq else .eql) t xo yo x y; binOp (if neg then .neq else .eql) t x y : Sem Value).run P w = .ok (.bool (b != neg)) w := by
  have hgr : (eqGuard (if neg then .neq else .eql) t xo yo x y).run P w = .ok () w := by
    by_cases ha : ∃ a b, x = .agg a ∧ y = .agg b
    · obtain ⟨a, b, rfl, rfl⟩ := ha; exact eqg_agg _ _ _ _ _ _ hg
    · refine eqg_int _ _ _ _ _ _ (fun a b h => ha ⟨a, b, h.1, h.2⟩) ?_
      intro e; subst e; cases y <;> simp [okEq] at ho
  rw [Sem.run_bind, hgr]
  simp only [Result.andThen]
  have e : binOp (if neg then .neq else .eql) t x y = (do let b ← Op.equal t x y; pure (.bool (b != neg))) := by
    cases neg
    · show binOp .eql t x y = (Op.equal t x y >>= fun b => pure (.bool (b != false)))
      rw [show (fun b : Bool => (pure (Value.bool (b != false)) : Sem Value)) = fun b => pure (.bool b) from by funext b; cases b <;> rfl]
      cases x <;> cases y <;> first | (simp [okEq] at ho; done) | rfl
    · show binOp .neq t x y = (Op.equal t x y >>= fun b => pure (.bool (b != true)))
      rw [show (fun b : Bool => (pure (Value.bool (b != true)) : Sem Value)) = fun b => pure (.bool (!b)) from by funext b; cases b <;> rfl]
      cases x <;> cases y <;> first | (simp [okEq] at ho; done) | rfl
  rw [e, Sem.run_bind, h]; rfl
theorem un_run {op : UnOp} {x v : Value} (h : unV op x = some v) : (Op.unary op x).run P w = .ok v w := by
  unfold unV at h
  split at h
  · simp only [Option.some.injEq] at h; subst h; rfl
  · simp only [intV, Option.some.injEq] at h; subst h; rfl
  · simp only [Option.some.injEq] at h; subst h; rfl
  · cases h
theorem cvi_run {src dst : TypeId} {k j : IntKind} {m : Int} (h1 : ∃ d, P.underlying src = some (.int d)) (h2 : P.underlying dst = some (.int k)) : (convert src dst (.int j m)).run P w = .ok (.int k (k.wrap m)) w := by
  obtain ⟨d, h1⟩ := h1
  unfold convert
  rw [Sem.run_bind, run_und h1]; simp only [Result.andThen]
  rw [Sem.run_bind, run_und h2]; rfl
theorem lnS_run {t e : TypeId} {ty : TypeId} {a : Option Addr} {n c : Nat} (h1 : P.underlying t = some (.slice e)) : (Builtin.len_ #[t] ty #[.slice a n c]).run P w = .ok (.int .i64 n) w := by
  unfold Builtin.len_
  simp only [List.size_toArray, List.length_cons, List.length_nil, Nat.reduceAdd, Nat.lt_add_one, getElem?_pos, List.getElem_toArray, List.getElem_cons_zero]
  rw [Sem.run_bind, run_und h1]; rfl
theorem lnT_run {t : TypeId} {ty : TypeId} {s : ByteArray} (h1 : P.underlying t = some .string) : (Builtin.len_ #[t] ty #[.string s]).run P w = .ok (.int .i64 s.size) w := by
  unfold Builtin.len_
  simp only [List.size_toArray, List.length_cons, List.length_nil, Nat.reduceAdd, Nat.lt_add_one, getElem?_pos, List.getElem_toArray, List.getElem_cons_zero]
  rw [Sem.run_bind, run_und h1]; rfl
end
end Go.Proofs.YtalknmdbamlabaaGreat.Q
namespace Go.Proofs.YtalknmdbamlabaaGreat.Q
open Go
section
variable {P : Program} {w : World}
theorem oneCell_len {z : List Value} (_ : z.length = z.length) : True := trivial
theorem rep_zeroCells (z : List Value) (n : Nat) (hz : z ≠ []) : (Builtin.zeroCells z.toArray n).toList = rep z n := by
  have hlen : 0 < z.length := List.length_pos_iff.2 hz
  unfold Builtin.zeroCells
  have key : ∀ n, (List.range (n * z.length)).map (fun i => z[i % z.length]!) = rep z n := by
    intro n
    induction n with
    | zero => simp [rep]
    | succ n ih =>
      have : (n + 1) * z.length = z.length + n * z.length := by rw [Nat.add_mul, Nat.one_mul, Nat.add_comm]
      rw [this, List.range_add, List.map_append, rep]
      congr 1
      · apply List.ext_getElem
        · simp
        · intro i h1 h2
          simp only [List.length_map, List.length_range] at h1
          simp [Nat.mod_eq_of_lt h1, h1]
      · rw [← ih, List.map_map]
        apply List.map_congr_left
        intro i _
        simp only [Function.comp, Nat.add_mod_left]
  rw [← key n]
  simp
theorem firstCells_run {sz m : Nat} {x : Value} {l : List Value} (h : srcOf w.heap sz x = some (m, l)) : (Builtin.firstCells sz m x).run P w = .ok l.toArray w ∧ (Builtin.lenOf x).run P w = .ok m w := by
  cases x <;> simp only [srcOf, reduceCtorEq] at h
  case string s =>
    simp only [Option.some.injEq, Prod.mk.injEq] at h
    obtain ⟨rfl, rfl⟩ := h
    refine ⟨?_, rfl⟩
    show Result.ok _ w = _
    congr 1
    simp only [ByteArray.extract_zero_size]
    rw [← Array.toList_map]
  case slice a n c =>
    cases a with
    | none =>
      by_cases hn : n = 0
      · subst hn
        simp only [if_true, Option.some.injEq, Prod.mk.injEq] at h
        obtain ⟨rfl, rfl⟩ := h
        exact ⟨rfl, rfl⟩
      · simp [hn] at h
    | some a =>
      simp only [Option.map_eq_some_iff, Prod.mk.injEq] at h
      obtain ⟨l', h1, rfl, rfl⟩ := h
      refine ⟨?_, rfl⟩
      have := run_ldn (P := P) (n * sz) 0 #[] l' h1
      simpa [Builtin.firstCells, loadCells] using this
/-- append, whatever it does. -/
theorem apd_run {t u ty e : TypeId} {z : List Value} {b : Nat} {d : TypeDesc} {s x : Value} {K : Value → A} {i : TypeInfo} {zv : Value}
    (ht : P.underlying t = some (.slice e)) (hu : P.underlying u = some d) (hd : (∃ e', d = .slice e') ∨ d = .string) (hi : P.info? e = some i) (hz : i.zero = some zv) (hzc : zv.cells = z.toArray) (hsz : i.size = z.length) (hz0 : z ≠ []) (hb : i.bytes = b)
    (h : apd z b e s x K w.heap) : ∃ v w', (Builtin.append_ #[t, u] ty #[s, x]).run P w = .ok v w' ∧ K v w'.heap ∧ KW w w' := by
  obtain ⟨base, len, cap, n, new, rfl, hsrc, hroom, hgrow⟩ := h
  obtain ⟨hf, hl⟩ := firstCells_run (P := P) hsrc
  unfold Builtin.append_
  simp only [List.size_toArray, List.length_cons, List.length_nil, Nat.reduceAdd, Nat.lt_add_one, getElem?_pos, List.getElem_toArray, List.getElem_cons_zero, Nat.zero_lt_succ, List.getElem_cons_succ, Nat.reduceLT]
  simp only [Sem.run_bind, run_und ht, Result.andThen, run_sz hi, run_und hu]
  rcases hd with ⟨e', rfl⟩ | rfl
  all_goals
    simp only [Sem.run_pure, Bool.false_eq_true, if_false, hl, Bool.not_false, if_true]
    rw [Sem.run_bind, hl]
    simp only [Result.andThen]
    by_cases hr : len + n ≤ cap
    · obtain ⟨h1, h2⟩ := hroom hr
      simp only [hr, if_true, hsz]
      rw [Sem.run_bind, hf]
      simp only [Result.andThen]
      cases base with
      | none => exact ⟨_, w, rfl, h1 rfl, KW.refl _⟩
      | some a =>
        obtain ⟨h', h3, h4⟩ := h2 a rfl
        refine ⟨_, { w with heap := h' }, ?_, h4, Keep_stcs _ _ _ _ h3, rfl, rfl, rfl⟩
        simp only []
        rw [Sem.run_bind, run_st _ 0 w h' h3]
        rfl
    · obtain ⟨h1, h2, m, old, h3, h4⟩ := hgrow (by omega)
      have hmax : IntKind.i64.max = 9223372036854775807 := by decide
      simp only [hr, if_false, hsz]
      rw [Sem.run_bind, run_ti hi]
      simp only [Result.andThen]
      rw [if_neg (by rw [hmax]; omega), Sem.run_bind, run_ti hi]
      simp only [Result.andThen]
      rw [if_neg (by rw [hb]; omega), Sem.run_bind]
      have hch : (choose (Question.appendCap (len + n) cap e)).run P w = .ok ((Question.appendCap (len + n) cap e).cut (w.tape w.drawn (Question.appendCap (len + n) cap e))) { w with drawn := w.drawn + 1 } := rfl
      rw [hch]
      simp only [Result.andThen]
      have hge : len + n ≤ (Question.appendCap (len + n) cap e).cut (w.tape w.drawn (Question.appendCap (len + n) cap e)) := by
        simp only [Question.cut]; omega
      generalize (Question.appendCap (len + n) cap e).cut (w.tape w.drawn (Question.appendCap (len + n) cap e)) = c' at hge
      rw [Sem.run_bind, run_ti hi]
      simp only [Result.andThen]
      have hask : ∀ (m : Nat) (w : World), (askRoom m).run P w = .ok () w := by
        intro m w; unfold askRoom; split <;> rfl
      rw [Sem.run_bind, hask]
      simp only [Result.andThen]
      obtain ⟨ho, hol⟩ := firstCells_run (P := P) (w := { w with drawn := w.drawn + 1 }) h3
      have hm : m = len := by
        have : (Builtin.lenOf (.slice base len cap)).run P { w with drawn := w.drawn + 1 } = .ok len { w with drawn := w.drawn + 1 } := rfl
        rw [hol] at this; cases this; rfl
      subst hm
      obtain ⟨hn, _⟩ := firstCells_run (P := P) (w := { w with drawn := w.drawn + 1 }) hsrc
      rw [Sem.run_bind, ho]
      simp only [Result.andThen]
      rw [Sem.run_bind, hn]
      simp only [Result.andThen]
      rw [Sem.run_bind, run_zv hi hz]
      simp only [Result.andThen]
      rw [Sem.run_bind, run_newRow']
      refine ⟨_, _, rfl, ?_, Keep_push _ _, rfl, rfl, rfl⟩
      have hrz : Builtin.zeroCells zv.cells (c' - (m + n)) = (rep z (c' - (m + n))).toArray := by
        rw [hzc, ← rep_zeroCells z _ hz0]
      have h5 := h4 c' hge
      rw [hrz]
      simpa using h5
end
end Go.Proofs.YtalknmdbamlabaaGreat.Q
namespace Go.Proofs.YtalknmdbamlabaaGreat.Q
open Go
section
variable {P : Program} {w : World}
theorem foldset : ∀ (l : List Value) (k off : Nat) (z : List Value), off + k + l.length ≤ z.length →
    (l.zipIdx k).foldl (fun cs (c, j) => cs.setIfInBounds (off + j) c) z.toArray = (z.take (off + k) ++ l ++ z.drop (off + k + l.length)).toArray := by
  intro l
  induction l with
  | nil => intro k off z _; simp
  | cons v l ih =>
    intro k off z h
    simp only [List.length_cons] at h
    simp only [List.zipIdx_cons, List.foldl_cons]
    have e : z.toArray.setIfInBounds (off + k) v = (z.set (off + k) v).toArray := by simp
    rw [e, ih (k + 1) off (z.set (off + k) v) (by simp; omega)]
    congr 1
    have hlt : off + k < z.length := by omega
    rw [List.set_eq_take_append_cons_drop, if_pos hlt]
    have hl1 : (z.take (off + k)).length = off + k := by simp; omega
    rw [show off + (k + 1) = (z.take (off + k)).length + 1 from by omega]
    rw [List.take_length_add_append, show (z.take (off + k)).length + 1 + l.length = (z.take (off + k)).length + (l.length + 1) from by omega, List.drop_length_add_append]
    simp only [List.take_succ_cons, List.take_zero, List.drop_succ_cons, List.drop_drop, List.length_cons, List.append_assoc, List.cons_append, List.nil_append, List.take_append_drop]
    congr 2
    congr 1
    rw [show off + k + 1 + l.length = off + k + (l.length + 1) from by omega]
theorem fill_step {place : Nat → Option (Nat × Nat)} {z : List Value} {i o s : Nat} {v : Value} {rest : List (Nat × Value)} (hp : place i = some (o, s)) (h : v.cells.size = s ∧ o + s ≤ z.length) :
    Instr.fill place z.toArray ((i, v) :: rest) = Instr.fill place (z.take o ++ v.cells.toList ++ z.drop (o + s)).toArray rest := by
  simp only [Instr.fill, hp]
  rw [if_neg (by simp; omega)]
  congr 1
  have := foldset v.cells.toList 0 o z (by simp; omega)
  simp only [Nat.add_zero, Array.length_toList] at this
  rw [← h.1, ← this, ← Array.foldl_toList, Array.toList_zipIdx]
theorem fill_of_plcs (pl : List (Nat × Nat)) (ρ : Operand → Value) : ∀ (parts : List (Nat × Operand)) (z : List Value) (ps : List (Nat × Nat × Value)) (cs : List Value),
    plcs pl ρ parts = some ps → fill2 z ps = some cs → Instr.fill (pl.toArray[·]?) z.toArray (parts.map fun (i, x) => (i, ρ x)) = some cs.toArray := by
  intro parts
  induction parts with
  | nil => intro z ps cs h1 h2; simp only [plcs, Option.some.injEq] at h1; subst h1; simp only [fill2, Option.some.injEq] at h2; subst h2; rfl
  | cons p rest ih =>
    intro z ps cs h1 h2
    obtain ⟨i, x⟩ := p
    simp only [plcs] at h1
    split at h1
    · rename_i o n l hi hl
      simp only [Option.some.injEq] at h1; subst h1
      simp only [fill2] at h2
      split at h2
      · rename_i hc
        simp only [List.map_cons]
        rw [fill_step (by simpa using hi) hc]
        exact ih _ _ _ hl h2
      · cases h2
    · cases h1
theorem fill_of_rplcs (sz m : Nat) (ρ : Operand → Value) : ∀ (parts : List (Nat × Operand)) (z : List Value) (cs : List Value),
    fill2 z (rplcs sz ρ parts) = some cs → Instr.fill (fun i => some (i * sz, sz)) z.toArray (parts.map fun (i, x) => (i, ρ x)) = some cs.toArray := by
  intro parts
  induction parts with
  | nil => intro z cs h2; simp only [rplcs, fill2, Option.some.injEq] at h2; subst h2; rfl
  | cons p rest ih =>
    intro z cs h2
    obtain ⟨i, x⟩ := p
    simp only [rplcs, fill2] at h2
    split at h2
    · rename_i hc
      simp only [List.map_cons]
      rw [fill_step rfl hc]
      exact ih _ _ h2
    · cases h2
theorem plc_run {fs : Array Field} {pl : List (Nat × Nat)} (h : fs.toList.mapM (fun f => (szOf P f.type).map fun n => (f.offset, n)) = some pl) :
    (fs.mapM (fun f => do pure (f.offset, ← sizeOf f.type) : Field → Sem (Nat × Nat))).run P w = .ok pl.toArray w := by
  rw [Array.mapM_eq_mapM_toList]
  have key : ∀ (l : List Field) (pl : List (Nat × Nat)), l.mapM (fun f => (szOf P f.type).map fun n => (f.offset, n)) = some pl → (l.mapM (fun f => do pure (f.offset, ← sizeOf f.type) : Field → Sem (Nat × Nat))).run P w = .ok pl w := by
    intro l
    induction l with
    | nil => intro pl h; simp at h; subst h; rfl
    | cons f l ih =>
      intro pl h
      rw [List.mapM_cons] at h
      cases hz : szOf P f.type with
      | none => simp [hz] at h
      | some n =>
        obtain ⟨i, h3, h4⟩ := info_of_sz hz
        simp only [hz, Option.map_some, Option.bind_eq_bind, Option.bind_some] at h
        cases hl : l.mapM (fun f => (szOf P f.type).map fun n => (f.offset, n)) with
        | none => simp [hl] at h
        | some pl' =>
          simp only [hl, Option.bind_some, Option.pure_def, Option.some.injEq] at h
          subst h
          rw [List.mapM_cons, Sem.run_bind, Sem.run_bind, run_sz h3, h4]
          simp only [Result.andThen, Sem.run_pure]
          rw [Sem.run_bind, ih pl' hl]; rfl
  have := key fs.toList pl h
  rw [show (List.toArray <$> fs.toList.mapM (fun f => do pure (f.offset, ← sizeOf f.type) : Field → Sem (Nat × Nat))) = (fs.toList.mapM (fun f => do pure (f.offset, ← sizeOf f.type) : Field → Sem (Nat × Nat)) >>= fun l => pure l.toArray) from by rw [map_eq_pure_bind]]
  rw [Sem.run_bind, this]; rfl
theorem bd_run {t : TypeId} {parts : Array (Nat × Operand)} {ρ : Operand → Value} {z cs : List Value} {ps : List (Nat × Nat × Value)} (hz : zOf P t = some z) (hp : ((plc P t).bind fun pl => plcs pl ρ parts.toList) = some ps) (h : fill2 z ps = some cs) :
    (Instr.build t (parts.map fun (i, x) => (i, ρ x))).run P w = .ok (.agg cs.toArray) w := by
  obtain ⟨i, v, hi, hzv, hv⟩ := info_of_z hz
  cases hpl : plc P t with
  | none => simp [hpl] at hp
  | some pl =>
    simp only [hpl, Option.bind_some] at hp
    unfold plc at hpl
    split at hpl
    · rename_i fs hu
      unfold Instr.build
      rw [Sem.run_bind, run_zv hi hzv]
      simp only [Result.andThen]
      rw [Sem.run_bind, run_und hu]
      simp only [Result.andThen]
      rw [Sem.run_bind, plc_run hpl]
      simp only [Result.andThen]
      have h1 := fill_of_plcs pl ρ parts.toList z ps cs hp h
      have e : (parts.map fun (i, x) => (i, ρ x)).toList = parts.toList.map fun (i, x) => (i, ρ x) := by simp
      simp only [e, hv]
      rw [h1]; rfl
    · cases hpl
theorem bsl_run {t e : TypeId} {n : Nat} {parts : Array (Nat × Operand)} {ρ : Operand → Value} {z cs : List Value} (ht : P.underlying t = some (.slice e)) (hz : zOf P e = some z) (hs : szOf P e = some z.length) (hz0 : z ≠ []) (hn : n * z.length ≤ 16777216)
    (h : fill2 (rep z n) (rplcs z.length ρ parts.toList) = some cs) :
    (Instr.buildSlice t n (parts.map fun (i, x) => (i, ρ x))).run P w = .ok (.slice (some ⟨w.heap.size, 0, none⟩) n n) { w with heap := w.heap.push (.cells cs.toArray e) } := by
  obtain ⟨i, v, hi, hzv, hv⟩ := info_of_z hz
  obtain ⟨i', hi', hs'⟩ := info_of_sz hs
  have hii : i' = i := by rw [hi] at hi'; cases hi'; rfl
  subst hii
  have hlen : 0 < z.length := List.length_pos_iff.2 hz0
  unfold Instr.buildSlice
  rw [Sem.run_bind, run_und ht]
  simp only [Result.andThen]
  rw [Sem.run_bind, run_sz hi, hs']
  simp only [Result.andThen]
  rw [if_neg (by omega)]
  have e : (parts.map fun (i, x) => (i, ρ x)).toList = parts.toList.map fun (i, x) => (i, ρ x) := by simp
  have hf := fill_of_rplcs z.length 0 ρ parts.toList (rep z n) cs h
  have hzc : ∀ n, (Array.range (n * z.length)).map (fun j => z.toArray[j % z.toArray.size]!) = (rep z n).toArray := by
    intro n
    have := rep_zeroCells z n hz0
    unfold Builtin.zeroCells at this
    rw [← this, Array.toArray_toList]; rfl
  by_cases h0 : n = 0
  · subst h0
    simp only [Nat.zero_mul, if_true, e]
    rw [Sem.run_bind, Sem.run_pure]
    simp only [Result.andThen]
    have : Instr.fill (fun i => some (i * z.length, z.length)) (Array.map (fun x => (#[] : Array Value)[x % (#[] : Array Value).size]!) (Array.range 0)) (parts.toList.map fun (i, x) => (i, ρ x)) = some cs.toArray := by
      rw [← hf]; congr 1; exact Array.eq_empty_of_size_eq_zero (by rw [Array.size_map, Array.size_range])
    simp only [this]
    rw [Sem.run_bind, run_newRow']; rfl
  · have : n * z.length ≠ 0 := Nat.mul_ne_zero h0 (by omega)
    simp only [this, if_false, e]
    rw [Sem.run_bind, run_zv hi hzv]
    simp only [Result.andThen]
    rw [Sem.run_bind, Sem.run_pure]
    simp only [Result.andThen, hv, hzc, hf]
    rw [Sem.run_bind, run_newRow']; rfl
end
end Go.Proofs.YtalknmdbamlabaaGreat.Q
namespace Go.Proofs.YtalknmdbamlabaaGreat.Q
open Go
/-- which operations float: none: no; some r: does it read the heap? -/
def fl (P : Program) : Op → Option Bool
  | .move _ | .pick .. | .build .. | .fieldAddr .. | .nilCheck _ | .indexAddr .. | .slice .. | .extract .. | .field .. | .binOp .. | .unOp .. | .makeFunc .. | .index .. => some false
  | .load .. | .lookup .. | .entry _ => some true
  | .convert s d _ => match cK P s d with
    | .s2b => none
    | .b2s => some true
    | _ => some false
  | .call { callee := .builtin .len, .. } => some true
  | .call { callee := .builtin .cap, .. } | .call { callee := .builtin .min, .. } | .call { callee := .builtin .max, .. } => some false
  | _ => none
section
variable {P : Program} {ρ : Operand → Value} {o : Oper} {K : Value → A} {hp : Hp} {r : Bool}
theorem quiet_of {S : Sem Value} {v : Value} (hS : execOp ρ o = (do pure (.value (← S)))) (hr : ∀ w : World, (r = true → w.heap = hp) → S.run P w = .ok v w) (hK : K v hp) :
    ∃ v, K v hp ∧ ∀ w : World, (r = true → w.heap = hp) → (execOp ρ o).run P w = .ok (.value v) w :=
  ⟨v, hK, fun w hw => by rw [hS, Sem.run_bind, hr w hw]; rfl⟩
theorem quiet_pp {S : Sem Value} (hS : execOp ρ o = (do pure (.value (← S)))) (h : pp P S K hp) :
    ∃ v, K v hp ∧ ∀ w : World, (r = true → w.heap = hp) → (execOp ρ o).run P w = .ok (.value v) w := by
  obtain ⟨v, h1, h2⟩ := h; exact quiet_of hS (fun w _ => h1 w) h2
theorem quiet_qt {S : Sem Value} (hS : execOp ρ o = (do pure (.value (← S)))) (hr : r = true) (h : qt P S K hp) :
    ∃ v, K v hp ∧ ∀ w : World, (r = true → w.heap = hp) → (execOp ρ o).run P w = .ok (.value v) w := by
  obtain ⟨v, h1, h2⟩ := h; exact quiet_of hS (fun w hw => h1 w (hw hr)) h2
theorem opW_quiet (hf : fl P o.op = some r) (h : opW P ρ o K hp) : ∃ v, K v hp ∧ ∀ w : World, (r = true → w.heap = hp) → (execOp ρ o).run P w = .ok (.value v) w := by
  have hrd : fl P o.op = some true → r = true := fun e => by rw [hf] at e; simpa using e
  cases ho : o.op with
  | move x =>
    simp only [opW, ho] at h
    exact ⟨_, h, fun w _ => by simp only [execOp, ho]; rfl⟩
  | pick c x y =>
    simp only [opW, ho, pk] at h
    obtain ⟨t, h1, h2⟩ := h
    exact ⟨_, h2, fun w _ => by simp only [execOp, ho, h1]; rfl⟩
  | build t parts =>
    simp only [opW, ho] at h
    obtain ⟨z, hz, h⟩ := oA_some h
    obtain ⟨ps, hp, cs, h1, h2⟩ := oA_some h
    exact quiet_of (by simp only [execOp, ho]) (fun w _ => bd_run hz hp h1) h2
  | load t x =>
    simp only [opW, ho] at h
    obtain ⟨b, ha, h⟩ := oA_some h
    obtain ⟨m, hs, h⟩ := oA_some h
    cases b with
    | true =>
      obtain ⟨b, vs, h1, h2, h3⟩ := h
      exact quiet_of (S := Instr.loadAt t (ρ x)) (by simp only [execOp, ho]) (fun w hw => by rw [h1]; exact ldn_run ha hs (by rw [hw (hrd (by simp [fl, ho]))]; exact h2)) h3
    | false =>
      obtain ⟨b, v, h1, h2, h3⟩ := h
      exact quiet_of (S := Instr.loadAt t (ρ x)) (by simp only [execOp, ho]) (fun w hw => by rw [h1]; exact ld1_run ha (by rw [hw (hrd (by simp [fl, ho]))]; exact h2)) h3
  | fieldAddr s x f =>
    simp only [opW, ho] at h
    obtain ⟨off, hs, b, h1, h2⟩ := oA_some h
    exact quiet_of (by simp only [execOp, ho, h1]) (fun w _ => fa_run hs) h2
  | nilCheck x =>
    simp only [opW, ho] at h
    obtain ⟨b, h1, h2⟩ := h
    exact ⟨_, h2, fun w _ => by simp only [execOp, ho, h1]; rfl⟩
  | indexAddr t x i =>
    simp only [opW, ho] at h
    cases hk : slK P t with
    | sl e =>
      simp only [hk] at h
      obtain ⟨m, hs, b, len, cap, k, j, h1, h2, h3, h4, h5⟩ := oA_some h
      have hu : P.underlying t = some (.slice e) := by
        unfold slK at hk; split at hk <;> simp at hk; subst hk; assumption
      exact quiet_of (S := Instr.indexAt t (ρ x) (ρ i)) (by simp only [execOp, ho]) (fun w _ => by rw [h1, h2]; exact ixs_run hu hs h3 h4) h5
    | str => simp only [hk] at h; exact quiet_pp (by simp only [execOp, ho]) h
    | oth => simp only [hk] at h; exact quiet_pp (by simp only [execOp, ho]) h
  | slice t x lo hi mx =>
    simp only [opW, ho] at h
    cases hk : slK P t with
    | str =>
      simp only [hk] at h
      have hu : P.underlying t = some .string := by
        unfold slK at hk; split at hk <;> simp at hk; assumption
      obtain ⟨hm, s, l, u, h1, h2, h3, h4, h5, h6⟩ := bA_true h
      cases mx with
      | some _ => cases hm
      | none =>
        exact quiet_of (S := Instr.sliceAt t (ρ x) (lo.map ρ) (hi.map ρ) none) (by simp only [execOp, ho]; rfl) (fun w _ => by rw [h1]; exact sls_run hu h3 h2 h4 h5) h6
    | sl e =>
      simp only [hk] at h
      have hu : P.underlying t = some (.slice e) := by
        unfold slK at hk; split at hk <;> simp at hk; subst hk; assumption
      obtain ⟨k, hs, b, len, cap, l, u, m, h1, h2, h3, h4, h5, h6, h7, h8, h9⟩ := oA_some h
      exact quiet_of (S := Instr.sliceAt t (ρ x) (lo.map ρ) (hi.map ρ) (mx.map ρ)) (by simp only [execOp, ho]) (fun w _ => by rw [h1]; exact slc_run hu hs h2 h3 h4 h5 h6 h7 h8) h9
    | oth => simp only [hk] at h; exact quiet_pp (by simp only [execOp, ho]) h
  | extract x i =>
    simp only [opW, ho] at h
    obtain ⟨vs, v, h1, h2, h3⟩ := h
    exact quiet_of (S := Instr.extract (ρ x) i) (by simp only [execOp, ho]) (fun w _ => by rw [h1]; simp only [Instr.extract, h2]; rfl) h3
  | field t x i => simp only [opW, ho] at h; exact quiet_pp (by simp only [execOp, ho]) h
  | binOp op t x y yt =>
    simp only [opW, ho] at h
    have hb : bn op (ρ x) (ρ y) K hp → ∃ v, K v hp ∧ ∀ w : World, (r = true → w.heap = hp) → (execOp ρ o).run P w = .ok (.value v) w := by
      intro h
      obtain ⟨v, h1, h2⟩ := h
      exact quiet_of (S := (do eqGuard op t x y (ρ x) (ρ y); binOp op t (ρ x) (ρ y))) (by simp only [execOp, ho]) (fun w _ => bn_run h1) h2
    have hbe : ∀ (neg : Bool), op = (if neg then .neq else .eql) → P.eqGuardType P.depth t = false → be P t neg (ρ x) (ρ y) K hp → ∃ v, K v hp ∧ ∀ w : World, (r = true → w.heap = hp) → (execOp ρ o).run P w = .ok (.value v) w := by
      intro neg hop hg hbe
      obtain ⟨h1, v, h2, h3⟩ := hbe
      exact quiet_of (by simp only [execOp, ho, hop]) (fun w _ => be_run (xo := x) (yo := y) neg hg h1 (h2 w)) h3
    have hgt : ∀ (B : BK), B ≠ .num → B ≠ .bad → bK P t op = B → P.eqGuardType P.depth t = false ∧ ((op = .eql ∧ B = .eql) ∨ (op = .neq ∧ B = .neq)) := by
      intro B h1 h2 h3
      unfold bK at h3
      split at h3
      · exact absurd h3.symm h1
      · exact absurd h3.symm h1
      · cases hg : P.eqGuardType P.depth t with
        | true => rw [hg] at h3; exact absurd h3.symm h2
        | false => rw [hg] at h3; refine ⟨rfl, ?_⟩; cases op <;> simp at h3 <;> subst h3 <;> simp at h2 ⊢
      · exact absurd h3.symm h2
    cases hk : bK P t op with
    | num => simp only [hk] at h; exact hb h
    | eql =>
      simp only [hk] at h
      obtain ⟨h1, h2⟩ := hgt _ (by simp) (by simp) hk
      simp only [reduceCtorEq, and_false, or_false, and_true] at h2
      exact hbe false h2 h1 h
    | neq =>
      simp only [hk] at h
      obtain ⟨h1, h2⟩ := hgt _ (by simp) (by simp) hk
      simp only [reduceCtorEq, and_false, false_or, and_true] at h2
      exact hbe true h2 h1 h
    | bad => simp only [hk] at h; exact h.elim
  | unOp op t x =>
    simp only [opW, ho] at h
    obtain ⟨v, h1, h2⟩ := h
    exact quiet_of (by simp only [execOp, ho]) (fun w _ => un_run h1) h2
  | convert src dst x =>
    simp only [opW, ho] at h
    cases hk : cK P src dst with
    | int k =>
      simp only [hk] at h
      obtain ⟨j, m, h1, h2⟩ := h
      have hu : (∃ d, P.underlying src = some (.int d)) ∧ P.underlying dst = some (.int k) := by
        unfold cK at hk; split at hk <;> simp at hk; subst hk; exact ⟨⟨_, by assumption⟩, by assumption⟩
      exact quiet_of (S := convert src dst (ρ x)) (by simp only [execOp, ho]) (fun w _ => by rw [h1]; exact cvi_run hu.1 hu.2) h2
    | s2b => simp [fl, ho, hk] at hf
    | b2s => simp only [hk] at h; exact quiet_qt (by simp only [execOp, ho]) (by simpa [fl, ho, hk] using hf) h
    | oth => simp only [hk] at h; exact quiet_pp (by simp only [execOp, ho]) h
  | makeFunc fn first captured =>
    simp only [opW, ho, mf] at h
    refine ⟨_, h, fun w _ => ?_⟩
    rw [← Array.toList_map, ← Array.toList_map]; simp only [execOp, ho]; rfl
  | index t x i => simp only [opW, ho] at h; exact quiet_pp (by simp only [execOp, ho]) h
  | lookup t x i ok => simp only [opW, ho] at h; exact quiet_qt (by simp only [execOp, ho]) (by simpa [fl, ho] using hf) h
  | entry it => simp only [opW, ho] at h; exact quiet_qt (by simp only [execOp, ho]) (by simpa [fl, ho] using hf) h
  | call c =>
    obtain ⟨callee, args, at_⟩ := c
    cases callee with
    | value f => simp [fl, ho] at hf
    | invoke r m => simp [fl, ho] at hf
    | builtin b =>
      have hex : ∀ (S : Array Value → Sem Value), (∀ vs, builtin b at_ o.type (args.map fun | .const _ => true | _ => false) vs = (do pure (.value (← S vs)))) → execOp ρ o = (do pure (.value (← S (args.map ρ)))) := by
        intro S hS
        simp only [execOp, ho, resolve]
        exact hS _
      cases b <;> simp only [opW, ho] at h <;> first | exact h.elim | skip
      case cap => exact quiet_pp (hex _ fun _ => rfl) h
      case min => exact quiet_pp (hex _ fun _ => rfl) h
      case max => exact quiet_pp (hex _ fun _ => rfl) h
      case copy => simp [fl, ho] at hf
      case clear => simp [fl, ho] at hf
      case delete => simp [fl, ho] at hf
      case append => simp [fl, ho] at hf
      case len =>
        generalize hx : args.toList = la at h
        generalize ht : at_.toList = lt at h
        match la, lt, hx, ht, h with
        | [x], [t], hx, ht, h =>
          have ea : args = #[x] := by rw [← Array.toList_inj]; simpa using hx
          have et : at_ = #[t] := by rw [← Array.toList_inj]; simpa using ht
          subst ea; subst et
          have hm : (#[x] : Array Operand).map ρ = #[ρ x] := by simp
          have hex' := hex (Builtin.len_ #[t] o.type) (fun _ => rfl)
          rw [hm] at hex'
          cases hk : slK P t with
          | sl e =>
            simp only [hk] at h
            have hu : P.underlying t = some (.slice e) := by
              unfold slK at hk; split at hk <;> simp at hk; subst hk; assumption
            obtain ⟨b, m, c, h1, h2⟩ := h
            rw [h1] at hex'
            exact quiet_of hex' (fun w _ => lnS_run hu) h2
          | str =>
            simp only [hk] at h
            have hu : P.underlying t = some .string := by
              unfold slK at hk; split at hk <;> simp at hk; assumption
            obtain ⟨s, h1, h2⟩ := h
            rw [h1] at hex'
            exact quiet_of hex' (fun w _ => lnT_run hu) h2
          | oth => simp only [hk] at h; exact quiet_qt hex' (hrd (by simp [fl, ho])) h
        | [], _, _, _, h => exact h.elim
        | _ :: _ :: _, _, _, _, h => exact h.elim
        | [_], [], _, _, h => exact h.elim
        | [_], _ :: _ :: _, _, _, h => exact h.elim
  | _ => simp [fl, ho] at hf
end
theorem opW_sound {P : Program} {ro : Option Nat} {n : Nat} {o : Oper} {a : Act} {w : World} {K : Value → A} {next : Act → World → Prop} {Q : Exit → Act → World → Prop}
    {ρ : Operand → Value} (hfun : ∀ g, ρ (.func g) = .func (.func g) #[] #[]) (hcg : execOp a.eval o = execOp ρ o) (h : opW P ρ o K w.heap) (hn : ∀ v w', K v w'.heap → KW w w' → next (a.put o.dst v) w') : o.wpIn (Fr ro) n P a w next Q := by
  have KR := KW.refl w
  have KP : ∀ o, KW w { w with heap := w.heap.push o } := fun o => ⟨Keep_push w.heap o, rfl, rfl, rfl⟩
  cases hfl : fl P o.op with
  | some r =>
    obtain ⟨v, h1, h2⟩ := opW_quiet hfl h
    refine ⟨fun _ _ => trivial, ?_⟩
    rw [semAt_op (by intro c hc; rw [hc] at hfl; simp [fl] at hfl), hcg, h2 w (fun _ => rfl)]
    exact hn _ _ h1 KR
  | none =>
  cases ho : o.op with
  | assign x =>
    simp only [opW, ho] at h
    refine ⟨fun _ _ => trivial, ?_⟩
    rw [semAt_op (by rw [ho]; intro c hc; cases hc), hcg]; simp only [execOp, ho]; exact hn _ _ h KR
  | alloc t =>
    simp only [opW, ho] at h
    obtain ⟨z, hz, h⟩ := oA_some h
    exact val_run (by rw [ho]; intro c hc; cases hc) (by rw [hcg]; simp only [execOp, ho]) (alloc_run hz w) (hn _ _ h (KP _))
  | box t x =>
    simp only [opW, ho] at h
    exact val_run (by rw [ho]; intro c hc; cases hc) (by rw [hcg]; simp only [execOp, ho]) (box_run t _ w) (hn _ _ h (KP _))
  | buildSlice t m parts =>
    simp only [opW, ho] at h
    obtain ⟨e, he, h⟩ := oA_some h
    obtain ⟨z, hz, h⟩ := oA_some h
    obtain ⟨k, hs, h⟩ := oA_some h
    obtain ⟨hc, cs, h1, h2⟩ := bA_true h
    simp only [Bool.and_eq_true, Bool.not_eq_true'] at hc
    have hk : k = z.length := Nat.eq_of_beq_eq_true hc.2.1
    subst hk
    exact val_run (by rw [ho]; intro c hc; cases hc) (by rw [hcg]; simp only [execOp, ho]) (bsl_run (und_of_el he) hz hs (by rintro rfl; simp [Nat.beq] at hc) (Nat.le_of_ble_eq_true hc.1) h1) (hn _ _ h2 (KP _))
  | store t x y =>
    simp only [opW, ho] at h
    obtain ⟨m, hs, b, h', h1, h2, h3, h4⟩ := oA_some h
    exact unit_run (by rw [ho]; intro c hc; cases hc) (by rw [hcg]; simp only [execOp, ho, h1]) (st_run hs h2 h3) (hn _ _ h4 ⟨Keep_stcs _ _ _ _ h3, rfl, rfl, rfl⟩)
  | convert src dst x =>
    simp only [opW, ho] at h
    cases hk : cK P src dst with
    | int k => simp [fl, ho, hk] at hfl
    | s2b => simp only [hk] at h; exact ru_snd (by rw [ho]; intro c hc; cases hc) (by rw [hcg]; simp only [execOp, ho]) h hn
    | b2s => simp [fl, ho, hk] at hfl
    | oth => simp [fl, ho, hk] at hfl
  | mapUpdate t m k x => simp only [opW, ho] at h; exact ruu_snd (by rw [ho]; intro c hc; cases hc) (by rw [hcg]; simp only [execOp, ho]) h hn
  | insert t m k x => simp only [opW, ho] at h; exact ruu_snd (by rw [ho]; intro c hc; cases hc) (by rw [hcg]; simp only [execOp, ho]) h hn
  | entryStore t m k x => simp only [opW, ho] at h; exact ruu_snd (by rw [ho]; intro c hc; cases hc) (by rw [hcg]; simp only [execOp, ho]) h hn
  | mapEntry t m k => simp only [opW, ho] at h; exact ru_snd (by rw [ho]; intro c hc; cases hc) (by rw [hcg]; simp only [execOp, ho]) h hn
  | makeMap t r => simp only [opW, ho] at h; exact ru_snd (by rw [ho]; intro c hc; cases hc) (by rw [hcg]; simp only [execOp, ho]) h hn
  | makeSlice t l c => simp only [opW, ho] at h; exact ru_snd (by rw [ho]; intro c hc; cases hc) (by rw [hcg]; simp only [execOp, ho]) h hn
  | range t x => simp only [opW, ho] at h; exact ru_snd (by rw [ho]; intro c hc; cases hc) (by rw [hcg]; simp only [execOp, ho]) h hn
  | next it s => simp only [opW, ho] at h; exact ru_snd (by rw [ho]; intro c hc; cases hc) (by rw [hcg]; simp only [execOp, ho]) h hn
  | call c =>
    obtain ⟨callee, args, at_⟩ := c
    cases callee with
    | value f =>
      cases f with
      | func g =>
        simp only [opW, ho] at h
        rcases h with ⟨h1, h2⟩ | h
        · refine cv_sound hcg ho rfl ?_ hn
          rw [hfun g]
          exact ⟨h1, by simpa using h2⟩
        · obtain ⟨v, w', h1, h2, h3⟩ := h w rfl
          refine ⟨fun _ _ => trivial, ?_⟩
          rw [semAt_op (by rw [ho]; intro c hc; cases hc), hcg]
          have e : execOp ρ o = callFunc g (args.toList.map ρ).toArray := by
            simp only [execOp, ho, resolve, hfun g, Deferred.ofValue]
            show callFunc g (#[] ++ args.map ρ ++ #[]) = _
            have e2 : (args.toList.map ρ).toArray = args.map ρ := by rw [← Array.toList_map]
            rw [e2]; simp
          rw [e, h1]
          exact hn _ _ h2 h3
      | _ => refine cv_sound hcg ho rfl ?_ hn; simp only [opW, ho] at h; exact h
    | invoke r m => simp only [opW, ho] at h; exact h.elim
    | builtin b =>
      have hex : ∀ (S : Array Value → Sem Value), (∀ vs, builtin b at_ o.type (args.map fun | .const _ => true | _ => false) vs = (do pure (.value (← S vs)))) → execOp a.eval o = (do pure (.value (← S (args.map ρ)))) := by
        intro S hS
        rw [hcg]; simp only [execOp, ho, resolve]
        exact hS _
      have hnd : ∀ c, o.op ≠ .defer c := by rw [ho]; intro c hc; cases hc
      cases b <;> simp only [opW, ho] at h <;> first | exact h.elim | skip
      case cap => simp [fl, ho] at hfl
      case min => simp [fl, ho] at hfl
      case max => simp [fl, ho] at hfl
      case copy => exact ru_snd hnd (hex _ fun _ => rfl) h hn
      case clear => exact ru_snd hnd (hex _ fun _ => rfl) h hn
      case delete => exact ru_snd hnd (hex _ fun _ => rfl) h hn
      case len => simp [fl, ho] at hfl
      case append =>
        generalize hx : args.toList = la at h
        generalize ht : at_.toList = lt at h
        match la, lt, hx, ht, h with
        | [s, x], [t, u], hx, ht, h =>
          have ea : args = #[s, x] := by rw [← Array.toList_inj]; simpa using hx
          have et : at_ = #[t, u] := by rw [← Array.toList_inj]; simpa using ht
          subst ea; subst et
          have hm : (#[s, x] : Array Operand).map ρ = #[ρ s, ρ x] := by simp
          have hex' := hex (Builtin.append_ #[t, u] o.type) (fun _ => rfl)
          rw [hm] at hex'
          cases hu : isSS P u with
          | none => simp only [hu, oE] at h; exact ru_snd hnd hex' h hn
          | some isS =>
          simp only [hu, oE] at h
          obtain ⟨e, he, h⟩ := oA_some h
          obtain ⟨z, hz, h⟩ := oA_some h
          obtain ⟨b, hb, h⟩ := oA_some h
          obtain ⟨m, hs, h⟩ := oA_some h
          obtain ⟨hc, hA⟩ := bA_true h
          simp only [Bool.and_eq_true] at hc
          have hmz : m = z.length := Nat.eq_of_beq_eq_true hc.1
          subst hmz
          have hz0 : z ≠ [] := by
            rintro rfl
            have := hc.2
            cases isS <;> simp [Nat.beq] at this
          have hu' : ∃ d, P.underlying u = some d ∧ ((∃ e', d = .slice e') ∨ d = .string) := by
            unfold isSS at hu; split at hu
            · exact ⟨_, by assumption, .inl ⟨_, rfl⟩⟩
            · exact ⟨_, by assumption, .inr rfl⟩
            · cases hu
          obtain ⟨d, hu1, hu2⟩ := hu'
          obtain ⟨i, v, hi, hzv, hv⟩ := info_of_z hz
          obtain ⟨i', hi', hs'⟩ := info_of_sz hs
          have hii : i' = i := by rw [hi] at hi'; cases hi'; rfl
          subst hii
          have hb' : i'.bytes = b := by unfold byOf at hb; rw [hi] at hb; simpa using hb
          obtain ⟨v, w', h1, h2, h3⟩ := apd_run (ty := o.type) (und_of_el he) hu1 hu2 hi hzv hv hs' hz0 hb' hA
          exact val_run hnd hex' h1 (hn _ _ h2 h3)
        | [], _, _, _, h => exact h.elim
        | [_], _, _, _, h => exact h.elim
        | _ :: _ :: _ :: _, _, _, _, h => exact h.elim
        | [_, _], [], _, _, h => exact h.elim
        | [_, _], [_], _, _, h => exact h.elim
        | [_, _], _ :: _ :: _ :: _, _, _, h => exact h.elim
  | _ => first | (simp [fl, ho] at hfl; done) | (simp only [opW, ho] at h; exact h.elim)
end Go.Proofs.YtalknmdbamlabaaGreat.Q

/-! regions whose order is open -/
namespace Go.Proofs.YtalknmdbamlabaaGreat.Q
open Go
inductive Pl
  | nil
  | fl (i : Nat) (p : Pl)
  | mu (i : Nat) (rs : List Nat) (p : Pl)
  | alt (p q : Pl)
def an2 (X Y : A) : A := fun h => X h ∧ Y h
/-- operation o of a region, its guard before it. -/
def gop (P : Program) (ops : Array Oper) (σ : Rg) (o : Oper) (K : Value → A) : A :=
  match o.guard with
  | none => opW P (ev σ) o K
  | some (j, want) =>
    match (ops[j]?).bind (·.dst) with
    | some d => gd (σ d) want (opW P (ev σ) o) K
    | none => fun _ => False
def chk (P : Program) (ops : Array Oper) (σ : Rg) (i : Nat) : A :=
  match ops[i]? with
  | some o => match o.dst with
    | some d => gop P ops σ o (fun v _ => v = σ d)
    | none => no
  | none => no
def rck (P : Program) (ops : Array Oper) (σ : Rg) : List Nat → A → A
  | [], X => X
  | i :: rs, X => an2 (chk P ops σ i) (rck P ops σ rs X)
def wpl (P : Program) (ops : Array Oper) : Pl → Rg → (Rg → A) → A
  | .nil, σ, K => K σ
  | .fl i p, σ, K => match ops[i]? with
    | some o => gop P ops σ o (fun v => wpl P ops p (updO σ o.dst v) K)
    | none => no
  | .mu i rs p, σ, K => match ops[i]? with
    | some o => gop P ops σ o (fun v => rck P ops (updO σ o.dst v) rs (wpl P ops p (updO σ o.dst v) K))
    | none => no
  | .alt p q, σ, K => an2 (wpl P ops p σ K) (wpl P ops q σ K)

/-! the check of a plan; anc: each operation's ancestors. -/
def mem : Nat → List Nat → Bool
  | _, [] => false
  | a, b :: l => bif Nat.beq a b then true else mem a l
theorem mem_iff {a : Nat} : ∀ {l : List Nat}, mem a l = true ↔ a ∈ l
  | [] => by simp [mem]
  | b :: l => by
    simp only [mem, List.mem_cons]
    cases hb : Nat.beq a b with
    | true => simp [Nat.eq_of_beq_eq_true hb]
    | false =>
      have : a ≠ b := by rintro rfl; simp at hb
      simp [this, mem_iff (l := l)]
def isMu (P : Program) (ops : Array Oper) (i : Nat) : Bool := match ops[i]? with | some o => (fl P o.op).isNone | none => false
def isRd (P : Program) (ops : Array Oper) (i : Nat) : Bool := match ops[i]? with | some o => (match fl P o.op with | some r => r | none => false) | none => false
def looks (ops : Array Oper) (i : Nat) : List Nat := match ops[i]? with | some o => o.looksAt ops | none => []
def dsts (ops : Array Oper) (i : Nat) : Option Nat := match ops[i]? with | some o => o.dst | none => none
def notSel : Op → Bool
  | .select .. => false
  | .defer _ => false
  | _ => true
/-- the region's shape: edges go back; anc is right; what is written is read behind it alone; no two write one. -/
def shapeOk (P : Program) (ops : Array Oper) (anc : List (List Nat)) : Bool :=
  (List.range ops.size).all fun i => match ops[i]? with
    | none => false
    | some o =>
      notSel o.op &&
      (match o.guard with | none => true | some (j, _) => ((ops[j]?).bind (·.dst)).isSome) &&
      (o.after.toList.all fun e => !Region.binds .any e || (Nat.blt e.on i && mem e.on (anc.getD i []))) &&
      ((anc.getD i []).all fun j => o.after.toList.any fun e => Region.binds .any e && (Nat.beq e.on j || mem j (anc.getD e.on []))) &&
      ((fl P o.op).isNone || (match o.dst with | some d => !(mem d (o.looksAt ops)) | none => false)) &&
      ((List.range ops.size).all fun k => Nat.beq i k || (match dsts ops k with
        | some d => (match o.dst with | some d' => !(Nat.beq d d') | none => true) && (!(mem d (o.looksAt ops)) || mem k (anc.getD i []) || (isMu P ops k && mem i (anc.getD k [])))
        | none => true))
def heads : Pl → List Nat
  | .mu i _ _ => [i]
  | .alt p q => heads p ++ heads q
  | _ => []
def cov (P : Program) (ops : Array Oper) (anc : List (List Nat)) (done : List Nat) (p : Pl) : Bool :=
  (List.range ops.size).all fun m => !(isMu P ops m) || mem m done || mem m (heads p) || ((anc.getD m []).any fun k => isMu P ops k && !(mem k done))
def vpl (P : Program) (ops : Array Oper) (anc : List (List Nat)) : Pl → Bool → List Nat → List Nat → Bool
  | .nil, _, _, done => (List.range ops.size).all fun i => mem i done
  | .fl i p, top, last, done => top && Nat.blt i ops.size && !(mem i done) && !(isMu P ops i) && ((anc.getD i []).all fun k => mem k done) && (last.all fun m => mem m (anc.getD i [])) && vpl P ops anc p true last (i :: done)
  | .mu i rs p, top, _, done => (!top || cov P ops anc done (.mu i rs p)) && Nat.blt i ops.size && !(mem i done) && isMu P ops i && ((anc.getD i []).all fun k => mem k done) && (done.all fun k => isMu P ops k || !(isRd P ops k) || mem k (anc.getD i []) || mem k rs) && vpl P ops anc p true [i] (i :: done)
  | .alt p q, top, last, done => (!top || cov P ops anc done (.alt p q)) && vpl P ops anc p false last done && vpl P ops anc q false last done
end Go.Proofs.YtalknmdbamlabaaGreat.Q
namespace Go.Proofs.YtalknmdbamlabaaGreat.Q
open Go
section
variable {P : Program} {ops : Array Oper} {anc : List (List Nat)}
def wn (ops : Array Oper) (τ : Rg) (o : Oper) : Prop :=
  match o.guard with
  | none => True
  | some (j, want) => ∃ d, (ops[j]?).bind (·.dst) = some d ∧ τ d = .bool want
def FlAt (P : Program) (ops : Array Oper) (r : Bool) (o : Oper) (τ : Rg) (h : Hp) (v : Value) : Prop :=
  (wn ops τ o ∧ ∀ w : World, (r = true → w.heap = h) → (execOp (ev τ) o).run P w = .ok (.value v) w) ∨ (¬ wn ops τ o ∧ v = undef)
theorem gop_fl {o : Oper} {r : Bool} {τ : Rg} {K : Value → A} {h : Hp} (hf : fl P o.op = some r) (H : gop P ops τ o K h) : ∃ v, FlAt P ops r o τ h v ∧ K v h := by
  unfold gop at H
  cases hg : o.guard with
  | none =>
    simp only [hg] at H
    obtain ⟨v, h1, h2⟩ := opW_quiet hf H
    exact ⟨v, .inl ⟨by simp [wn, hg], h2⟩, h1⟩
  | some g =>
    obtain ⟨j, want⟩ := g
    simp only [hg] at H
    cases hd : (ops[j]?).bind (·.dst) with
    | none => simp only [hd] at H
    | some d =>
      simp only [hd] at H
      by_cases hc : τ d = .bool want
      · obtain ⟨v, h1, h2⟩ := opW_quiet hf (H.1 hc)
        exact ⟨v, .inl ⟨by simp only [wn, hg]; exact ⟨d, hd, hc⟩, h2⟩, h1⟩
      · refine ⟨undef, .inr ⟨?_, rfl⟩, H.2 hc⟩
        simp only [wn, hg]; rintro ⟨d', h1, h2⟩; rw [hd] at h1; cases h1; exact hc h2
theorem notSel_sel {op : Op} (h : notSel op = true) : (∀ cs b, op ≠ .select cs b) ∧ (∀ c, op ≠ .defer c) := by
  constructor
  · rintro cs b rfl; simp [notSel] at h
  · rintro c rfl; simp [notSel] at h
theorem looks_op {o : Oper} {t : Nat} (h : Operand.tmp t ∈ o.op.operands) : t ∈ o.looksAt ops := by
  unfold Oper.looksAt
  exact List.mem_append_left _ (List.mem_filterMap.2 ⟨.tmp t, by simpa using h, rfl⟩)
theorem looks_gd {o : Oper} {j : Nat} {want : Bool} {d : Nat} (hg : o.guard = some (j, want)) (hd : (ops[j]?).bind (·.dst) = some d) : d ∈ o.looksAt ops := by
  unfold Oper.looksAt
  refine List.mem_append_right _ ?_
  simp [hg, hd]
theorem exec_agree {o : Oper} {τ τ' : Rg} (hs : notSel o.op = true) (h : ∀ t ∈ o.looksAt ops, τ t = τ' t) : execOp (ev τ) o = execOp (ev τ') o := by
  refine execOp_congr o (notSel_sel hs).1 fun x hx => ?_
  cases x with
  | tmp t => exact h t (looks_op hx)
  | _ => rfl
theorem wn_agree {o : Oper} {τ τ' : Rg} (h : ∀ t ∈ o.looksAt ops, τ t = τ' t) : wn ops τ o ↔ wn ops τ' o := by
  unfold wn
  cases hg : o.guard with
  | none => exact Iff.rfl
  | some g =>
    obtain ⟨j, want⟩ := g
    simp only
    constructor
    · rintro ⟨d, h1, h2⟩; exact ⟨d, h1, by rw [← h d (looks_gd hg h1)]; exact h2⟩
    · rintro ⟨d, h1, h2⟩; exact ⟨d, h1, by rw [h d (looks_gd hg h1)]; exact h2⟩
theorem FlAt.agree {o : Oper} {r : Bool} {τ τ' : Rg} {hp : Hp} {v : Value} (hs : notSel o.op = true) (h : ∀ t ∈ o.looksAt ops, τ t = τ' t) (H : FlAt P ops r o τ hp v) : FlAt P ops r o τ' hp v := by
  rcases H with ⟨h1, h2⟩ | ⟨h1, h2⟩
  · exact .inl ⟨(wn_agree h).1 h1, fun w hw => by rw [← exec_agree hs h]; exact h2 w hw⟩
  · exact .inr ⟨fun e => h1 ((wn_agree h).2 e), h2⟩
structure Shp (P : Program) (ops : Array Oper) (anc : List (List Nat)) (i : Nat) (o : Oper) : Prop where
  sel : notSel o.op = true
  gd : ∀ j want, o.guard = some (j, want) → ∃ d, (ops[j]?).bind (·.dst) = some d
  edge : ∀ e ∈ o.after.toList, Region.binds .any e = true → e.on < i ∧ e.on ∈ anc.getD i []
  an : ∀ j ∈ anc.getD i [], ∃ e ∈ o.after.toList, Region.binds .any e = true ∧ (e.on = j ∨ j ∈ anc.getD e.on [])
  flo : ∀ r, fl P o.op = some r → ∃ d, o.dst = some d ∧ d ∉ o.looksAt ops
  oth : ∀ k, k < ops.size → k ≠ i → ∀ d, dsts ops k = some d → o.dst ≠ some d ∧ (d ∈ o.looksAt ops → k ∈ anc.getD i [] ∨ (isMu P ops k = true ∧ i ∈ anc.getD k []))
theorem shp (h : shapeOk P ops anc = true) {i : Nat} {o : Oper} (ho : ops[i]? = some o) : Shp P ops anc i o := by
  have hi : i < ops.size := (Array.getElem?_eq_some_iff.1 ho).1
  have h1 := List.all_eq_true.1 h i (List.mem_range.2 hi)
  simp only [ho, Bool.and_eq_true] at h1
  obtain ⟨⟨⟨⟨⟨a1, a2⟩, a3⟩, a4⟩, a5⟩, a6⟩ := h1
  refine ⟨a1, ?_, ?_, ?_, ?_, ?_⟩
  · intro j want hg; simp only [hg] at a2; exact Option.isSome_iff_exists.1 a2
  · intro e he hb
    have := List.all_eq_true.1 a3 e he
    simp only [hb, Bool.not_true, Bool.false_or, Bool.and_eq_true] at this
    exact ⟨Nat.lt_of_lt_of_le (Nat.lt_succ_self _) (Nat.le_of_ble_eq_true this.1), mem_iff.1 this.2⟩
  · intro j hj
    have := List.all_eq_true.1 a4 j hj
    obtain ⟨e, he, h2⟩ := List.any_eq_true.1 this
    simp only [Bool.and_eq_true, Bool.or_eq_true] at h2
    exact ⟨e, he, h2.1, h2.2.imp (fun h => Nat.eq_of_beq_eq_true h) (fun h => mem_iff.1 h)⟩
  · intro r hr
    simp only [hr, Option.isNone_some, Bool.false_or] at a5
    cases hd : o.dst with
    | none => simp [hd] at a5
    | some d =>
      simp only [hd, Bool.not_eq_true'] at a5
      exact ⟨d, rfl, fun hm => by rw [mem_iff.2 hm] at a5; cases a5⟩
  · intro k hk hne d hd
    have := List.all_eq_true.1 a6 k (List.mem_range.2 hk)
    have hb : Nat.beq i k = false := by
      cases hb : Nat.beq i k with
      | false => rfl
      | true => exact absurd (Nat.eq_of_beq_eq_true hb).symm hne
    simp only [hb, Bool.false_or, hd, Bool.and_eq_true, Bool.or_eq_true, Bool.not_eq_true'] at this
    refine ⟨fun e => ?_, fun hl => ?_⟩
    · have h2 := this.1; simp only [e, Nat.beq_refl] at h2; cases h2
    · rcases this.2 with (h2 | h2) | h2
      · rw [mem_iff.2 hl] at h2; cases h2
      · exact .inl (mem_iff.1 h2)
      · exact .inr ⟨h2.1, mem_iff.1 h2.2⟩
theorem anc_in (hsh : shapeOk P ops anc = true) {S : Nat → Prop} (hdn : ∀ i o, ops[i]? = some o → S i → ∀ e ∈ o.after.toList, Region.binds .any e = true → S e.on) :
    ∀ (i : Nat) (o : Oper), ops[i]? = some o → (∀ e ∈ o.after.toList, Region.binds .any e = true → S e.on) → ∀ j ∈ anc.getD i [], S j := by
  intro i
  induction i using Nat.strongRecOn with
  | _ i ih =>
    intro o ho hpre j hj
    obtain ⟨e, he, hb, h1 | h1⟩ := (shp hsh ho).an j hj
    · exact h1 ▸ hpre e he hb
    · have hlt := ((shp hsh ho).edge e he hb).1
      have hS := hpre e he hb
      have hsz : e.on < ops.size := Nat.lt_trans hlt (Array.getElem?_eq_some_iff.1 ho).1
      have ho' : ops[e.on]? = some ops[e.on] := Array.getElem?_eq_getElem hsz
      exact ih e.on hlt _ ho' (hdn _ _ ho' hS) j h1
structure IV (P : Program) (ops : Array Oper) (anc : List (List Nat)) (S : Nat → Prop) (done : List Nat) (σ τ : Rg) (h : Hp) : Prop where
  sub : ∀ i, i < ops.size → S i → i ∈ done
  lt : ∀ i ∈ done, i < ops.size
  mu : ∀ i ∈ done, isMu P ops i = true → S i
  reg : ∀ t, (∀ i ∈ done, ¬ S i → dsts ops i ≠ some t) → σ t = τ t
  pend : ∀ i ∈ done, ¬ S i → ∀ o, ops[i]? = some o → ∀ d, o.dst = some d → FlAt P ops (isRd P ops i) o τ h (τ d)
  ancd : ∀ i ∈ done, ∀ j ∈ anc.getD i [], j ∈ done
  dn : ∀ i o, ops[i]? = some o → S i → ∀ e ∈ o.after.toList, Region.binds .any e = true → S e.on
def nf : Pl → Bool
  | .fl _ _ => false
  | _ => true
theorem isRd_fl {i : Nat} {o : Oper} {r : Bool} (ho : ops[i]? = some o) (hf : fl P o.op = some r) : isRd P ops i = r := by simp [isRd, ho, hf]
theorem fl_of_notMu {i : Nat} {o : Oper} (ho : ops[i]? = some o) (h : isMu P ops i = false) : ∃ r, fl P o.op = some r := by
  simp only [isMu, ho] at h
  cases hf : fl P o.op with
  | none => simp [hf] at h
  | some r => exact ⟨r, rfl⟩
theorem adv (hsh : shapeOk P ops anc = true) {S : Nat → Prop} {σ : Rg} {h : Hp} {K : Rg → A} {last : List Nat} : ∀ (p : Pl) (done : List Nat) (τ : Rg), vpl P ops anc p true last done = true → wpl P ops p τ K h → IV P ops anc S done σ τ h →
    ∃ p' done' τ', nf p' = true ∧ vpl P ops anc p' true last done' = true ∧ wpl P ops p' τ' K h ∧ IV P ops anc S done' σ τ' h := by
  intro p
  induction p with
  | nil => intro done τ hv hw hI; exact ⟨_, done, τ, rfl, hv, hw, hI⟩
  | mu i rs p _ => intro done τ hv hw hI; exact ⟨_, done, τ, rfl, hv, hw, hI⟩
  | alt p q _ _ => intro done τ hv hw hI; exact ⟨_, done, τ, rfl, hv, hw, hI⟩
  | fl i p ih =>
    intro done τ hv hw hI
    simp only [vpl, Bool.true_and, Bool.and_eq_true, Bool.not_eq_true'] at hv
    obtain ⟨⟨⟨⟨⟨v1, v2⟩, v3⟩, v4⟩, v5⟩, v6⟩ := hv
    have hi : i < ops.size := Nat.lt_of_lt_of_le (Nat.lt_succ_self _) (Nat.le_of_ble_eq_true v1)
    have hnd : i ∉ done := fun e => by rw [mem_iff.2 e] at v2; cases v2
    have ho : ops[i]? = some ops[i] := Array.getElem?_eq_getElem hi
    generalize ops[i] = o at ho
    have hS := shp hsh ho
    obtain ⟨r, hr⟩ := fl_of_notMu ho v3
    simp only [wpl, ho] at hw
    obtain ⟨v, hfl, hw⟩ := gop_fl hr hw
    obtain ⟨d, hd, hdl⟩ := hS.flo r hr
    have hnS : ¬ S i := fun e => hnd (hI.sub i hi e)
    have hup : ∀ t, t ≠ d → (updO τ o.dst v) t = τ t := by intro t ht; simp [hd, updO, upd, ht]
    have hupd : (updO τ o.dst v) d = v := by simp [hd, updO, upd]
    refine ih (i :: done) _ v6 hw ⟨?_, ?_, ?_, ?_, ?_, ?_, hI.dn⟩
    · intro k hk hSk; exact List.mem_cons_of_mem _ (hI.sub k hk hSk)
    · intro k hk; rcases List.mem_cons.1 hk with rfl | hk
      · exact hi
      · exact hI.lt k hk
    · intro k hk hm; rcases List.mem_cons.1 hk with rfl | hk
      · rw [v3] at hm; cases hm
      · exact hI.mu k hk hm
    · intro t ht
      have h1 : t ≠ d := by
        rintro rfl
        exact ht i (List.mem_cons_self ..) hnS (by simp [dsts, ho, hd])
      rw [hup t h1]
      exact hI.reg t fun k hk hSk => ht k (List.mem_cons_of_mem _ hk) hSk
    · intro k hk hSk ok hok dk hdk
      by_cases hki : k = i
      · subst hki
        rw [ho] at hok; cases hok
        rw [hd] at hdk; cases hdk
        rw [hupd, isRd_fl ho hr]
        exact hfl.agree hS.sel fun t ht => (hup t (by rintro rfl; exact hdl ht)).symm
      · have hkd : k ∈ done := by rcases List.mem_cons.1 hk with e | hk
                                  · exact absurd e hki
                                  · exact hk
        have hSk' := shp hsh hok
        have hoth := hSk'.oth i hi (Ne.symm hki) d (by simp [dsts, ho, hd])
        have hdd : dk ≠ d := by rintro rfl; exact hoth.1 hdk
        rw [hup dk hdd]
        refine (hI.pend k hkd hSk ok hok dk hdk).agree hSk'.sel fun t ht => (hup t ?_).symm
        rintro rfl
        rcases hoth.2 ht with h1 | h1
        · exact hnd (hI.ancd k hkd i h1)
        · rw [v3] at h1; cases h1.1
    · intro k hk j hj
      rcases List.mem_cons.1 hk with rfl | hk
      · exact List.mem_cons_of_mem _ (mem_iff.1 (List.all_eq_true.1 v4 j hj))
      · exact List.mem_cons_of_mem _ (hI.ancd k hk j hj)
/-- a float that is not done stands behind a mutator that is not done. -/
theorem later {i : Nat} (hi : i < ops.size) (him : isMu P ops i = false) : ∀ (p : Pl) (top : Bool) (last done : List Nat), vpl P ops anc p top last done = true → i ∉ done →
    (∃ m, m ∉ done ∧ m ∈ anc.getD i []) ∨ (∀ m ∈ last, m ∈ anc.getD i []) := by
  intro p
  induction p with
  | nil =>
    intro top last done hv hn
    have := List.all_eq_true.1 hv i (List.mem_range.2 hi)
    exact absurd (mem_iff.1 this) hn
  | fl k p ih =>
    intro top last done hv hn
    simp only [vpl, Bool.and_eq_true] at hv
    by_cases hk : k = i
    · subst hk
      exact .inr fun m hm => mem_iff.1 (List.all_eq_true.1 hv.1.2 m hm)
    · rcases ih true last (k :: done) hv.2 (fun e => by rcases List.mem_cons.1 e with e | e; exact hk e.symm; exact hn e) with ⟨m, h1, h2⟩ | h
      · exact .inl ⟨m, fun e => h1 (List.mem_cons_of_mem _ e), h2⟩
      · exact .inr h
  | mu k rs p ih =>
    intro top last done hv hn
    simp only [vpl, Bool.and_eq_true, Bool.not_eq_true'] at hv
    have hki : k ≠ i := by rintro rfl; rw [hv.1.1.1.2] at him; cases him
    rcases ih true [k] (k :: done) hv.2 (fun e => by rcases List.mem_cons.1 e with e | e; exact hki e.symm; exact hn e) with ⟨m, h1, h2⟩ | h
    · exact .inl ⟨m, fun e => h1 (List.mem_cons_of_mem _ e), h2⟩
    · exact .inl ⟨k, (fun e => by have h2 := hv.1.1.1.1.2; rw [mem_iff.2 e] at h2; cases h2), h k (List.mem_singleton.2 rfl)⟩
  | alt p q ih _ =>
    intro top last done hv hn
    simp only [vpl, Bool.and_eq_true] at hv
    exact ih false last done hv.1.2 hn
theorem head_anc {i : Nat} (hi : i < ops.size) (him : isMu P ops i = false) : ∀ (p : Pl) (top : Bool) (last done : List Nat), nf p = true → vpl P ops anc p top last done = true → i ∉ done → ∃ m, m ∉ done ∧ m ∈ anc.getD i [] := by
  intro p
  induction p with
  | nil =>
    intro top last done _ hv hn
    have := List.all_eq_true.1 hv i (List.mem_range.2 hi)
    exact absurd (mem_iff.1 this) hn
  | fl k p _ => intro top last done hnf; simp [nf] at hnf
  | mu k rs p _ =>
    intro top last done _ hv hn
    simp only [vpl, Bool.and_eq_true, Bool.not_eq_true'] at hv
    have hki : k ≠ i := by rintro rfl; rw [hv.1.1.1.2] at him; cases him
    rcases later hi him p true [k] (k :: done) hv.2 (fun e => by rcases List.mem_cons.1 e with e | e; exact hki e.symm; exact hn e) with ⟨m, h1, h2⟩ | h
    · exact ⟨m, fun e => h1 (List.mem_cons_of_mem _ e), h2⟩
    · exact ⟨k, (fun e => by have h2 := hv.1.1.1.1.2; rw [mem_iff.2 e] at h2; cases h2), h k (List.mem_singleton.2 rfl)⟩
  | alt p q ihp _ =>
    intro top last done _ hv hn
    simp only [vpl, Bool.and_eq_true] at hv
    have hnp : nf p = true := by
      cases p <;> first | rfl | (have := hv.1.2; simp [vpl] at this)
    exact ihp false last done hnp hv.1.2 hn
/-- the leaf of a head. -/
theorem leaf {σ : Rg} {h : Hp} {K : Rg → A} {m : Nat} {last : List Nat} : ∀ (p : Pl) (top : Bool) (done : List Nat), vpl P ops anc p top last done = true → wpl P ops p σ K h → m ∈ heads p →
    ∃ rs p', vpl P ops anc (.mu m rs p') false last done = true ∧ wpl P ops (.mu m rs p') σ K h := by
  intro p
  induction p with
  | nil => intro top done _ _ hm; simp [heads] at hm
  | fl i p _ => intro top done _ _ hm; simp [heads] at hm
  | mu i rs p _ =>
    intro top done hv hw hm
    simp only [heads, List.mem_singleton] at hm
    subst hm
    refine ⟨rs, p, ?_, hw⟩
    simp only [vpl, Bool.and_eq_true] at hv ⊢
    exact ⟨⟨⟨⟨⟨⟨by simp, hv.1.1.1.1.1.2⟩, hv.1.1.1.1.2⟩, hv.1.1.1.2⟩, hv.1.1.2⟩, hv.1.2⟩, hv.2⟩
  | alt p q ihp ihq =>
    intro top done hv hw hm
    simp only [vpl, Bool.and_eq_true] at hv
    simp only [heads, List.mem_append] at hm
    rcases hm with hm | hm
    · exact ihp false done hv.1.2 hw.1 hm
    · exact ihq false done hv.2 hw.2 hm
theorem rck_spec {τ : Rg} {h : Hp} {X : A} : ∀ (rs : List Nat), rck P ops τ rs X h → X h ∧ ∀ i ∈ rs, chk P ops τ i h
  | [], H => ⟨H, by simp⟩
  | i :: rs, H => by
    have := rck_spec rs H.2
    refine ⟨this.1, fun k hk => ?_⟩
    rcases List.mem_cons.1 hk with rfl | hk
    · exact H.1
    · exact this.2 k hk
end
end Go.Proofs.YtalknmdbamlabaaGreat.Q
namespace Go.Proofs.YtalknmdbamlabaaGreat.Q
open Go
abbrev Rs := List (Nat × Nat)
/-- in one of the ranges? -/
def inR : Rs → Nat → Bool
  | [], _ => false
  | (lo, hi) :: rs, t => bif (Nat.ble lo t && Nat.ble t hi) then true else inR rs t
def subR1 (lo hi : Nat) : Rs → Bool
  | [] => false
  | (l, u) :: rs => bif (Nat.ble l lo && Nat.ble hi u) then true else subR1 lo hi rs
def subR : Rs → Rs → Bool
  | [], _ => true
  | (lo, hi) :: rs, M => subR1 lo hi M && subR rs M
def mix (M : Rs) (σ0 σ : Rg) : Rg := fun t => bif inR M t then σ0 t else σ t
def okOps (n : Nat) (M : Rs) (ops : Array Oper) : Bool := ops.toList.all fun o => match o.dst with | some d => Nat.blt d n && inR M d | none => true
theorem okOps_dst {n : Nat} {M : Rs} {ops : Array Oper} (h : okOps n M ops = true) {o : Oper} (ho : o ∈ ops.toList) {d : Nat} (hd : o.dst = some d) : d < n ∧ inR M d = true := by
  have h1 := List.all_eq_true.1 h o ho
  simp only [hd, Bool.and_eq_true] at h1
  exact ⟨Nat.lt_of_lt_of_le (Nat.lt_succ_self _) (Nat.le_of_ble_eq_true h1.1), h1.2⟩
theorem subR1_spec {lo hi t : Nat} : ∀ {M : Rs}, subR1 lo hi M = true → lo ≤ t → t ≤ hi → inR M t = true
  | [], h, _, _ => by simp [subR1] at h
  | (l, u) :: rs, h, h1, h2 => by
    simp only [subR1] at h
    simp only [inR]
    cases hc : (Nat.ble l lo && Nat.ble hi u) with
    | true =>
      simp only [Bool.and_eq_true] at hc
      have e1 := Nat.le_of_ble_eq_true hc.1
      have e2 := Nat.le_of_ble_eq_true hc.2
      have : (Nat.ble l t && Nat.ble t u) = true := by
        simp only [Bool.and_eq_true]; exact ⟨Nat.ble_eq_true_of_le (by omega), Nat.ble_eq_true_of_le (by omega)⟩
      rw [this]; rfl
    | false =>
      rw [hc] at h
      have := subR1_spec (M := rs) h h1 h2
      rw [this]; cases (Nat.ble l t && Nat.ble t u) <;> rfl
theorem subR_spec : ∀ {M' M : Rs} {t : Nat}, subR M' M = true → inR M' t = true → inR M t = true
  | [], _, _, _, h => by simp [inR] at h
  | (lo, hi) :: rs, M, t, h, ht => by
    simp only [subR, Bool.and_eq_true] at h
    simp only [inR] at ht
    cases hc : (Nat.ble lo t && Nat.ble t hi) with
    | true =>
      simp only [Bool.and_eq_true] at hc
      exact subR1_spec h.1 (Nat.le_of_ble_eq_true hc.1) (Nat.le_of_ble_eq_true hc.2)
    | false => rw [hc] at ht; exact subR_spec h.2 ht
theorem mix_eq {M : Rs} {σ1 σ : Rg} (h : ∀ t, inR M t = false → σ1 t = σ t) : mix M σ1 σ = σ1 := by
  funext t; unfold mix
  cases hc : inR M t with
  | true => rfl
  | false => exact (h t hc).symm
/-- the marks of the loops over functions that the activation has begun. -/
inductive Mks (lo : Nat) (h : Hp) : List Deferred → Prop
  | nil : Mks lo h []
  | cons {r : Nat} {ds : List Deferred} (h1 : h[r]? = some (.deferred (some []))) (h2 : lo ≤ r) (h3 : ∀ d ∈ ds, ∀ r', d = { target := .collected r', args := #[] } → r' < r) (h4 : Mks lo h ds) : Mks lo h ({ target := .collected r, args := #[] } :: ds)
theorem Mks.keep {lo : Nat} {h h' : Hp} (hk : Keep h h') {ds : List Deferred} (hm : Mks lo h ds) : Mks lo h' ds := by
  induction hm with
  | nil => exact .nil
  | cons h1 h2 h3 _ ih => exact .cons (hk.2 _ _ h1 rfl) h2 h3 ih
theorem Mks.lt {lo : Nat} {h : Hp} {ds : List Deferred} (hm : Mks lo h ds) : ∀ d ∈ ds, ∀ r', d = { target := .collected r', args := #[] } → r' < h.size := by
  induction hm with
  | nil => simp
  | cons h1 _ _ _ ih =>
    intro d hd r' e
    rcases List.mem_cons.1 hd with h | h
    · rw [h] at e; cases e; exact lt_of_get h1
    · exact ih d h r' e
/-- what an act is, at heap h0's end of the walk; nr: there is no loop over a function. -/
structure At (n : Nat) (nr : Bool) (h0 : World) (B : Rg) (M : Rs) (a : Act) (σ : Rg) (w : World) : Prop where
  sim : Sim n a σ
  ds : Mks h0.heap.size w.heap a.defers
  dz : nr = true → a.defers = []
  keep : KW h0 w
  agree : ∀ t, inR M t = false → σ t = B t
theorem At.put {n ds h0 B M a σ} {w w' : World} (hat : At n ds h0 B M a σ w) {dst : Option Nat} {v : Value} (hd : ∀ d, dst = some d → d < n ∧ inR M d = true) (hk : KW w w') : At n ds h0 B M (a.put dst v) (updO σ dst v) w' := by
  refine ⟨hat.sim.put _ _ fun d h => (hd d h).1, ?_, fun h => (put_defers _ _ _).trans (hat.dz h), hat.keep.trans hk, fun t ht => ?_⟩
  · rw [put_defers]; exact hat.ds.keep hk.1
  cases dst with
  | none => exact hat.agree t ht
  | some d =>
    have := (hd d rfl).2
    simp only [updO, upd]
    rw [if_neg (by rintro rfl; rw [this] at ht; cases ht)]
    exact hat.agree t ht
theorem At.up {n ds h0 B M M' a a1 σ σ1} {w w1 : World} (hs : subR M' M = true) (hat : At n ds h0 B M a σ w) (h1 : At n ds h0 σ M' a1 σ1 w1) : At n ds h0 B M a1 σ1 w1 :=
  ⟨h1.sim, h1.ds, h1.dz, h1.keep, fun t ht => by
    have : inR M' t = false := by
      cases hc : inR M' t with
      | false => rfl
      | true => rw [subR_spec hs hc] at ht; cases ht
    rw [h1.agree t this, hat.agree t ht]⟩
theorem At.down {n ds h0 B M M' a σ} {w : World} (hat : At n ds h0 B M a σ w) : At n ds h0 σ M' a σ w := ⟨hat.sim, hat.ds, hat.dz, hat.keep, fun _ _ => rfl⟩
theorem yielded_sim {n : Nat} {a : Act} {σ : Rg} (hs : Sim n a σ) {ops : Array Oper} {j d : Nat} (hd : (ops[j]?).bind (·.dst) = some d) (hlt : d < n) (want : Bool) :
    (yielded ops a.tmps j == some want) = true ↔ σ d = .bool want := by
  have h1 : a.tmps[d]? = some (σ d) := by
    have h2 : d < a.tmps.size := hs.size ▸ hlt
    have h3 := hs.reg d
    simp only [Array.getD, h2, dif_pos] at h3
    rw [Array.getElem?_eq_getElem h2]; exact congrArg some h3
  unfold yielded
  rw [hd]
  simp only [Option.bind_some, h1]
  cases σ d <;> simp
end Go.Proofs.YtalknmdbamlabaaGreat.Q
namespace Go.Proofs.YtalknmdbamlabaaGreat.Q
open Go
section
variable {P : Program} {ops : Array Oper} {anc : List (List Nat)}
def cnt (n : Nat) (listed : Array Bool) : Nat := (List.range n).countP fun i => !(listed.getD i true)
theorem getD_set (l : Array Bool) (i j : Nat) (d : Bool) (hi : i < l.size) : (l.setIfInBounds i true).getD j d = if j = i then true else l.getD j d := by
  simp only [Array.getD_eq_getD_getElem?]
  by_cases h : j = i
  · subst h; simp [hi]
  · rw [if_neg h, Array.getElem?_setIfInBounds_ne (Ne.symm h)]
theorem cnt_set {n : Nat} {l : Array Bool} {i : Nat} (hi : i < n) (hs : l.size = n) (hf : l.getD i true = false) : cnt n (l.setIfInBounds i true) < cnt n l := by
  unfold cnt
  have key : ∀ (L : List Nat), L.Nodup → i ∈ L → (L.countP fun j => !((l.setIfInBounds i true).getD j true)) + 1 = L.countP fun j => !(l.getD j true) := by
    intro L
    induction L with
    | nil => intro _ h; simp at h
    | cons x L ih =>
      intro hnd hm
      have hnd' := List.nodup_cons.1 hnd
      simp only [List.countP_cons]
      by_cases hx : x = i
      · subst hx
        have e1 : ∀ j ∈ L, (!((l.setIfInBounds x true).getD j true)) = !(l.getD j true) := by
          intro j hj
          rw [getD_set l x j true (by omega), if_neg (by rintro rfl; exact hnd'.1 hj)]
        rw [List.countP_congr (fun j hj => by rw [e1 j hj])]
        rw [getD_set l x x true (by omega), hf]; simp
      · have hmL : i ∈ L := by rcases List.mem_cons.1 hm with e | e
                               · exact absurd e.symm hx
                               · exact e
        have := ih hnd'.2 hmL
        rw [getD_set l i x true (by omega), if_neg hx]
        omega
  have := key (List.range n) List.nodup_range (List.mem_range.2 hi)
  omega
theorem ready_iff {l : Array Bool} {i : Nat} {o : Oper} (ho : ops[i]? = some o) : i ∈ Region.ready .any ops l ↔ l.getD i true = false ∧ ∀ e ∈ o.after.toList, Region.binds .any e = true → l.getD e.on false = true := by
  unfold Region.ready
  rw [List.mem_filter]
  simp only [ho, Option.map_some, Option.getD_some, Bool.and_eq_true, Bool.not_eq_true', List.mem_range, Array.all_eq_true_iff_forall_mem, Bool.or_eq_true, Bool.not_eq_true']
  have hi : i < ops.size := (Array.getElem?_eq_some_iff.1 ho).1
  constructor
  · rintro ⟨_, h1, h2⟩
    refine ⟨h1, fun e he hb => ?_⟩
    rcases h2 e (by simpa using he) with h | h
    · rw [hb] at h; cases h
    · exact h
  · rintro ⟨h1, h2⟩
    refine ⟨hi, h1, fun e he => ?_⟩
    cases hb : Region.binds .any e with
    | false => exact .inl rfl
    | true => exact .inr (h2 e (by simpa using he) hb)
theorem all_of_notReady (hsh : shapeOk P ops anc = true) {l : Array Bool} (hs : l.size = ops.size) (h : Region.ready .any ops l = []) : ∀ i, i < ops.size → l.getD i true = true := by
  intro i
  induction i using Nat.strongRecOn with
  | _ i ih =>
    intro hi
    cases hl : l.getD i true with
    | true => rfl
    | false =>
      have ho : ops[i]? = some ops[i] := Array.getElem?_eq_getElem hi
      have : i ∈ Region.ready .any ops l := (ready_iff ho).2 ⟨hl, fun e he hb => by
        have hlt := ((shp hsh ho).edge e he hb).1
        have h1 := ih e.on hlt (by omega)
        have h2 : e.on < l.size := by omega
        simp only [Array.getD, h2, dif_pos] at h1 ⊢
        exact h1⟩
      rw [h] at this; cases this
theorem cnt_zero {l : Array Bool} {n : Nat} (h : cnt n l = 0) : ∀ i, i < n → l.getD i true = true := by
  intro i hi
  have := List.countP_eq_zero.1 h i (List.mem_range.2 hi)
  simpa using this
theorem wanted_wn {n : Nat} {a : Act} {σ : Rg} (hs : Sim n a σ) {o : Oper} (hgd : ∀ j want, o.guard = some (j, want) → ∃ d, (ops[j]?).bind (·.dst) = some d ∧ d < n) :
    Region.wanted o (yielded ops a.tmps) = true ↔ wn ops σ o := by
  unfold Region.wanted wn
  cases hg : o.guard with
  | none => simp
  | some g =>
    obtain ⟨j, want⟩ := g
    obtain ⟨d, h1, h2⟩ := hgd j want hg
    simp only
    rw [yielded_sim hs h1 h2 want]
    constructor
    · intro h; exact ⟨d, h1, h⟩
    · rintro ⟨d', h3, h4⟩; rw [h1] at h3; cases h3; exact h4
theorem fin_nil {S : Nat → Prop} {done last : List Nat} {τ : Rg} {h : Hp} {K : Rg → A} (hall : ∀ i, i < ops.size → i ∈ done) : ∀ (p : Pl) (top : Bool), (top = true → nf p = true) → vpl P ops anc p top last done = true → wpl P ops p τ K h → K τ h := by
  intro p
  induction p with
  | nil => intro top _ _ hw; exact hw
  | fl i p _ =>
    intro top hn hv _
    simp only [vpl, Bool.and_eq_true] at hv
    have := hn hv.1.1.1.1.1.1
    simp [nf] at this
  | mu i rs p _ =>
    intro top _ hv _
    simp only [vpl, Bool.and_eq_true, Bool.not_eq_true'] at hv
    have hi : i < ops.size := Nat.lt_of_lt_of_le (Nat.lt_succ_self _) (Nat.le_of_ble_eq_true hv.1.1.1.1.1.2)
    have h2 := hv.1.1.1.1.2
    rw [mem_iff.2 (hall i hi)] at h2; cases h2
  | alt p q ihp _ =>
    intro top _ hv hw
    simp only [vpl, Bool.and_eq_true] at hv
    exact ihp false (by simp) hv.1.2 hw.1
theorem IV.all {S : Nat → Prop} {done : List Nat} {σ τ : Rg} {h : Hp} (hI : IV P ops anc S done σ τ h) (hall : ∀ i, i < ops.size → S i) : σ = τ := by
  funext t; exact hI.reg t fun i hi hn => absurd (hall i (hI.lt i hi)) hn
theorem draw_sound (hsh : shapeOk P ops anc = true) {ro : Option Nat} {n m : Nat} {ds : Bool} {h0 : World} {B : Rg} {M : Rs} (hok : okOps n M ops = true) {K : Rg → A} {Q : Exit → Act → World → Prop}
    (hK : ∀ a σ w, At n ds h0 B M a σ w → K σ w.heap → Q .normal a w) :
    ∀ (fuel : Nat) (listed : Array Bool) (p : Pl) (last done : List Nat) (a : Act) (σ τ : Rg) (w : World), listed.size = ops.size → cnt ops.size listed ≤ fuel → nf p = true → vpl P ops anc p true last done = true →
      At n ds h0 B M a σ w → wpl P ops p τ K w.heap → IV P ops anc (fun i => listed.getD i true = true) done σ τ w.heap → wpAnyIn (Fr ro) m P .any ops Q fuel listed a w := by
  have hfin : ∀ (listed : Array Bool) (p : Pl) (last done : List Nat) (a : Act) (σ τ : Rg) (w : World), (∀ i, i < ops.size → listed.getD i true = true) → nf p = true → vpl P ops anc p true last done = true →
      At n ds h0 B M a σ w → wpl P ops p τ K w.heap → IV P ops anc (fun i => listed.getD i true = true) done σ τ w.heap → Q .normal a w := by
    intro listed p last done a σ τ w hall hnf hv hat hw hI
    have h1 := fin_nil (S := fun i => listed.getD i true = true) (fun i hi => hI.sub i hi (hall i hi)) p true (fun _ => hnf) hv hw
    have h2 := hI.all hall
    subst h2
    exact hK a σ w hat h1
  intro fuel
  induction fuel with
  | zero =>
    intro listed p last done a σ τ w hls hc hnf hv hat hw hI
    have hall := cnt_zero (Nat.le_zero.1 hc)
    refine ⟨?_, hfin listed p last done a σ τ w hall hnf hv hat hw hI⟩
    unfold Region.ready
    rw [List.filter_eq_nil_iff]
    intro i hi
    rw [hall i (List.mem_range.1 hi)]; simp
  | succ fuel ih =>
    intro listed p last done a σ τ w hls hc hnf hv hat hw hI
    refine ⟨fun h => hfin listed p last done a σ τ w (all_of_notReady hsh hls h) hnf hv hat hw hI, ?_⟩
    intro i hi
    have hiN : i < ops.size := by
      unfold Region.ready at hi; exact List.mem_range.1 (List.mem_filter.1 hi).1
    have ho : ops[i]? = some ops[i] := Array.getElem?_eq_getElem hiN
    generalize ops[i] = o at ho
    obtain ⟨hnl, hpre⟩ := (ready_iff ho).1 hi
    have hsp := shp hsh ho
    have hmem : o ∈ ops.toList := by rw [Array.mem_toList_iff]; exact Array.mem_of_getElem? ho
    have hgd : ∀ j want, o.guard = some (j, want) → ∃ d, (ops[j]?).bind (·.dst) = some d ∧ d < n := by
      intro j want hg
      obtain ⟨d, hd⟩ := hsp.gd j want hg
      refine ⟨d, hd, ?_⟩
      cases hj : ops[j]? with
      | none => simp [hj] at hd
      | some oj => simp only [hj, Option.bind_some] at hd; exact (okOps_dst hok (by rw [Array.mem_toList_iff]; exact Array.mem_of_getElem? hj) hd).1
    have hpreS : ∀ e ∈ o.after.toList, Region.binds .any e = true → listed.getD e.on true = true := by
      intro e he hb
      have h1 := hpre e he hb
      have hlt : e.on < listed.size := by have := (hsp.edge e he hb).1; omega
      simp only [Array.getD, hlt, dif_pos] at h1 ⊢; exact h1
    have hancS : ∀ j ∈ anc.getD i [], listed.getD j true = true := anc_in hsh hI.dn i o ho hpreS
    have hdone' : ∀ j, listed.getD j true = true → j < ops.size → j ∈ done := fun j hj hlt => hI.sub j hlt hj
    have hls' : (listed.setIfInBounds i true).size = ops.size := by simp [hls]
    have hc' : cnt ops.size (listed.setIfInBounds i true) ≤ fuel := by have := cnt_set hiN hls hnl; omega
    have hset : ∀ j, (listed.setIfInBounds i true).getD j true = true ↔ j = i ∨ listed.getD j true = true := by
      intro j; rw [getD_set listed i j true (by omega)]; by_cases h : j = i <;> simp [h]
    have hlook : ∀ t ∈ o.looksAt ops, (o.dst = some t → isMu P ops i = true) → σ t = τ t := by
      intro t ht hdm
      refine hI.reg t fun k hk hnS hdk => ?_
      by_cases hki : k = i
      · subst hki
        have hdt : o.dst = some t := by simpa [dsts, ho] using hdk
        exact hnS (hI.mu k hk (hdm hdt))
      · rcases (hsp.oth k (hI.lt k hk) hki t hdk).2 ht with h | h
        · exact hnS (hancS k h)
        · exact hnS (hI.mu k hk h.1)
    have hdn' : ∀ j oj, ops[j]? = some oj → (listed.setIfInBounds i true).getD j true = true → ∀ e ∈ oj.after.toList, Region.binds .any e = true → (listed.setIfInBounds i true).getD e.on true = true := by
      intro j oj hoj hj e he hb
      rw [hset] at hj ⊢
      rcases hj with rfl | hj
      · rw [ho] at hoj; cases hoj; exact .inr (hpreS e he hb)
      · exact .inr (hI.dn j oj hoj hj e he hb)
    cases him : isMu P ops i with
    | false =>
      obtain ⟨r, hr⟩ := fl_of_notMu ho him
      obtain ⟨d, hd, hdl⟩ := hsp.flo r hr
      have hin : i ∈ done := by
        apply Classical.byContradiction
        intro hn
        obtain ⟨k, h2, h4⟩ := head_anc hiN him p true last done hnf hv hn
        have hkS := hancS k h4
        have hkN : k < ops.size := by
          obtain ⟨e, he, hb, h | h⟩ := hsp.an k h4
          · have := (hsp.edge e he hb).1; omega
          · apply Classical.byContradiction; intro hge
            have hlt := (hsp.edge e he hb).1
            have hoe : ops[e.on]? = some ops[e.on] := Array.getElem?_eq_getElem (by omega)
            have key : ∀ (q : Nat) (oq : Oper), ops[q]? = some oq → ∀ j ∈ anc.getD q [], j < q := by
              intro q
              induction q using Nat.strongRecOn with
              | _ q ihq =>
                intro oq hoq j hj
                obtain ⟨e', he', hb', h' | h'⟩ := (shp hsh hoq).an j hj
                · have := ((shp hsh hoq).edge e' he' hb').1; omega
                · have hl := ((shp hsh hoq).edge e' he' hb').1
                  have hq : q < ops.size := (Array.getElem?_eq_some_iff.1 hoq).1
                  have := ihq e'.on hl _ (Array.getElem?_eq_getElem (show e'.on < ops.size by omega)) j h'
                  omega
            have := key e.on _ hoe k h
            omega
        exact h2 (hdone' k hkS hkN)
      have hp := hI.pend i hin (by rw [hnl]; simp) o ho d hd
      have hag : ∀ t ∈ o.looksAt ops, τ t = σ t := fun t ht => (hlook t ht (fun e => by rw [hd] at e; cases e; exact absurd ht hdl)).symm
      have hp' := hp.agree hsp.sel hag
      have hnext : wpAnyIn (Fr ro) m P .any ops Q fuel (listed.setIfInBounds i true) (a.put o.dst (τ d)) w := by
        refine ih _ p last done _ (updO σ o.dst (τ d)) τ w hls' hc' hnf hv (hat.put (fun d hd => okOps_dst hok hmem hd) (KW.refl _)) hw ⟨?_, hI.lt, ?_, ?_, ?_, hI.ancd, hdn'⟩
        · intro j hj hS
          rcases (hset j).1 hS with rfl | h
          · exact hin
          · exact hI.sub j hj h
        · intro j hj hm; exact (hset j).2 (.inr (hI.mu j hj hm))
        · intro t ht
          by_cases htd : t = d
          · subst htd; simp [hd, updO, upd]
          · have : (updO σ o.dst (τ d)) t = σ t := by simp [hd, updO, upd, htd]
            rw [this]
            refine hI.reg t fun k hk hnS hdk => ?_
            by_cases hki : k = i
            · subst hki; rw [dsts, ho] at hdk; simp only [hd, Option.some.injEq] at hdk; exact htd hdk.symm
            · exact ht k hk (fun h => by rcases (hset k).1 h with h | h; exact hki h; exact hnS h) hdk
        · intro k hk hnS ok hok' dk hdk
          exact hI.pend k hk (fun h => hnS ((hset k).2 (.inr h))) ok hok' dk hdk
      unfold wpOpIn
      simp only [ho]
      rcases hp' with ⟨h1, h2⟩ | ⟨h1, h2⟩
      · rw [if_pos ((wanted_wn hat.sim hgd).2 h1)]
        refine ⟨fun _ _ => trivial, ?_⟩
        rw [semAt_op (notSel_sel hsp.sel).2, hat.sim.eval, h2 w (fun _ => rfl)]
        exact hnext
      · rw [if_neg (fun e => h1 ((wanted_wn hat.sim hgd).1 e))]
        rw [h2] at hnext
        exact ⟨fun _ _ => trivial, hnext⟩
    | true =>
      have hnd : i ∉ done := fun e => by have := hI.mu i e him; rw [hnl] at this; cases this
      have hhd : i ∈ heads p := by
        have hcov : cov P ops anc done p = true := by
          cases p with
          | nil =>
            have := List.all_eq_true.1 hv i (List.mem_range.2 hiN)
            exact absurd (mem_iff.1 this) hnd
          | fl _ _ => simp [nf] at hnf
          | mu _ _ _ => simp only [vpl, Bool.and_eq_true, Bool.not_true, Bool.false_or] at hv; exact hv.1.1.1.1.1.1
          | alt _ _ => simp only [vpl, Bool.and_eq_true, Bool.not_true, Bool.false_or] at hv; exact hv.1.1
        have := List.all_eq_true.1 hcov i (List.mem_range.2 hiN)
        simp only [him, Bool.not_true, Bool.false_or, Bool.or_eq_true] at this
        rcases this with (h | h) | h
        · exact absurd (mem_iff.1 h) hnd
        · exact mem_iff.1 h
        · obtain ⟨k, hk, h2⟩ := List.any_eq_true.1 h
          simp only [Bool.and_eq_true, Bool.not_eq_true'] at h2
          have hkN : k < ops.size := by
            apply Classical.byContradiction; intro hge
            have : isMu P ops k = false := by simp only [isMu]; rw [Array.getElem?_eq_none (by omega)]
            rw [this] at h2; cases h2.1
          have := hdone' k (hancS k hk) hkN
          rw [mem_iff.2 this] at h2; cases h2.2
      obtain ⟨rs, p', hv', hw'⟩ := leaf p true done hv hw hhd
      simp only [vpl, Bool.and_eq_true] at hv'
      obtain ⟨⟨⟨⟨⟨_, _⟩, _⟩, v4⟩, v5⟩, v6⟩ := hv'
      simp only [wpl, ho] at hw'
      have hag : ∀ t ∈ o.looksAt ops, σ t = τ t := fun t ht => hlook t ht (fun _ => him)
      have hnext : ∀ v w', rck P ops (updO τ o.dst v) rs (wpl P ops p' (updO τ o.dst v) K) w'.heap → KW w w' → wpAnyIn (Fr ro) m P .any ops Q fuel (listed.setIfInBounds i true) (a.put o.dst v) w' := by
        intro v w' h1 hk
        obtain ⟨h2, h3⟩ := rck_spec rs h1
        have hupd : ∀ t, o.dst ≠ some t → (updO τ o.dst v) t = τ t := by
          intro t ht
          cases hdo : o.dst with
          | none => rfl
          | some d => simp only [updO, upd]; rw [if_neg (by rintro rfl; exact ht hdo)]
        have hIV : IV P ops anc (fun j => (listed.setIfInBounds i true).getD j true = true) (i :: done) (updO σ o.dst v) (updO τ o.dst v) w'.heap := by
          refine ⟨?_, ?_, ?_, ?_, ?_, ?_, hdn'⟩
          · intro j hj hS
            rcases (hset j).1 hS with rfl | h
            · exact List.mem_cons_self ..
            · exact List.mem_cons_of_mem _ (hI.sub j hj h)
          · intro j hj; rcases List.mem_cons.1 hj with rfl | hj
            · exact hiN
            · exact hI.lt j hj
          · intro j hj hm; rcases List.mem_cons.1 hj with rfl | hj
            · exact (hset _).2 (.inl rfl)
            · exact (hset j).2 (.inr (hI.mu j hj hm))
          · intro t ht
            by_cases htd : o.dst = some t
            · simp [htd, updO, upd]
            · have e1 : (updO σ o.dst v) t = σ t := by
                cases hdo : o.dst with
                | none => rfl
                | some d => simp only [updO, upd]; rw [if_neg (by rintro rfl; exact htd hdo)]
              rw [e1, hupd t htd]
              refine hI.reg t fun k hk hnS hdk => ?_
              have hki : k ≠ i := by rintro rfl; exact hnd hk
              exact ht k (List.mem_cons_of_mem _ hk) (fun h => by rcases (hset k).1 h with h | h; exact hki h; exact hnS h) hdk
          · intro k hk hnS ok hok' dk hdk
            have hki : k ≠ i := by rintro rfl; exact hnS ((hset _).2 (.inl rfl))
            have hkd : k ∈ done := by rcases List.mem_cons.1 hk with e | hk
                                      · exact absurd e hki
                                      · exact hk
            have hnS' : ¬ (listed.getD k true = true) := fun h => hnS ((hset k).2 (.inr h))
            have hka : k ∉ anc.getD i [] := fun h => hnS' (hancS k h)
            have hkm : isMu P ops k = false := by
              cases h : isMu P ops k with
              | false => rfl
              | true => exact absurd (hI.mu k hkd h) hnS'
            have hspk := shp hsh hok'
            obtain ⟨rk, hrk⟩ := fl_of_notMu hok' hkm
            cases hrd : isRd P ops k with
            | true =>
              have := List.all_eq_true.1 v5 k hkd
              simp only [hkm, hrd, Bool.not_true, Bool.false_or, Bool.or_eq_true] at this
              have hkr : k ∈ rs := by
                rcases this with h | h
                · exact absurd (mem_iff.1 h) hka
                · exact mem_iff.1 h
              have hch := h3 k hkr
              simp only [chk, hok', hdk] at hch
              obtain ⟨u, h4, h5⟩ := gop_fl hrk hch
              have : rk = true := by rw [isRd_fl hok' hrk] at hrd; exact hrd
              subst this
              rw [h5] at h4; exact h4
            | false =>
              have h6 := hI.pend k hkd hnS' ok hok' dk hdk
              have h7 : ∀ t ∈ ok.looksAt ops, τ t = (updO τ o.dst v) t := by
                intro t ht
                refine (hupd t ?_).symm
                intro hdt
                rcases (hspk.oth i hiN (Ne.symm hki) t (by simp [dsts, ho, hdt])).2 ht with h | h
                · exact hnd (hI.ancd k hkd i h)
                · exact hka h.2
              have h8 : (updO τ o.dst v) dk = τ dk := by
                refine hupd dk ?_
                intro hdt
                exact (hspk.oth i hiN (Ne.symm hki) dk (by simp [dsts, ho, hdt])).1 hdk
              rw [h8]
              have h9 := h6.agree hspk.sel h7
              rw [hrd] at h9
              rcases h9 with ⟨g1, g2⟩ | ⟨g1, g2⟩
              · exact .inl ⟨g1, fun w _ => g2 w (by simp)⟩
              · exact .inr ⟨g1, g2⟩
          · intro j hj k hk
            rcases List.mem_cons.1 hj with rfl | hj
            · exact List.mem_cons_of_mem _ (mem_iff.1 (List.all_eq_true.1 v4 k hk))
            · exact List.mem_cons_of_mem _ (hI.ancd j hj k hk)
        obtain ⟨p2, done2, τ2, n1, n2, n3, n4⟩ := adv hsh p' (i :: done) _ v6 h2 hIV
        exact ih _ p2 [i] done2 _ _ τ2 w' hls' hc' n1 n2 (hat.put (fun d hd => okOps_dst hok hmem hd) hk) n3 n4
      have hcg : execOp a.eval o = execOp (ev τ) o := by rw [hat.sim.eval]; exact exec_agree hsp.sel hag
      unfold wpOpIn
      simp only [ho]
      unfold gop at hw'
      by_cases hwt : Region.wanted o (yielded ops a.tmps) = true
      · rw [if_pos hwt]
        have hwn := (wn_agree hag).1 ((wanted_wn hat.sim hgd).1 hwt)
        cases hg : o.guard with
        | none =>
          simp only [hg] at hw'
          exact opW_sound (fun _ => rfl) hcg hw' hnext
        | some g =>
          obtain ⟨j, want⟩ := g
          simp only [hg] at hw'
          obtain ⟨d, hd⟩ := hsp.gd j want hg
          simp only [hd] at hw'
          unfold wn at hwn; simp only [hg] at hwn
          obtain ⟨d', h1, h2⟩ := hwn
          rw [hd] at h1; cases h1
          exact opW_sound (fun _ => rfl) hcg (hw'.1 h2) hnext
      · rw [if_neg hwt]
        cases hg : o.guard with
        | none => simp [Region.wanted, hg] at hwt
        | some g =>
          obtain ⟨j, want⟩ := g
          simp only [hg] at hw'
          obtain ⟨d, hd⟩ := hsp.gd j want hg
          simp only [hd] at hw'
          refine ⟨fun _ _ => trivial, hnext _ _ (hw'.2 fun e => hwt ?_) (KW.refl _)⟩
          refine (wanted_wn hat.sim hgd).2 ((wn_agree hag).2 ?_)
          unfold wn; simp only [hg]; exact ⟨d, hd, e⟩
end
end Go.Proofs.YtalknmdbamlabaaGreat.Q

/-! the walk: code as an assertion -/
namespace Go.Proofs.YtalknmdbamlabaaGreat.Q
open Go
/-- curried assertions over n values. -/
@[reducible] def Cur : Nat → Type
  | 0 => A
  | n + 1 => Value → Cur n
def Le : (n : Nat) → Cur n → Cur n → Prop
  | 0, p, q => ∀ h : Hp, p h → q h
  | n + 1, p, q => ∀ v : Value, Le n (p v) (q v)
def allS : (n : Nat) → (Rg → Cur n) → Cur n
  | 0, r => fun h => ∀ σ0, r σ0 h
  | n + 1, r => fun v => allS n (fun σ0 => r σ0 v)
def exlt : (n : Nat) → (Nat → Cur n) → Nat → Cur n
  | 0, I, m => fun h => ∃ m', m' < m ∧ I m' h
  | n + 1, I, m => fun v => exlt n (fun m' => I m' v) m
def app : (n : Nat) → Cur n → List Value → A
  | 0, f, _ => f
  | n + 1, f, vs => app n (f (vs.headD undef)) vs.tail
def appL : (L : List Nat) → Cur L.length → Rg → A
  | [], f, _ => f
  | r :: rs, f, σ => appL rs (f (σ r)) σ
def curL : (L : List Nat) → (Rg → A) → Rg → Cur L.length
  | [], g, σ0 => g σ0
  | r :: rs, g, σ0 => fun v => curL rs g (upd σ0 r v)
/-- ways meet again. -/
def jn (n : Nat) (body : Cur n → A) (rest : Rg → Cur n) : A := fun h => ∀ k : Cur n, Le n (allS n rest) k → body k h
/-- a loop. -/
def lp (n : Nat) (body : Rg → Cur n → Cur n) (vs : List Value) : A := fun h =>
  ∃ I : Nat → Cur n, (∃ m0, app n (I m0) vs h) ∧ ∀ m σ0, Le n (I m) (body σ0 (exlt n I m))

def over : List Nat → Rg → Rg → Rg
  | [], _, σ0 => σ0
  | r :: rs, σ, σ0 => over rs σ (upd σ0 r (σ r))
theorem upd_self (σ : Rg) (r : Nat) : upd σ r (σ r) = σ := by funext t; simp only [upd]; split <;> simp_all
theorem over_self : ∀ (L : List Nat) (σ : Rg), over L σ σ = σ
  | [], _ => rfl
  | r :: rs, σ => by simp only [over, upd_self]; exact over_self rs σ
theorem appL_curL : ∀ (L : List Nat) (g : Rg → A) (σ σ0 : Rg), appL L (curL L g σ0) σ = g (over L σ σ0)
  | [], _, _, _ => rfl
  | r :: rs, g, σ, σ0 => by simp only [appL, curL, over]; exact appL_curL rs g σ _
theorem appL_allS : ∀ (L : List Nat) (r : Rg → Cur L.length) (σ : Rg) (h : Hp), appL L (allS L.length r) σ h → ∀ σ0, appL L (r σ0) σ h
  | [], _, _, _, H => H
  | _ :: rs, r, σ, h, H => fun σ0 => appL_allS rs (fun σ0 => r σ0 _) σ h H σ0
theorem Le_refl : ∀ (n : Nat) (p : Cur n), Le n p p
  | 0, _ => fun _ h => h
  | n + 1, p => fun v => Le_refl n (p v)
theorem appL_Le : ∀ (L : List Nat) (p q : Cur L.length) (σ : Rg) (h : Hp), Le L.length p q → appL L p σ h → appL L q σ h
  | [], _, _, _, h, H, hp => H h hp
  | _ :: rs, p, q, σ, h, H, hp => appL_Le rs _ _ σ h (H _) hp
theorem appL_exlt : ∀ (L : List Nat) (I : Nat → Cur L.length) (m : Nat) (σ : Rg) (h : Hp), appL L (exlt L.length I m) σ h → ∃ m', m' < m ∧ appL L (I m') σ h
  | [], _, _, _, _, H => H
  | _ :: rs, I, m, σ, h, H => appL_exlt rs (fun m' => I m' _) m σ h H
theorem app_appL : ∀ (L : List Nat) (f : Cur L.length) (σ : Rg), app L.length f (L.map σ) = appL L f σ
  | [], _, _ => rfl
  | r :: rs, f, σ => by simp only [app, appL, List.length, List.map, List.headD, List.tail]; exact app_appL rs _ σ

structure Ann where
  loops : List (Nat × List Nat × Rs) := []
  seqs : List (Nat × List Nat × Rs) := []
  blks : List (Nat × List Nat × Rs) := []
  plans : List (Nat × Pl × List (List Nat)) := []
def lookP : List (Nat × Pl × List (List Nat)) → Nat → Option (Pl × List (List Nat))
  | [], _ => none
  | (k, L) :: rest, i => bif Nat.beq k i then some L else lookP rest i
def look : List (Nat × List Nat × Rs) → Nat → Option (List Nat × Rs)
  | [], _ => none
  | (k, L) :: rest, i => bif Nat.beq k i then some L else look rest i
def firstReg : Code → Nat
  | .region id _ _ => id
  | .seq a _ => firstReg a
  | .cond _ a _ => firstReg a
  | .block _ b => firstReg b
  | .loop b => firstReg b
  | .rangeFunc _ _ a _ => firstReg a
  | _ => 0
def lead : Code → Nat
  | .seq a _ => lead a
  | .cond _ a _ => lead a
  | .block _ b => lead b
  | .loop b => lead b + 1
  | _ => 0
def keyS (a b : Code) : Nat := match firstReg b with | 0 => 100000 + firstReg a | k + 1 => k + 1
def keyL (c : Code) : Nat := firstReg c + 100000 * lead c
def thenQ (K : Rg → A) (Q : Exit → Rg → A) : Exit → Rg → A
  | .normal => K
  | e => Q e
def blkQ (id : Nat) (Q : Exit → Rg → A) : Exit → Rg → A
  | .exit id' => bif Nat.beq id' id then Q .normal else Q (.exit id')
  | e => Q e
def wl (P : Program) (ops : Array Oper) : List Oper → Rg → (Rg → A) → A
  | [], σ, K => K σ
  | o :: rest, σ, K =>
    match o.guard with
    | none => opW P (ev σ) o (fun v => wl P ops rest (updO σ o.dst v) K)
    | some (j, want) =>
      match (ops[j]?).bind (·.dst) with
      | some d => gd (σ d) want (opW P (ev σ) o) (fun v => wl P ops rest (updO σ o.dst v) K)
      | none => fun _ => False
/-- the controlling objects stay. -/
def Kc (h h' : Hp) : Prop := ∀ (b : Nat) (o : Obj), h[b]? = some o → ctl o = true → h'[b]? = some o
/-- what a range over a function asks: the function's value; a round: its ways out, yield's arguments. -/
def rfW (P : Program) (fv : Value) (round : Nat → (Exit → A) → List Value → A) (Qn Qr : A) (Qx : List (Nat × A)) : A := fun h =>
  ∃ (I : List (List Value) → A) (D : List (List Value) → List Value → Prop) (X : Exit → A) (E : List (List Value) → Prop),
    (∀ pre h1 h', I pre h1 → Cx h.size h1 h' → I pre h') ∧ (∀ e h1 h', X e h1 → Cx h.size h1 h' → X e h') ∧ (∀ e h1, X e h1 → e = .ret ∨ ∃ p ∈ Qx, e = .exit p.1) ∧ I [] h ∧
    (∃ g first cap, fv = .func (.func g) first cap) ∧
    (∀ (y : Value) (J : List (List Value) → A) (Y : A) (h1 : Hp), Lx h.size h h1 → (∀ pre h', J pre h' → I pre h') → (∀ pre h2 h', J pre h2 → Sx h.size h2 h' → J pre h') → (∀ h2 h', Y h2 → Sx h.size h2 h' → Y h') → J [] h1 →
      (∀ pre x h', J pre h' → D pre x → CV P y x (fun b h'' => ((b = .bool true ∧ J (pre ++ [x]) h'') ∨ (b = .bool false ∧ Y h'')) ∧ Sk h.size h' h'') h') →
      CV P fv [y] (fun _ h2 => (∃ xs, E xs ∧ J xs h2) ∨ Y h2) h1) ∧
    (∀ pre x h', I pre h' → D pre x → round h.size (fun e => match e with | .normal => fun h'' => I (pre ++ [x]) h'' ∧ Sk h.size h' h'' | e => fun h'' => X e h'' ∧ Sk h.size h' h'') x h') ∧
    (∀ xs h2, E xs → I xs h2 → Qn h2) ∧ (∀ h2, X .ret h2 → Qr h2) ∧ (∀ p ∈ Qx, ∀ h2, X (.exit p.1) h2 → p.2 h2)
/-- the blocks that are left. -/
def frX : Code → List Nat
  | .exit id => [id]
  | .seq a b => frX a ++ frX b
  | .cond _ a b => frX a ++ frX b
  | .block id b => (frX b).filter fun i => !(Nat.beq i id)
  | .loop b => frX b
  | _ => []
def setPs : List Nat → List Value → Rg → Rg
  | p :: ps, vs, σ => setPs ps vs.tail (upd σ p (vs.headD undef))
  | [], _, σ => σ
def W (P : Program) (an : Ann) : Code → (Exit → Rg → A) → Rg → A
  | .skip, Q, σ => Q .normal σ
  | .region id ops dr, Q, σ => bif dr then (match lookP an.plans id with | some (p, _) => wpl P ops p σ (Q .normal) | none => no) else wl P ops ops.toList σ (Q .normal)
  | .seq a b, Q, σ =>
    match look an.seqs (keyS a b) with
    | none => W P an a (thenQ (W P an b Q) Q) σ
    | some (L, M) => jn L.length (fun k => W P an a (thenQ (appL L k) Q) σ) (fun σ0 => curL L (W P an b Q) (mix M σ0 σ))
  | .cond c x y, Q, σ => cn (ev σ c) (W P an x Q σ) (W P an y Q σ)
  | .block id c, Q, σ =>
    match look an.blks id with
    | none => W P an c (blkQ id Q) σ
    | some (L, M) => jn L.length (fun k => W P an c (blkQ id (thenQ (appL L k) Q)) σ) (fun σ0 => curL L (Q .normal) (mix M σ0 σ))
  | .loop c, Q, σ =>
    match look an.loops (keyL c) with
    | none => fun _ => False
    | some (L, M) => lp L.length (fun σ0 next => curL L (W P an c (thenQ (appL L next) Q)) (mix M σ0 σ)) (L.map σ)
  | .exit id, Q, σ => Q (.exit id) σ
  | .ret, Q, σ => Q .ret σ
  | .rangeFunc f ps as body, Q, σ => rfW P (ev σ f) (fun n Qr x => fun h => x.length = ps.toList.length ∧ W P an as (thenQ (fun σ' h1 => Kc h h1 ∧ cx n (W P an body (fun e _ => Qr e) σ') h1) (fun _ _ _ => False)) (setPs ps.toList x σ) h) (Q .normal σ) (Q .ret σ) ((frX body).map fun id => (id, Q (.exit id) σ))
  | _, _, _ => fun _ => False

def noR : Code → Bool
  | .seq a b => noR a && noR b
  | .cond _ a b => noR a && noR b
  | .block _ b => noR b
  | .loop b => noR b
  | .rangeFunc .. => false
  | _ => true
def psOk (n : Nat) (ps : Array Nat) : Bool := ps.toList.all fun d => Nat.blt d n
def okC (P : Program) (n : Nat) (an : Ann) : Code → Bool → Rs → Bool
  | .region id ops dr, _, M => okOps n M ops && (!dr || (match lookP an.plans id with | some (p, anc) => shapeOk P ops anc && vpl P ops anc p true [] [] | none => false))
  | .seq a b, nr, M => (match look an.seqs (keyS a b) with | none => okC P n an a nr M | some (_, M') => subR M' M && okC P n an a nr M') && okC P n an b nr M
  | .cond _ a b, nr, M => okC P n an a nr M && okC P n an b nr M
  | .block id b, nr, M => match look an.blks id with | none => okC P n an b nr M | some (_, M') => subR M' M && okC P n an b nr M'
  | .loop b, nr, M => match look an.loops (keyL b) with | none => false | some (_, M') => subR M' M && okC P n an b nr M'
  | .rangeFunc _ ps a b, nr, _ => !nr && noR a && noR b && psOk n ps && okC P n an a true [(0, n)] && okC P n an b true [(0, n)]
  | _, _, _ => true
theorem least_ex (p : Nat → Prop) : ∀ m, p m → ∃ k, p k ∧ ∀ j, p j → k ≤ j := by
  intro m
  induction m using Nat.strongRecOn with
  | _ m ih =>
    intro hm
    by_cases h : ∃ j, j < m ∧ p j
    · obtain ⟨j, hj, hp⟩ := h; exact ih j hj hp
    · exact ⟨m, hm, fun j hj => Nat.le_of_not_lt fun hlt => h ⟨j, hlt, hj⟩⟩
open Classical in
noncomputable def leastOf (p : Nat → Prop) : Nat := if h : ∃ k, p k ∧ ∀ j, p j → k ≤ j then Classical.choose h else 0
theorem leastOf_spec {p : Nat → Prop} (h : ∃ m, p m) : p (leastOf p) ∧ ∀ j, p j → leastOf p ≤ j := by
  obtain ⟨m, hm⟩ := h
  have h1 := least_ex p m hm
  unfold leastOf; rw [dif_pos h1]; exact Classical.choose_spec h1
theorem leastOf_le {p : Nat → Prop} {m : Nat} (h : p m) : leastOf p ≤ m := (leastOf_spec ⟨m, h⟩).2 m h
theorem wl_sound {P : Program} {ro : Option Nat} {n m : Nat} {ops : Array Oper} {ds : Bool} {h0 : World} {B : Rg} {M : Rs} (hok : okOps n M ops = true) {K : Rg → A} {Q : Exit → Act → World → Prop}
    (hK : ∀ a σ w, At n ds h0 B M a σ w → K σ w.heap → Q .normal a w) :
    ∀ (k : Nat) (a : Act) (σ : Rg) (w : World), k ≤ ops.size → At n ds h0 B M a σ w → wl P ops (ops.toList.drop (ops.size - k)) σ K w.heap →
      wpOpsIn (Fr ro) m P ops Q ((List.range ops.size).drop (ops.size - k)) a w := by
  intro k
  induction k with
  | zero =>
    intro a σ w _ hat hw
    have e1 : ops.toList.drop (ops.size - 0) = [] := List.drop_of_length_le (by simp)
    have e2 : (List.range ops.size).drop (ops.size - 0) = [] := List.drop_of_length_le (by simp)
    rw [e1] at hw; rw [e2]
    exact hK a σ w hat hw
  | succ k ih =>
    intro a σ w hk hat hw
    have hlt : ops.size - (k + 1) < ops.size := by omega
    have e1 : ops.toList.drop (ops.size - (k + 1)) = ops[ops.size - (k + 1)] :: ops.toList.drop (ops.size - k) := by
      rw [List.drop_eq_getElem_cons (by simpa using hlt), show ops.size - (k + 1) + 1 = ops.size - k from by omega]; simp
    have e2 : (List.range ops.size).drop (ops.size - (k + 1)) = (ops.size - (k + 1)) :: (List.range ops.size).drop (ops.size - k) := by
      rw [List.drop_eq_getElem_cons (by simpa using hlt), show ops.size - (k + 1) + 1 = ops.size - k from by omega]; simp
    rw [e1] at hw; rw [e2]
    have ho : ops[ops.size - (k + 1)]? = some ops[ops.size - (k + 1)] := Array.getElem?_eq_getElem hlt
    generalize ops[ops.size - (k + 1)] = o at *
    have hmem : o ∈ ops.toList := by rw [Array.mem_toList_iff]; exact Array.mem_of_getElem? ho
    have hnext : ∀ v w', wl P ops (ops.toList.drop (ops.size - k)) (updO σ o.dst v) K w'.heap → KW w w' → wpOpsIn (Fr ro) m P ops Q ((List.range ops.size).drop (ops.size - k)) (a.put o.dst v) w' := by
      intro v w' h1 h2
      exact ih _ _ w' (by omega) (hat.put (fun d hd => okOps_dst hok hmem hd) h2) h1
    simp only [wpOpsIn, ho]
    simp only [wl] at hw
    cases hg : o.guard with
    | none =>
      simp only [hg] at hw
      rw [← hat.sim.eval] at hw
      simp only [Region.wanted, hg, if_true]
      exact opW_sound (fun _ => rfl) rfl hw hnext
    | some g =>
      obtain ⟨j, want⟩ := g
      simp only [hg] at hw
      cases hd : (ops[j]?).bind (·.dst) with
      | none => simp only [hd] at hw
      | some d =>
        simp only [hd] at hw
        have hdn : d < n := by
          cases hj : ops[j]? with
          | none => simp [hj] at hd
          | some oj => simp only [hj, Option.bind_some] at hd; exact (okOps_dst hok (by rw [Array.mem_toList_iff]; exact Array.mem_of_getElem? hj) hd).1
        have hy := yielded_sim hat.sim hd hdn want
        rw [← hat.sim.eval] at hw
        simp only [Region.wanted, hg]
        by_cases hc : σ d = .bool want
        · rw [if_pos (hy.2 hc)]
          exact opW_sound (fun _ => rfl) rfl (hw.1 hc) hnext
        · rw [if_neg (fun e => hc (hy.1 e))]
          exact ⟨fun _ _ => trivial, hnext _ _ (hw.2 hc) (KW.refl _)⟩
theorem setPs_sim {n : Nat} {a : Act} {σ : Rg} (hs : Sim n a σ) {ps : Array Nat} {x : List Value} (hps : psOk n ps = true) (hlen : x.length = ps.toList.length) :
    Sim n { tmps := (ps.zip (#[] ++ x.toArray)).foldl (fun tmps (t, v) => tmps.setIfInBounds t v) a.tmps, defers := [] } (setPs ps.toList x σ) := by
  have key : ∀ (l : List Nat) (x : List Value) (t : Array Value) (σ : Rg), x.length = l.length → (∀ d ∈ l, d < n) → Sim n { tmps := t, defers := [] } σ →
      Sim n { tmps := (l.zip x).foldl (fun tmps p => tmps.setIfInBounds p.1 p.2) t, defers := [] } (setPs l x σ) := by
    intro l
    induction l with
    | nil => intro x t σ _ _ h; exact h
    | cons d l ih =>
      intro x t σ hl hd h
      cases x with
      | nil => simp at hl
      | cons v x =>
        simp only [List.zip_cons_cons, List.foldl_cons, setPs, List.tail_cons, List.headD_cons]
        exact ih x _ _ (by simpa using hl) (fun d' h' => hd d' (List.mem_cons_of_mem _ h')) (h.put (some d) v (fun d' h' => by cases h'; exact hd _ (List.mem_cons_self ..)))
  have h1 := key ps.toList x a.tmps σ hlen (fun d hd => by
    have := List.all_eq_true.1 hps d hd
    exact Nat.lt_of_lt_of_le (Nat.lt_succ_self _) (Nat.le_of_ble_eq_true this)) ⟨hs.size, hs.reg⟩
  have e : (ps.zip (#[] ++ x.toArray)).foldl (fun tmps (t, v) => tmps.setIfInBounds t v) a.tmps = (ps.toList.zip x).foldl (fun tmps p => tmps.setIfInBounds p.1 p.2) a.tmps := by
    rw [← Array.foldl_toList]; simp
  rw [e]; exact h1
theorem W_sound {P : Program} (hm : P.follows .mixedOrders = true) {an : Ann} {n : Nat} : ∀ (c : Code) (ro : Option Nat) (m : Nat) (nr : Bool) (h0 : World) (B : Rg) (M : Rs) (Q : Exit → Rg → A) (Q' : Exit → Act → World → Prop) (a : Act) (σ : Rg) (w : World),
    (ro = none ∨ noR c = true) → okC P n an c nr M = true → At n nr h0 B M a σ w → W P an c Q σ w.heap → (∀ e a σ w, At n nr h0 B M a σ w → Q e σ w.heap → Q' e a w) → c.wpIn (Fr ro) m P Q' a w := by
  intro c
  induction c with
  | skip => intro ro m nr h0 B M Q Q' a σ w hro _ hat hw hq; exact wpIn_skip (hq _ _ _ _ hat hw)
  | exit id => intro ro m nr h0 B M Q Q' a σ w hro _ hat hw hq; exact wpIn_exit (hq _ _ _ _ hat hw)
  | ret => intro ro m nr h0 B M Q Q' a σ w hro _ hat hw hq; exact wpIn_ret (hq _ _ _ _ hat hw)
  | region id ops dr =>
    intro ro m nr h0 B M Q Q' a σ w hro hok hat hw hq
    simp only [okC, Bool.and_eq_true] at hok
    cases dr with
    | true =>
      simp only [W, cond_true] at hw
      cases hl : lookP an.plans id with
      | none => simp only [hl] at hw; exact hw.elim
      | some pa =>
        obtain ⟨p, anc⟩ := pa
        simp only [hl] at hw hok
        simp only [Bool.not_true, Bool.false_or, Bool.and_eq_true] at hok
        obtain ⟨hok1, hsh, hv⟩ := hok
        refine wpIn_region_any hm ?_
        have hat' : At n nr h0 B M a σ { w with drawn := w.drawn + 1 } := ⟨hat.sim, hat.ds, hat.dz, hat.keep, hat.agree⟩
        have hI : IV P ops anc (fun i => (Array.replicate ops.size false).getD i true = true) [] σ σ w.heap := by
          have hno : ∀ i, i < ops.size → ¬ ((Array.replicate ops.size false).getD i true = true) := by
            intro i hi; simp [Array.getD, hi]
          refine ⟨fun i hi h => absurd h (hno i hi), by simp, by simp, fun _ _ => rfl, by simp, by simp, ?_⟩
          intro i o ho h
          exact absurd h (hno i (Array.getElem?_eq_some_iff.1 ho).1)
        obtain ⟨p', done', τ', n1, n2, n3, n4⟩ := adv hsh p [] σ hv hw hI
        have hcnt : cnt ops.size (Array.replicate ops.size false) ≤ ops.size := by
          unfold cnt; exact Nat.le_trans List.countP_le_length (by simp)
        exact draw_sound hsh hok1 (K := Q .normal) (Q := Q') (fun a σ w h1 h2 => hq _ _ _ _ h1 h2) ops.size _ p' [] done' a σ τ' _ (by simp) hcnt n1 n2 hat' n3 n4
    | false =>
      simp only [W, cond_false] at hw
      refine wpIn_region ?_
      have := wl_sound (P := P) (ro := ro) (m := m) (ops := ops) hok.1 (K := Q .normal) (Q := Q') (fun a σ w h1 h2 => hq _ _ _ _ h1 h2) ops.size a σ w (Nat.le_refl _) hat (by rw [Nat.sub_self, List.drop_zero]; exact hw)
      simpa using this
  | seq x y ihx ihy =>
    intro ro m nr h0 B M Q Q' a σ w hro hok hat hw hq
    simp only [okC, Bool.and_eq_true] at hok
    simp only [W] at hw
    cases hl : look an.seqs (keyS x y) with
    | none =>
      simp only [hl] at hw hok
      refine wpIn_seq (ihx _ _ _ _ B M (thenQ (W P an y Q) Q) _ a σ w (hro.imp id fun h => (Bool.and_eq_true _ _ ▸ h).1) hok.1 hat hw ?_)
      intro e a1 σ1 w1 hat1 hq1
      cases e <;> first | exact hq _ _ _ _ hat1 hq1 | exact ihy _ _ _ _ B M Q Q' a1 σ1 w1 (hro.imp id fun h => (Bool.and_eq_true _ _ ▸ h).2) hok.2 hat1 hq1 hq
    | some LM =>
      obtain ⟨L, M'⟩ := LM
      simp only [hl, Bool.and_eq_true] at hw hok
      have hw1 := hw (allS L.length (fun σ0 => curL L (W P an y Q) (mix M' σ0 σ))) (Le_refl _ _)
      refine wpIn_seq (ihx _ _ _ _ σ M' _ _ a σ w (hro.imp id fun h => (Bool.and_eq_true _ _ ▸ h).1) hok.1.2 hat.down hw1 ?_)
      intro e a1 σ1 w1 hat1 hq1
      have hat2 := hat.up hok.1.1 hat1
      cases e <;> first | exact hq _ _ _ _ hat2 hq1 | skip
      have h2 := appL_allS L _ σ1 w1.heap hq1 σ1
      rw [appL_curL, mix_eq hat1.agree, over_self] at h2
      exact ihy _ _ _ _ B M Q Q' a1 σ1 w1 (hro.imp id fun h => (Bool.and_eq_true _ _ ▸ h).2) hok.2 hat2 h2 hq
  | cond c x y ihx ihy =>
    intro ro m nr h0 B M Q Q' a σ w hro hok hat hw hq
    simp only [okC, Bool.and_eq_true] at hok
    obtain ⟨b, hb, h1, h2⟩ := hw
    refine wpIn_cond_split (t := b) (by rw [hat.sim.eval]; exact hb) (fun hb => ihx _ _ _ _ B M Q Q' a σ w (hro.imp id fun h => (Bool.and_eq_true _ _ ▸ h).1) hok.1 hat (h1 hb) hq) (fun hb => ihy _ _ _ _ B M Q Q' a σ w (hro.imp id fun h => (Bool.and_eq_true _ _ ▸ h).2) hok.2 hat (h2 hb) hq)
  | block id c ih =>
    intro ro m nr h0 B M Q Q' a σ w hro hok hat hw hq
    simp only [W] at hw
    simp only [okC] at hok
    refine wpIn_block ?_
    have hbq : ∀ {Q1 : Exit → Rg → A} {e : Exit} {a1 : Act} {σ1 : Rg} {w1 : World}, (∀ e, Q1 e σ1 w1.heap → Q' e a1 w1) → blkQ id Q1 e σ1 w1.heap → Exit.inBlock id Q' e a1 w1 := by
      intro Q1 e a1 σ1 w1 hQ hq1
      cases e <;> first | exact hQ _ hq1 | skip
      rename_i id'
      simp only [Exit.inBlock]
      by_cases he : id' = id
      · subst he; simp only [blkQ, Nat.beq_refl, cond_true] at hq1; rw [if_pos rfl]; exact hQ _ hq1
      · have : Nat.beq id' id = false := by cases hb : Nat.beq id' id with
          | false => rfl
          | true => exact absurd (Nat.eq_of_beq_eq_true hb) he
        simp only [blkQ, this, cond_false] at hq1; rw [if_neg he]; exact hQ _ hq1
    cases hl : look an.blks id with
    | none =>
      simp only [hl] at hw hok
      refine ih _ _ _ _ B M _ _ a σ w hro hok hat hw ?_
      intro e a1 σ1 w1 hat1 hq1
      exact hbq (fun e h => hq _ _ _ _ hat1 h) hq1
    | some LM =>
      obtain ⟨L, M'⟩ := LM
      simp only [hl, Bool.and_eq_true] at hw hok
      have hw1 := hw (allS L.length (fun σ0 => curL L (Q .normal) (mix M' σ0 σ))) (Le_refl _ _)
      refine ih _ _ _ _ σ M' _ _ a σ w hro hok.2 hat.down hw1 ?_
      intro e a1 σ1 w1 hat1 hq1
      have hat2 := hat.up hok.1 hat1
      refine hbq (fun e h => ?_) hq1
      cases e <;> first | exact hq _ _ _ _ hat2 h | skip
      have h2 := appL_allS L _ σ1 w1.heap h σ1
      rw [appL_curL, mix_eq hat1.agree, over_self] at h2
      exact hq _ _ _ _ hat2 h2
  | loop c ih =>
    intro ro m nr h0 B M Q Q' a σ w hro hok hat hw hq
    simp only [W] at hw
    simp only [okC] at hok
    cases hl : look an.loops (keyL c) with
    | none => simp only [hl] at hw
    | some LM =>
      obtain ⟨L, M'⟩ := LM
      simp only [hl, Bool.and_eq_true] at hw hok
      obtain ⟨I, ⟨m0, h1⟩, h2⟩ := hw
      rw [app_appL] at h1
      let p : Act → World → Nat → Prop := fun a1 w m1 => ∃ σ1, At n nr h0 σ M' a1 σ1 w ∧ appL L (I m1) σ1 w.heap
      refine wpIn_loop (fun a w => ∃ m1, p a w m1) (fun a w => leastOf (p a w)) ⟨m0, σ, hat.down, h1⟩ ?_
      intro a1 w1 hI
      obtain ⟨⟨σ1, hat1, hI1⟩, _⟩ := leastOf_spec hI
      have h3 := appL_Le L _ _ σ1 w1.heap (h2 _ σ1) hI1
      rw [appL_curL, mix_eq hat1.agree, over_self] at h3
      refine ih _ _ _ _ σ M' _ _ a1 σ1 w1 hro hok.2 hat1 h3 ?_
      intro e a2 σ2 w2 hat2 hq2
      cases e <;> first | exact hq _ _ _ _ (hat.up hok.1 hat2) hq2 | skip
      obtain ⟨m', hlt, hI'⟩ := appL_exlt L I _ σ2 w2.heap hq2
      exact ⟨⟨m', σ2, hat2, hI'⟩, Nat.lt_of_le_of_lt (leastOf_le ⟨σ2, hat2, hI'⟩) hlt⟩
  | rangeFunc f ps as body iha ihb =>
    intro ro m nr h0 B M Q Q' a σ w hro hok hat hw hq
    have hro' : ro = none := by
      rcases hro with h | h
      · exact h
      · simp [noR] at h
    subst hro'
    simp only [okC, Bool.and_eq_true, Bool.not_eq_true'] at hok
    obtain ⟨⟨⟨⟨⟨hnr, hna⟩, hnb⟩, hps⟩, hoka⟩, hokb⟩ := hok
    obtain ⟨I, D, X, E, hIc, hXc, hXe, hI0, ⟨g, first, cap, hfv⟩, hit, hround, hdone, houtR, houtX⟩ := hw
    refine wpIn_rangeFunc fun fn _ => ?_
    let R0 : Loop := { state := .ready, pending := none, fn, tmps := a.tmps, params := ps, assign := as, body, defers := w.heap.size }
    let w1 : World := (w.alloc (.deferred (some []))).alloc (.loop R0)
    have hw1 : w1.heap = (w.heap.push (.deferred (some []))).push (.loop R0) := rfl
    have hl1 : w1.heap[w.heap.size + 1]? = some (.loop R0) := by rw [hw1, Array.getElem?_push]; simp
    have hd1 : w1.heap[w.heap.size]? = some (.deferred (some [])) := by
      rw [hw1, Array.getElem?_push, if_neg (by simp), Array.getElem?_push, if_pos rfl]
    have hk1' : Keep w.heap w1.heap := (Keep_push _ _).trans (Keep_push _ _)
    have hk1 : KW w w1 := ⟨hk1', rfl, rfl, rfl⟩
    have hc1 : Lx w.heap.size w.heap w1.heap := by
      refine ⟨hk1'.1, fun b hb => .inl ?_⟩
      rw [hw1, Array.getElem?_push, if_neg (by simp; omega), Array.getElem?_push, if_neg (by omega)]
    have he := run_enterLoop_outer (P := P) (w := w) fn a.tmps ps as body
    let l := w.heap.size + 1
    let y : Value := .func (.yield l) #[] #[]
    let J : List (List Value) → A := fun pre h => I pre h ∧ h[l]? = some (.loop R0)
    let Y : A := fun h => ∃ e c, X e h ∧ ((e = .ret ∧ c = .ret) ∨ ∃ id, e = .exit id ∧ c = .exit id) ∧ h[l]? = some (.loop { R0 with state := .done, pending := some c })
    have hsx : ∀ {h h' : Hp}, Sx w.heap.size h h' → Cx w.heap.size h h' := by
      intro h h' hs
      refine ⟨hs.1, fun b hb => (hs.2 b hb).imp id ?_⟩
      rintro ⟨hn, o, o', e1, e2, e3, e4⟩
      exact ⟨hn, o, o', e1, e2, by cases o <;> first | rfl | (simp [soft] at e3), by cases o' <;> first | rfl | (simp [soft] at e4)⟩
    have hsl : ∀ {h h' : Hp} {r : Loop}, Sx w.heap.size h h' → h[l]? = some (.loop r) → h'[l]? = some (.loop r) := by
      intro h h' r hs hr
      rcases hs.2 l (lt_of_get hr) with e | ⟨_, o, o', e1, _, e3, _⟩
      · rw [e]; exact hr
      · rw [hr] at e1; cases e1; simp [soft] at e3
    have hput : ∀ (v : World) (r r' : Loop), v.heap[l]? = some (.loop r) → Lx w.heap.size v.heap (v.putObj l (.loop r')).heap := by
      intro v r r' hr
      refine ⟨by rw [World.putObj_size]; exact Nat.le_refl _, fun b _ => ?_⟩
      by_cases e : b = l
      · exact .inr ⟨by rw [e]; exact Nat.le_succ _, _, _, by rw [e]; exact hr, by rw [e]; exact World.putObj_heap_same (lt_of_get hr), rfl, rfl⟩
      · exact .inl (World.putObj_heap_other e)
    have hcall := hit y J Y w1.heap hc1 (fun pre h hj => hj.1) (fun pre h h' hj hs => ⟨hIc _ _ _ hj.1 (hsx hs), hsl hs hj.2⟩)
      (fun h h' ⟨e, c, e1, e2, e3⟩ hs => ⟨e, c, hXc _ _ _ e1 (hsx hs), e2, hsl hs e3⟩) ⟨hIc _ _ _ hI0 hc1.cx, hl1⟩ (by
        intro pre x h' hj hD
        show YW P l (#[] ++ x.toArray) _ h'
        intro w' hw'
        subst hw'
        obtain ⟨hjI, hrec⟩ := hj
        obtain ⟨hlen, hW⟩ := hround pre x w'.heap hjI hD
        refine ⟨_, _, _, _, run_yield hrec (by simp [R0, hlen]), ?_⟩
        refine roundIn_of_wpIn (F := Fr none) trivial ?_
        have hsim : Sim n { tmps := (ps.zip (#[] ++ x.toArray)).foldl (fun tmps (t, v) => tmps.setIfInBounds t v) a.tmps, defers := [] } (setPs ps.toList x σ) := setPs_sim hat.sim hps hlen
        refine iha (some l) 0 true w' (setPs ps.toList x σ) [(0, n)] _ _ _ _ w' (.inr hna) hoka ⟨hsim, .nil, fun _ => rfl, KW.refl _, fun _ _ => rfl⟩ hW ?_
        intro e a1 σ1 w1 hat1 hq1
        cases e <;> first | exact hq1.elim | skip
        obtain ⟨hkc, hcxW⟩ := hq1
        have hrec1 := hkc l _ hrec rfl
        refine ⟨_, run_beginRound hrec1 rfl, ?_⟩
        let w2 : World := w1.putObj l (.loop { R0 with state := .busy })
        have hrec2 : w2.heap[l]? = some (.loop { R0 with state := .busy }) := World.putObj_heap_same (lt_of_get hrec1)
        have hW2 := hcxW w2.heap (hput w1 _ _ hrec1)
        have hdf := hat1.dz rfl
        refine ihb (some l) 0 true w2 σ1 [(0, n)] _ _ a1 σ1 w2 (.inr hnb) hokb ⟨hat1.sim, by rw [hdf]; exact .nil, fun _ => hdf, KW.refl _, fun _ _ => rfl⟩ hW2 ?_
        intro e a3 σ3 w3 hat3 hQr
        have hrec3 := hat3.keep.1.2 l _ hrec2 rfl
        have hkeep : ∀ r', KW w' (w3.putObj l (.loop r')) := by
          intro r'
          refine ⟨⟨?_, fun b o hb ho => ?_⟩, hat3.keep.2.1.trans hat1.keep.2.1, hat3.keep.2.2.1.trans hat1.keep.2.2.1, hat3.keep.2.2.2.trans hat1.keep.2.2.2⟩
          · rw [World.putObj_size]
            have h1 := hat1.keep.1.1
            have h2 := hat3.keep.1.1
            have h3 : w2.heap.size = w1.heap.size := World.putObj_size
            omega
          · have hne : b ≠ l := by
              rintro rfl
              have : o = .loop R0 := by rw [hrec] at hb; cases hb; rfl
              subst this; simp [isK, R0] at ho
            rw [World.putObj_heap_other hne]
            refine hat3.keep.1.2 b o ?_ ho
            rw [show w2.heap[b]? = w1.heap[b]? from World.putObj_heap_other hne]
            exact hat1.keep.1.2 b o hb ho
        cases e with
        | normal =>
          obtain ⟨hQr, hsk⟩ := hQr
          refine ⟨_, _, run_endRound none hrec3, _, rfl, ⟨.inl ⟨rfl, hIc _ _ _ hQr (hput w3 _ _ hrec3).cx, ?_⟩, hsk.trans (.lx (hput w3 _ _ hrec3))⟩, hkeep _⟩
          exact World.putObj_heap_same (lt_of_get hrec3)
        | ret =>
          obtain ⟨hQr, hsk⟩ := hQr
          refine ⟨_, _, run_endRound (some .ret) hrec3, _, rfl, ⟨.inr ⟨rfl, .ret, .ret, hXc _ _ _ hQr (hput w3 _ _ hrec3).cx, .inl ⟨rfl, rfl⟩, ?_⟩, hsk.trans (.lx (hput w3 _ _ hrec3))⟩, hkeep _⟩
          exact World.putObj_heap_same (lt_of_get hrec3)
        | exit id =>
          obtain ⟨hQr, hsk⟩ := hQr
          refine ⟨_, _, run_endRound (some (.exit id)) hrec3, _, rfl, ⟨.inr ⟨rfl, .exit id, .exit id, hXc _ _ _ hQr (hput w3 _ _ hrec3).cx, .inr ⟨id, rfl, rfl⟩, ?_⟩, hsk.trans (.lx (hput w3 _ _ hrec3))⟩, hkeep _⟩
          exact World.putObj_heap_same (lt_of_get hrec3)
        | _ =>
          rcases hXe _ _ hQr.1 with h | ⟨_, _, h⟩ <;> cases h)
    rcases CV_cases hcall with ⟨g', first', cap', hv, hbd, hfw⟩ | ⟨_, _, _, hv, _⟩
    rotate_left
    · rw [hfv] at hv; cases hv
    have hev : a.eval f = .func (.func g') first' cap' := by rw [hat.sim.eval]; exact hv
    refine ⟨l, [{ target := .collected w.heap.size, args := #[] }], w1, { target := .fn (.func g') cap', args := first' ++ #[y] }, w1, g', first' ++ #[y] ++ cap', w1, he, ?_, fun _ _ => trivial, run_callFunc hbd, fun h => by simp [Fr] at h, callsFr.2 ?_⟩
    · show (Deferred.ofValue (a.eval f) (Array.map a.eval (rangeCall f l).args)).run P w1 = _
      rw [hev, show Array.map a.eval (rangeCall f l).args = #[y] from by simp [rangeCall, Act.eval, y]]; rfl
    refine (hfw w1 rfl).mono ?_
    rintro e w2 ⟨v, rfl, hres, hk2⟩
    have hfin : ∀ (r : Loop) (r' : Loop), w2.heap[l]? = some (.loop r) → r.state ≠ .busy → At n nr h0 B M { a with defers := { target := .collected w.heap.size, args := #[] } :: a.defers } σ (w2.putObj l (.loop r')) := by
      intro r r' hr hnb
      have hkp : KW w2 (w2.putObj l (.loop r')) := by
        refine ⟨⟨by rw [World.putObj_size]; exact Nat.le_refl _, fun b o hb ho => ?_⟩, rfl, rfl, rfl⟩
        have hne : b ≠ l := by
          rintro rfl
          rw [hr] at hb; cases hb
          unfold isK at ho; cases hs : r.state <;> simp [hs] at ho; exact hnb hs
        rw [World.putObj_heap_other hne]; exact hb
      have hkw := (hk1.trans hk2).trans hkp
      refine ⟨⟨hat.sim.size, hat.sim.reg⟩, .cons ((hk2.trans hkp).1.2 _ _ hd1 rfl) hat.keep.1.1 (fun d hd r' e => hat.ds.lt d hd r' e) (hat.ds.keep hkw.1), (fun h => by rw [hnr] at h; cases h), hat.keep.trans hkw, hat.agree⟩
    rcases hres with ⟨xs, hE, hjI, hrec⟩ | ⟨e, c, hX, hec, hrec⟩
    · refine ⟨none, _, run_endLoop hrec (by simp [R0]), ?_⟩
      exact hq .normal _ σ _ (hfin _ _ hrec (by simp [R0])) (hdone xs _ hE (hIc _ _ _ hjI (hput w2 _ _ hrec).cx))
    · refine ⟨some c, _, run_endLoop hrec (by simp), ?_⟩
      have hat' := hfin _ { R0 with state := .exhausted, pending := some c } hrec (by simp)
      have hX' := hXc _ _ _ hX (hput w2 _ { R0 with state := .exhausted, pending := some c } hrec).cx
      rcases hec with ⟨rfl, rfl⟩ | ⟨id, rfl, rfl⟩
      · exact wpIn_ret (hq .ret _ σ _ hat' (houtR _ hX'))
      · rcases hXe _ _ hX' with h | ⟨p, hp, h⟩
        · cases h
        · have hid : id = p.1 := by cases h; rfl
          subst hid
          have h1 := houtX p hp _ hX'
          obtain ⟨id', _, rfl⟩ := List.mem_map.1 hp
          exact wpIn_exit (hq (.exit id') _ σ _ hat' h1)
  | _ => intro ro m nr h0 B M Q Q' a σ w hro _ hat hw hq; exact hw.elim
end Go.Proofs.YtalknmdbamlabaaGreat.Q

/-! functions -/
namespace Go.Proofs.YtalknmdbamlabaaGreat.Q
open Go
def tupleOf : List Value → Value
  | [v] => v
  | vs => .tuple vs.toArray
def resG (σ : Rg) : ResultVar → Sem Value
  | .tmp t => pure (σ t)
  | .cell a t => do loadVar t (← asAddr (σ a))
def resS (rs : List ResultVar) (σ : Rg) : Sem Value := do
  let vs ← rs.mapM (resG σ)
  pure (tupleOf vs)
def rl (P : Program) (σ : Rg) : List ResultVar → (List Value → A) → A
  | [], K => K []
  | .tmp t :: r, K => rl P σ r fun vs => K (σ t :: vs)
  | .cell a t :: r, K => oA (aggOf P t) fun b => oA (szOf P t) fun n => bif b then ldn n (σ a) (fun v => rl P σ r fun vs => K (v :: vs)) else ld1 (σ a) (fun v => rl P σ r fun vs => K (v :: vs))
def retW (P : Program) (rs : Array ResultVar) (R : Value → A) (σ : Rg) : A := rl P σ rs.toList fun vs => R (tupleOf vs)
theorem tupleOf_eq (vs : Array Value) : (if h : vs.size = 1 then vs[0] else .tuple vs) = tupleOf vs.toList := by
  obtain ⟨l⟩ := vs
  match l with
  | [] => rfl
  | [v] => rfl
  | v :: w :: r => rfl
theorem results_eq {fn : Func} {n : Nat} {a : Act} {σ : Rg} (hs : Sim n a σ) : results fn a.tmps = resS fn.results.toList σ := by
  unfold results resS
  simp only [hs.reg, Array.mapM_eq_mapM_toList, bind_map_left]
  have e2 : ∀ l : List Value, (if h : l.toArray.size = 1 then l.toArray[0] else .tuple l.toArray) = tupleOf l := fun l => tupleOf_eq l.toArray
  simp only [e2]
  exact congrArg (fun g => (List.mapM g fn.results.toList >>= fun vs => pure (tupleOf vs) : Sem Value)) (by funext x; cases x <;> rfl)
theorem rl_run {P : Program} {σ : Rg} {w : World} : ∀ (rs : List ResultVar) (K : List Value → A), rl P σ rs K w.heap → ∃ vs, (rs.mapM (resG σ)).run P w = .ok vs w ∧ K vs w.heap := by
  intro rs
  induction rs with
  | nil => intro K h; exact ⟨[], rfl, h⟩
  | cons r rs ih =>
    intro K h
    cases r with
    | tmp t =>
      obtain ⟨vs, h1, h2⟩ := ih _ h
      refine ⟨σ t :: vs, ?_, h2⟩
      rw [List.mapM_cons]; simp only [resG, pure_bind]
      rw [Sem.run_bind, h1]; rfl
    | cell a t =>
      obtain ⟨b, hb, h⟩ := oA_some h
      obtain ⟨n, hn, h⟩ := oA_some h
      have key : ∀ (ad : Addr) (v : Value), σ a = .pointer (some ad) → (Instr.loadAt t (.pointer (some ad))).run P w = .ok v w → (resG σ (.cell a t)).run P w = .ok v w := by
        intro ad v e hl
        simp only [resG, e]; exact hl
      cases b with
      | true =>
        obtain ⟨ad, vs, e, h1, h2⟩ := h
        obtain ⟨us, h3, h4⟩ := ih _ h2
        refine ⟨_ :: us, ?_, h4⟩
        rw [List.mapM_cons, Sem.run_bind, key ad _ e (ldn_run hb hn h1)]
        simp only [Result.andThen]
        rw [Sem.run_bind, h3]; rfl
      | false =>
        obtain ⟨ad, v, e, h1, h2⟩ := h
        obtain ⟨us, h3, h4⟩ := ih _ h2
        refine ⟨_ :: us, ?_, h4⟩
        rw [List.mapM_cons, Sem.run_bind, key ad _ e (ld1_run hb h1)]
        simp only [Result.andThen]
        rw [Sem.run_bind, h3]; rfl
def ini (args : List Value) : Rg := fun t => args.getD t undef
def topQ (P : Program) (rs : Array ResultVar) (R : Value → A) : Exit → Rg → A
  | .normal => retW P rs R
  | .ret => retW P rs R
  | _ => fun _ _ => False
theorem ini_sim {args : List Value} {n : Nat} (hn : args.length ≤ n) : Sim n { tmps := args.toArray ++ Array.replicate (n - args.toArray.size) undef, defers := [] } (ini args) := by
  refine ⟨by simp; omega, fun t => ?_⟩
  simp only [ini, Array.getD_eq_getD_getElem?, List.getD_eq_getElem?_getD]
  by_cases h : t < args.length
  · rw [Array.getElem?_append_left (by simpa using h)]; simp
  · rw [Array.getElem?_append_right (by simp; omega), List.getElem?_eq_none (by omega)]
    simp only [Array.getElem?_replicate, Option.getD_none]; split <;> rfl
theorem retW_ok {P : Program} {fn : Func} {n : Nat} {a : Act} {σ : Rg} {w : World} {R : Value → A} (hs : Sim n a σ) (h : retW P fn.results R σ w.heap) :
    ∃ v, (results fn a.tmps).run P w = .ok v w ∧ R v w.heap := by
  rw [results_eq hs]
  obtain ⟨vs, h1, h2⟩ := rl_run _ _ h
  refine ⟨_, ?_, h2⟩
  unfold resS; rw [Sem.run_bind, h1]; rfl
def bodyOf (f : Func) : Code := f.body.getD .skip
theorem fn_sound {P : Program} (hm : P.follows .mixedOrders = true) {an : Ann} {f : FuncId} {fn : Func} {c : Code} {args : List Value} {h : Hp} {R : Value → A}
    (hf : P.funcs[f]? = some fn) (hb : fn.body = some c) (hn : Nat.ble args.length fn.ntmps = true) (hok : okC P fn.ntmps an c true [(0, fn.ntmps)] = true)
    (hw : W P an c (topQ P fn.results R) (ini args) h) : FnW P f args.toArray R h := by
  intro w hwh
  rw [← callsFr (ro := none) (n := 0)]
  refine callsIn_of_wp hf hb trivial ?_
  subst hwh
  refine W_sound hm c none 0 true w (ini args) [(0, fn.ntmps)] (topQ P fn.results R) _ _ (ini args) w (.inl rfl) hok ⟨ini_sim (Nat.le_of_ble_eq_true hn), .nil, fun _ => rfl, KW.refl _, fun _ _ => rfl⟩ hw ?_
  intro e a σ w' hat hq
  cases e <;> first | exact hq.elim | skip
  all_goals
    obtain ⟨v, h1, h2⟩ := retW_ok hat.sim hq
    exact ⟨hat.dz rfl, v, h1, v, rfl, h2, hat.keep⟩
def topQM (n : Nat) (P : Program) (rs : Array ResultVar) (R : Value → A) : Exit → Rg → A
  | .normal => fun σ => cx n (retW P rs R σ)
  | .ret => fun σ => cx n (retW P rs R σ)
  | _ => fun _ _ => False
theorem leaves_marks {P : Program} {fn : Func} {tmps : Array Value} {R : Ending → World → Prop} {h0 : World} : ∀ (ds : List Deferred) (w : World), Mks h0.heap.size w.heap ds → KW h0 w →
    (∀ w' : World, Lx h0.heap.size w.heap w'.heap → KW h0 w' → ∃ v, (results fn tmps).run P w' = .ok v w' ∧ R (.returned v) w') → LeavesInM (Fr none) 0 P fn tmps R ds .returning w := by
  intro ds
  induction ds with
  | nil =>
    intro w _ hk h
    obtain ⟨v, h1, h2⟩ := h w ⟨Nat.le_refl _, fun _ _ => .inl rfl⟩ hk
    exact ⟨v, h1, h2⟩
  | cons d ds ih =>
    intro w hm hk h
    cases hm with
    | cons h1 h2 h3 h4 =>
      rename_i r
      refine ⟨by simp, .inl ⟨r, w.putObj r (.deferred none), rfl, run_takeDeferred h1, ?_⟩⟩
      have hr := lt_of_get h1
      have hpo : ∀ b, b ≠ r → (w.putObj r (.deferred none)).heap[b]? = w.heap[b]? := fun b hb => World.putObj_heap_other hb
      have hsz : (w.putObj r (.deferred none)).heap.size = w.heap.size := World.putObj_size
      have hcx : Lx h0.heap.size w.heap (w.putObj r (.deferred none)).heap := by
        refine ⟨by rw [hsz]; exact Nat.le_refl _, fun b _ => ?_⟩
        by_cases e : b = r
        · exact .inr ⟨by rw [e]; exact h2, _, _, by rw [e]; exact h1, by rw [e]; exact World.putObj_heap_same hr, rfl, rfl⟩
        · exact .inl (hpo b e)
      refine ih _ ?_ ?_ ?_
      · clear ih h hcx
        have hlt := h3
        clear h3
        induction h4 with
        | nil => exact .nil
        | cons g1 g2 g3 _ ih2 =>
          rename_i r2 ds2 _
          have hne : r2 ≠ r := by have := hlt _ (List.mem_cons_self ..) r2 rfl; omega
          exact .cons (by rw [hpo _ hne]; exact g1) g2 g3 (ih2 (fun d hd r' e => hlt d (List.mem_cons_of_mem _ hd) r' e))
      · refine ⟨⟨by rw [hsz]; exact hk.1.1, fun b o hb ho => ?_⟩, hk.2⟩
        have hb2 := hk.1.2 b o hb ho
        have : b ≠ r := by have := lt_of_get hb; omega
        rw [hpo _ this]; exact hb2
      · intro w' hc hk'
        refine h w' ⟨by have := hc.1; omega, fun b hb => ?_⟩ hk'
        rcases hcx.2 b hb with e | ⟨hn, o, o', e1, e2, e3, e4⟩
        · rcases hc.2 b (by omega) with e' | ⟨hn, o, o', e1, e2, e3, e4⟩
          · exact .inl (e'.trans e)
          · exact .inr ⟨hn, o, o', e ▸ e1, e2, e3, e4⟩
        · rcases hc.2 b (by omega) with e' | ⟨_, p, p', f1, f2, f3, f4⟩
          · exact .inr ⟨hn, o, o', e1, e'.trans e2, e3, e4⟩
          · exact .inr ⟨hn, o, p', e1, f2, e3, f4⟩
theorem fn_soundM {P : Program} (hm : P.follows .mixedOrders = true) {an : Ann} {f : FuncId} {fn : Func} {c : Code} {args : List Value} {h : Hp} {R : Value → A}
    (hf : P.funcs[f]? = some fn) (hb : fn.body = some c) (hn : Nat.ble args.length fn.ntmps = true) (hok : okC P fn.ntmps an c false [(0, fn.ntmps)] = true)
    (hw : W P an c (topQM h.size P fn.results R) (ini args) h) : FnW P f args.toArray R h := by
  intro w hwh
  rw [← callsFr (ro := none) (n := 0)]
  refine callsIn_of_wp_marks hf hb trivial ?_
  subst hwh
  refine W_sound hm c none 0 false w (ini args) [(0, fn.ntmps)] (topQM w.heap.size P fn.results R) _ _ (ini args) w (.inl rfl) hok ⟨ini_sim (Nat.le_of_ble_eq_true hn), .nil, fun _ => rfl, KW.refl _, fun _ _ => rfl⟩ hw ?_
  intro e a σ w' hat hq
  cases e <;> first | exact hq.elim | skip
  all_goals
    refine leaves_marks a.defers w' hat.ds hat.keep fun w2 hc hk => ?_
    obtain ⟨v, h1, h2⟩ := retW_ok hat.sim (hq _ hc)
    exact ⟨v, h1, v, rfl, h2, hk⟩
end Go.Proofs.YtalknmdbamlabaaGreat.Q
