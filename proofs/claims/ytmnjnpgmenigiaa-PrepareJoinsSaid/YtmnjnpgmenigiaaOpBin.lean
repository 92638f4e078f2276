/- A part of the proof: an executor over plain data, shown sound for the model, and what it computes of the functions. -/
import Derived.Test.YtmnjnpgmenigiaaOpPure
import Derived.Laws.Strings
set_option linter.all false
/-! Operators. -/
set_option linter.unusedVariables false
set_option linter.unusedSimpArgs false
namespace Go.Ab
open Go

theorem run_equalIn_bool {P : Program} {t : TypeId} (hu : P.underlying t = some .bool) (d : Nat) (p q : Bool) (w : World) : (Op.equalIn (d + 1) t (.bool p) (.bool q)).run P w = .ok (p == q) w := by
  simp [Op.equalIn, run_underlying hu]

theorem run_equalIn_slice {P : Program} {t e : TypeId} (hu : P.underlying t = some (.slice e)) (d : Nat) (ad : Option Addr) (n c : Nat) (w : World) : (Op.equalIn (d + 1) t (.slice ad n c) (.slice none 0 0)).run P w = .ok ad.isNone w := by
  cases ad <;> simp [Op.equalIn, run_underlying hu]

section
variable {P : Program} {idm : FuncId → FuncId} {N : Nat} {m : NMap} {w : World} {W : Nat → Prop} {st : St} {a : Act} {o : Oper} (s : Sim idm N m w W st a)
include s

set_option maxHeartbeats 1000000 in
theorem ok_bin {op : BinOp} {t t2 : TypeId} {x y : Operand} {x' y' : Opd} (ho : o.op = .binOp op t x y t2)
    (ht : (match P.underlying t with | some (.int _) => true | some .string => true | some .bool => true | _ => false) = true)
    (hx : opdL idm x x' = true) (hy : opdL idm y y' = true) {c1 c2 c : PV} (h1 : ev st.T x' = .p c1) (h2 : ev st.T y' = .p c2) (hb : binP op c1 c2 = some c) : OpOK P idm m w W st.H o a { v := .p c } := by
  obtain ⟨g1, _⟩ := opdL_rep hx s
  obtain ⟨g2, _⟩ := opdL_rep hy s
  rw [h1] at g1; rw [h2] at g2
  have key : ∀ v, (eqGuard op t x y (a.eval x) (a.eval y)).run P w = .ok () w → (binOp op t (a.eval x) (a.eval y)).run P w = .ok v w → (execOp a.eval o).run P w = .ok (.value v) w := by
    intro v e1 e2
    simp [execOp, ho, e1, e2]
  cases c1 with
  | int k p =>
    have e1 := g1.int_inv
    cases c2 with
    | int k' q =>
      have e2 := g2.int_inv
      rw [e1, e2] at key
      simp only [binP] at hb
      have hg : (eqGuard op t x y (.int k p) (.int k' q)).run P w = .ok () w := by cases op <;> simp [eqGuard]
      have q1 : (p == q) = decide (p = q) := by rw [Bool.eq_iff_iff]; simp
      have q2 : (p != q) = decide (p ≠ q) := by rw [Bool.eq_iff_iff]; simp
      cases op <;> simp only [Option.ite_none_right_eq_some, Option.ite_none_left_eq_some, Option.some.injEq] at hb <;> obtain ⟨hc, rfl⟩ := hb
      case shl => exact OpOK.pure s (v := .int k (k.wrap (p * 2 ^ min q.toNat k.bits))) (key _ hg (by simp [binOp, Op.shift, hc])) (.p _ _ (.int ..)) (by simp [AV.names])
      case shr => exact OpOK.pure s (v := .int k (p.fdiv (2 ^ min q.toNat k.bits))) (key _ hg (by simp [binOp, Op.shift, hc])) (.p _ _ (.int ..)) (by simp [AV.names])
      case quo =>
        obtain ⟨rfl, hne⟩ := hc
        exact OpOK.pure s (v := .int k (k.wrap (p.tdiv q))) (key _ hg (by simp [binOp, Op.intDiv, hne])) (.p _ _ (.int ..)) (by simp [AV.names])
      case rem =>
        obtain ⟨rfl, hne⟩ := hc
        exact OpOK.pure s (v := .int k (p.tmod q)) (key _ hg (by simp [binOp, Op.intDiv, hne])) (.p _ _ (.int ..)) (by simp [AV.names])
      case add => subst hc; exact OpOK.pure s (v := .int k (k.wrap (p + q))) (key _ hg (by simp [binOp, Op.intArith])) (.p _ _ (.int ..)) (by simp [AV.names])
      case sub => subst hc; exact OpOK.pure s (v := .int k (k.wrap (p - q))) (key _ hg (by simp [binOp, Op.intArith])) (.p _ _ (.int ..)) (by simp [AV.names])
      case mul => subst hc; exact OpOK.pure s (v := .int k (k.wrap (p * q))) (key _ hg (by simp [binOp, Op.intArith])) (.p _ _ (.int ..)) (by simp [AV.names])
      case eql => subst hc; exact OpOK.pure s (v := .bool (decide (p = q))) (key _ hg (by simp [binOp, Op.intCmp, q1])) (.p _ _ (.bool _)) (by simp [AV.names])
      case neq => subst hc; exact OpOK.pure s (v := .bool (decide (p ≠ q))) (key _ hg (by simp only [binOp, Op.intCmp, q2, ne_eq, not_true_eq_false, if_false]; rfl)) (.p _ _ (.bool _)) (by simp [AV.names])
      case lss => subst hc; exact OpOK.pure s (v := .bool (decide (p < q))) (key _ hg (by simp [binOp, Op.intCmp])) (.p _ _ (.bool _)) (by simp [AV.names])
      case leq => subst hc; exact OpOK.pure s (v := .bool (decide (p ≤ q))) (key _ hg (by simp [binOp, Op.intCmp])) (.p _ _ (.bool _)) (by simp [AV.names])
      case gtr => subst hc; exact OpOK.pure s (v := .bool (decide (q < p))) (key _ hg (by simp [binOp, Op.intCmp])) (.p _ _ (.bool _)) (by simp [AV.names])
      case geq => subst hc; exact OpOK.pure s (v := .bool (decide (q ≤ p))) (key _ hg (by simp [binOp, Op.intCmp])) (.p _ _ (.bool _)) (by simp [AV.names])
      all_goals (subst hc; refine OpOK.pure s (key _ hg ?_) (.p _ _ (.int ..)) (by simp [AV.names]); simp [binOp, Op.intBits, andI, orI, xorI, andNotI])
    | _ => simp [binP] at hb
  | str p =>
    have e1 := g1.str_inv
    cases c2 with
    | str q =>
      have e2 := g2.str_inv
      rw [e1, e2] at key
      have hq : (p.toList == q.toList) = decide (p = q) := by
        rw [Bool.eq_iff_iff]
        simp only [beq_iff_eq, decide_eq_true_eq]
        rw [ByteArray.toList_eq, ByteArray.toList_eq]
        exact ⟨fun h => ByteArray.ext (Array.toList_inj.1 h), fun h => by rw [h]⟩
      simp only [binP] at hb
      have hg : (eqGuard op t x y (.string p) (.string q)).run P w = .ok () w := by cases op <;> simp [eqGuard]
      cases op <;> simp only [Option.some.injEq, reduceCtorEq] at hb <;> subst hb <;>
        (refine OpOK.pure s (key _ hg ?_) (.p _ _ (.bool _)) (by simp [AV.names]); simp [binOp, Op.stringOp, hq])
    | _ => simp [binP] at hb
  | _ => simp [binP] at hb

theorem ok_bbin {op : BinOp} {t t2 : TypeId} {x y : Operand} {x' y' : Opd} {neq : Bool} (ho : o.op = .binOp op t x y t2) (hop : (op = .eql ∧ neq = false) ∨ (op = .neq ∧ neq = true)) (hu : P.underlying t = some .bool)
    (hx : opdL idm x x' = true) (hy : opdL idm y y' = true) {p q : Bool} (h1 : ev st.T x' = .p (.bool p)) (h2 : ev st.T y' = .p (.bool q)) : OpOK P idm m w W st.H o a { v := .p (.bool (if neq then !(p == q) else p == q)) } := by
  obtain ⟨g1, _⟩ := opdL_rep hx s
  obtain ⟨g2, _⟩ := opdL_rep hy s
  rw [h1] at g1; rw [h2] at g2
  have key : ∀ v, (eqGuard op t x y (a.eval x) (a.eval y)).run P w = .ok () w → (binOp op t (a.eval x) (a.eval y)).run P w = .ok v w → (execOp a.eval o).run P w = .ok (.value v) w := by
    intro v e1 e2
    simp [execOp, ho, e1, e2]
  rw [g1.bool_inv, g2.bool_inv] at key
  have hg : (eqGuard op t x y (.bool p) (.bool q)).run P w = .ok () w := by cases op <;> simp [eqGuard]
  rcases hop with ⟨rfl, rfl⟩ | ⟨rfl, rfl⟩ <;>
    (refine OpOK.pure s (key _ hg ?_) (.p _ _ (.bool _)) (by simp [AV.names]); simp [binOp, Op.equal, Op.maxDepth, run_equalIn_bool hu 9999])

theorem ok_isnil {t t2 e : TypeId} {x : Operand} {x' : Opd} (ho : o.op = .binOp .eql t x (.const (.slice none 0 0)) t2) (hu : P.underlying t = some (.slice e)) (hx : opdL idm x x' = true) {d : Dl}
    (h1 : (match ev st.T x' with
    | .p (.sl _ (_ :: _)) => some { v := .p (.bool false) }
    | .p (.sl _ []) => some { v := .ub }
    | .nils _ => some { v := .ub }
    | _ => none) = some d) : OpOK P idm m w W st.H o a d := by
  obtain ⟨g1, _⟩ := opdL_rep hx s
  have key : ∀ (ad : Option Addr) (n c : Nat), a.eval x = .slice ad n c → (execOp a.eval o).run P w = .ok (.value (.bool ad.isNone)) w := by
    intro ad n c hv
    have hy : a.eval (.const (.slice none 0 0)) = .slice none 0 0 := rfl
    have e1 : (eqGuard .eql t x (.const (.slice none 0 0)) (.slice ad n c) (.slice none 0 0)).run P w = .ok () w := by simp [eqGuard]
    have e2 : (binOp .eql t (.slice ad n c) (.slice none 0 0)).run P w = .ok (.bool ad.isNone) w := by
      simp [binOp, Op.equal, Op.maxDepth, run_equalIn_slice hu 9999]
    simp [execOp, ho, hv, hy, e1, e2]
  split at h1
  · rename_i z e0 es hv
    simp only [Option.some.injEq] at h1; subst h1
    rw [hv] at g1
    obtain ⟨ad, n, c, hs, hne⟩ : ∃ (ad : Addr) (n c : Nat), a.eval x = .slice (some ad) n c ∧ True := by
      generalize a.eval x = vv at g1
      cases g1 with
      | p _ _ h => cases h with
        | sl z es a n cap ad f hn hcap hz ha hc h => obtain ⟨rfl, _⟩ := ha (by simp); exact ⟨ad, n, cap, rfl, trivial⟩
    exact OpOK.pure s (v := .bool false) (key _ _ _ hs) (.p _ _ (.bool _)) (by simp [AV.names])
  · rename_i z hv
    simp only [Option.some.injEq] at h1; subst h1
    rw [hv] at g1
    obtain ⟨ad, n, c, hs⟩ : ∃ (ad : Option Addr) (n c : Nat), a.eval x = .slice ad n c := by
      generalize a.eval x = vv at g1
      cases g1 with
      | p _ _ h => cases h with
        | sl z es a n cap ad f hn hcap hz ha hc h => exact ⟨a, n, cap, rfl⟩
    exact OpOK.pure s (v := .bool ad.isNone) (key _ _ _ hs) (.ub _) (by simp [AV.names])
  · rename_i z hv
    simp only [Option.some.injEq] at h1; subst h1
    rw [hv] at g1
    obtain ⟨ad, n, c, hs⟩ : ∃ (ad : Option Addr) (n c : Nat), a.eval x = .slice ad n c := by
      generalize a.eval x = vv at g1
      cases g1 with
      | nils z a => exact ⟨a, 0, 0, rfl⟩
    exact OpOK.pure s (v := .bool ad.isNone) (key _ _ _ hs) (.ub _) (by simp [AV.names])
  · cases h1
end
end Go.Ab
