/- A part of the proof (an executor, and what it computes). -/
import Derived.Test.YtmnjnpgmenigiaaGreatBf780caaf65
set_option linter.all false
/-! A range over slices.Backward of whole numbers: the statement. -/
namespace Go.Ab
open Go

def it0 : List SOper := [{ dst := some 4, op := .load false 1 (.t 1) }, { dst := some 5, op := .len false (.t 4) }, { dst := some 6, op := .bin .sub (.t 5) (.c (.int .i64 1)) }, { dst := some 3, op := .mv (.t 6) }]
def it1 : List SOper := [{ dst := some 7, op := .mv (.t 3) }, { dst := some 8, op := .bin .geq (.t 7) (.c (.int .i64 0)) }]
def it3 : List SOper := [{ dst := some 11, op := .mv (.t 0) }, { dst := some 12, op := .mv (.t 3) }, { dst := some 13, op := .load false 1 (.t 1) }, { dst := some 14, op := .mv (.t 3) }, { dst := some 15, op := .iaddr 1 (.t 13) (.t 14) }, { dst := some 16, op := .load false 1 (.t 15) }]
def it7 : List SOper := [{ dst := some 18, op := .un .not (.t 17) }]
def it2 : List SOper := [{ dst := some 9, op := .mv (.t 3) }, { dst := some 10, op := .bin .sub (.t 9) (.c (.int .i64 1)) }, { dst := some 3, op := .mv (.t 10) }]
/-- The operations k, k + 1, .. agree. -/
def preL (P : Program) (idm : FuncId → FuncId) (ops : Array Go.Oper) : Nat → List SOper → Bool
  | _, [] => true
  | k, s :: r => (match ops[k]? with
    | some o => operL P idm 19 ops o s && noDef o.op
    | none => false) && preL P idm ops (k + 1) r
theorem preL_get {P : Program} {idm : FuncId → FuncId} {ops : Array Go.Oper} : ∀ {l : List SOper} {k : Nat}, preL P idm ops k l = true → ∀ (j : Nat) s, l[j]? = some s → ∃ o, ops[k + j]? = some o ∧ operL P idm 19 ops o s = true ∧ noDef o.op = true
  | [], k, _, j, s, h => by simp at h
  | s0 :: r, k, h, j, s, hs => by
    simp only [preL, Bool.and_eq_true] at h
    obtain ⟨h1, h2⟩ := h
    cases j with
    | zero =>
      simp only [List.getElem?_cons_zero, Option.some.injEq] at hs
      subst hs
      split at h1
      · rename_i o ho
        simp only [Bool.and_eq_true] at h1
        exact ⟨o, by simpa using ho, h1.1, h1.2⟩
      · cases h1
    | succ j =>
      obtain ⟨o, g1, g2⟩ := preL_get h2 j s (by simpa using hs)
      exact ⟨o, by rw [show k + (j + 1) = k + 1 + j by omega]; exact g1, g2⟩
/-- The call of yield. -/
def yldL (ops : Array Go.Oper) : Bool :=
  match ops[6]? with
  | some o => o.dst == some 17 && o.guard == none && (match o.op with
    | .call c => (match c.callee, c.args.toList with
      | .value (.tmp 11), [.tmp 12, .tmp 16] => true
      | _, _ => false)
    | _ => false)
  | none => false
def isDefer : Op → Bool
  | .defer _ => true
  | _ => false
def backL (P : Program) (idm : FuncId → FuncId) (g : FuncId) : Bool :=
  match P.funcs[idm g]? with
  | some fn => (match fn.body with
    | some (.seq (.region _ o0 false) (.block 0 (.loop (.seq (.seq (.region _ o1 false) (.cond (.tmp 8) .skip (.exit 0))) (.seq (.block 1 (.seq (.region _ o3 false) (.cond (.tmp 18) .ret .skip))) (.region _ o2 false)))))) =>
      preL P idm o0 0 it0 && preL P idm o1 0 it1 && preL P idm o2 0 it2 && preL P idm o3 0 it3 && preL P idm o3 7 it7 && yldL o3 &&
        o0.size == 4 && o1.size == 2 && o2.size == 3 && o3.size == 8 && o0.all (fun o => !isDefer o.op) && o1.all (fun o => !isDefer o.op) && o2.all (fun o => !isDefer o.op) && o3.all (fun o => !isDefer o.op)
    | _ => false) && decide (fn.name ≠ "runtime.NumGoroutine") && fn.ntmps == 19 && fn.results.isEmpty
  | none => false
theorem noDefer_of {ops : Array Go.Oper} (h : ops.all (fun o => !isDefer o.op) = true) : ∀ (i : Nat) (o : Go.Oper), ops[i]? = some o → ∀ c, o.op ≠ .defer c := by
  intro i o ho c hc
  have hm := Array.mem_of_getElem? ho
  have := Array.all_eq_true'.1 h o hm
  rw [hc] at this
  simp [isDefer] at this

/-! ### What the pieces do -/
def itT (l : Nat) (k : Int) : Tm := [(0, .yld l), (1, .ptr (.ext 0) 0), (3, .p (.int .i64 k))]
abbrev noCF : CF := fun _ _ _ => none
theorem run0 (zs : List Int) (l : Nat) (h : zs.length ≤ most) : opsX noCF (fun _ => false) 0 0 it0 ⟨[(0, .yld l), (1, .ptr (.ext 0) 0)], itH zs⟩ = some ⟨(3, .p (.int .i64 ((zs.length : Int) - 1))) :: (6, .p (.int .i64 ((zs.length : Int) - 1))) :: (5, .p (.int .i64 zs.length)) :: (4, .p (.sl 1 (zs.map (.int .i64)))) :: [(0, .yld l), (1, .ptr (.ext 0) 0)], itH zs⟩ := by
  have hw : IntKind.i64.wrap ((zs.length : Int) - 1) = (zs.length : Int) - 1 := by
    unfold most at h
    simp [IntKind.wrap, IntKind.bits, IntKind.signed]
    omega
  simp [opsX, it0, operX, wantedG, obind, opD, ev, tget, loadD, itH, hget, boxO, partA, putD, binP, hw]
theorem run1 (zs : List Int) (l : Nat) (k : Int) : opsX noCF (fun _ => false) 0 0 it1 ⟨itT l k, itH zs⟩ = some ⟨(8, .p (.bool (decide (0 ≤ k)))) :: (7, .p (.int .i64 k)) :: itT l k, itH zs⟩ := by
  simp [opsX, it1, operX, wantedG, obind, opD, ev, tget, itT, putD, binP]
theorem run3 (zs : List Int) (l k : Nat) (z : Int) (h : zs[k]? = some z) : ∃ T', opsX noCF (fun _ => false) 0 0 it3 ⟨itT l k, itH zs⟩ = some ⟨T', itH zs⟩ ∧ tget T' 0 = .yld l ∧ tget T' 1 = .ptr (.ext 0) 0 ∧ tget T' 3 = .p (.int .i64 k) ∧ tget T' 11 = .yld l ∧ tget T' 12 = .p (.int .i64 k) ∧ tget T' 16 = .p (.int .i64 z) := by
  have h2 : (zs.map (PV.int .i64))[k]? = some (.int .i64 z) := by simp [h]
  refine ⟨_, by simp [opsX, it3, operX, wantedG, obind, opD, ev, tget, loadD, itH, hget, boxO, partA, partP, putD, itT, iaddrD, h, PV.cells]; rfl, ?_⟩
  simp [tget]
theorem run7 (zs : List Int) (l : Nat) (k : Int) (c : Bool) : opsX noCF (fun _ => false) 0 7 it7 ⟨(17, .p (.bool c)) :: itT l k, itH zs⟩ = some ⟨(18, .p (.bool !c)) :: (17, .p (.bool c)) :: itT l k, itH zs⟩ := by
  simp [opsX, it7, operX, wantedG, obind, opD, ev, tget, itT, putD, unP]
theorem run2 (zs : List Int) (l k : Nat) (h : k ≤ most) : opsX noCF (fun _ => false) 0 0 it2 ⟨itT l k, itH zs⟩ = some ⟨(3, .p (.int .i64 ((k : Int) - 1))) :: (10, .p (.int .i64 ((k : Int) - 1))) :: (9, .p (.int .i64 k)) :: itT l k, itH zs⟩ := by
  have hw : IntKind.i64.wrap ((k : Int) - 1) = (k : Int) - 1 := by
    unfold most at h
    simp [IntKind.wrap, IntKind.bits, IntKind.signed]
    omega
  simp [opsX, it2, operX, wantedG, obind, opD, ev, tget, itT, putD, binP, hw]

theorem intsOf_some : ∀ {es : List PV} {zs : List Int}, intsOf es = some zs → es = zs.map (.int .i64)
  | [], zs, h => by simp only [intsOf, Option.some.injEq] at h; subst h; rfl
  | e :: r, zs, h => by
    cases e with
    | int k n => cases k with
      | i64 =>
        simp only [intsOf] at h
        cases hr : intsOf r with
        | none => simp [hr] at h
        | some zs' =>
          simp only [hr, Option.some.injEq] at h
          subst h
          rw [intsOf_some hr]; rfl
      | _ => simp [intsOf] at h
    | _ => simp [intsOf] at h
theorem capAt_some {H : Hp} {y : Nm} {zs : List Int} (h : capAt H y = some zs) : hget H y = some (boxO zs) := by
  unfold capAt at h
  split at h
  · rename_i es h1
    rw [h1, intsOf_some h]; rfl
  · cases h

section
variable {P : Program} {idm : FuncId → FuncId} {N : Nat} {m0 : NMap} {w0 : World} {W0 : Nat → Prop} {H0 : Hp} {T : Tm} {H : Hp} {a : Act} {y : Nm} {zs : List Int} {b l : Nat} {rc : Loop}

theorem it_reg {id : Nat} {ops : Array Go.Oper} {sl : List SOper} {d : Nat} {Q : Exit → Act → World → Prop} {Ti T' T2 : Tm} (hl : preL P idm ops 0 sl = true) (hsz : ops.size = sl.length) (hnd : ops.all (fun o => !isDefer o.op) = true)
    (hx : opsX noCF (fun _ => false) 0 0 sl ⟨Ti, itH zs⟩ = some ⟨T', itH zs⟩) (hT : ∀ i, tget T2 i = .undef ∨ tget T2 i = tget T' i) (hs : ∀ i, simp1 (tget T2 i) = true)
    {ai : Act} {w : World} (J : ItJ idm N m0 w0 W0 H0 T H a y zs b l rc Ti ai w) (hQ : ∀ a' w', ItJ idm N m0 w0 W0 H0 T H a y zs b l rc T2 a' w' → Q .normal a' w') : (Code.region id ops false).wpIn (rdF none) d P Q ai w := by
  refine wpIn_region ?_
  rw [List.range_eq_range', hsz, ← List.append_nil (List.range' 0 sl.length)]
  exact it_pre (preL_get hl) (noDefer_of hnd) hx hT hs J fun a' w' J' => hQ a' w' J'

/-- The call of yield, and what it is answered. -/
theorem it_yield {id : Nat} {ops : Array Go.Oper} {d k : Nat} {z : Int} {Q : Exit → Act → World → Prop} (h3 : preL P idm ops 0 it3 = true) (h7 : preL P idm ops 7 it7 = true) (hy : yldL ops = true) (hsz : ops.size = 8) (hnd : ops.all (fun o => !isDefer o.op) = true)
    {ai : Act} {w : World} (J : ItJ idm N m0 w0 W0 H0 T H a y zs b l rc (itT l k) ai w) (hz : zs[k]? = some z) (hpz : rc.params.size = 2) {H' : Hp} {rc' : Loop} {c : Bool} (hbox : hget H' y = some (boxO zs))
    (round : ∀ w', OJ idm N m0 w0 W0 H0 T H a y b l rc w' → RoundIn (rdF none) (d - 1) P l rc.fn ((rc.params.zip #[Value.int .i64 k, Value.int .i64 z]).foldl (fun t x => t.setIfInBounds x.1 x.2) rc.tmps) rc.assign rc.body w' fun e1 w3 =>
      e1 = .returned (.bool c) ∧ OJ idm N m0 w0 W0 H0 T H' a y b l rc' w3)
    (hQ : ∀ a' w', ItJ idm N m0 w0 W0 H0 T H' a y zs b l rc' ((18, .p (.bool !c)) :: itT l k) a' w' → Q .normal a' w') : (Code.region id ops false).wpIn (rdF none) d P Q ai w := by
  refine wpIn_region ?_
  rw [List.range_eq_range', hsz, show List.range' 0 8 = List.range' 0 it3.length ++ [6, 7] from rfl]
  obtain ⟨T', hx, t0, t1, t3, t11, t12, t16⟩ := run3 zs l k z hz
  have hnd' := noDefer_of hnd
  refine it_pre (T2 := (11, .yld l) :: (12, .p (.int .i64 k)) :: (16, .p (.int .i64 z)) :: itT l k) (preL_get h3) hnd' hx ?_ ?_ J fun a1 w1 J1 => ?_
  · intro i
    simp only [itT, tget]
    repeat' split
    all_goals first | (subst_vars; simp [t0, t1, t3, t11, t12, t16]; done) | simp
  · intro i
    simp only [itT, tget]
    repeat' split
    all_goals rfl
  · -- the call
    unfold yldL at hy
    cases ho : ops[6]? with
    | none => simp [ho] at hy
    | some o =>
      simp only [ho, Bool.and_eq_true, beq_iff_eq] at hy
      obtain ⟨⟨y1, y2⟩, y3⟩ := hy
      split at y3
      · rename_i cl hop
        split at y3
        · rename_i hc hargs
          rw [wpOpsIn]
          simp only [ho]
          have hw : Region.wanted o (yielded ops a1.tmps) = true := by
            have : o.guard = none := by simpa using y2
            simp [Region.wanted, this]
          rw [if_pos hw]
          have v11 : a1.eval (.tmp 11) = .func (.yield l) #[] #[] := J1.v 11
          have v12 : a1.eval (.tmp 12) = .int .i64 k := J1.v 12
          have v16 : a1.eval (.tmp 16) = .int .i64 z := J1.v 16
          have hargs' : cl.args = #[.tmp 12, .tmp 16] := by
            have := congrArg List.toArray hargs
            simpa using this
          refine ⟨fun _ _ => trivial, ?_⟩
          rw [Oper.semAt_eq _ _ _ (hnd' 6 o ho)]
          have hrun : (execOp a1.eval o).run P w1 = .ok (.round l rc.fn ((rc.params.zip #[Value.int .i64 k, Value.int .i64 z]).foldl (fun t x => t.setIfInBounds x.1 x.2) rc.tmps) rc.assign rc.body) w1 := by
            have hy := run_yield (P := P) (args := #[Value.int .i64 k, Value.int .i64 z]) J1.o.lp (by simp [hpz])
            unfold execOp
            simp only [hop, resolve, hc, hargs', v11, Sem.run_bind]
            simp [Deferred.ofValue, invoke, v12, v16, hy]
          rw [hrun]
          refine ⟨fun h => by simp at h, (round w1 J1.o).mono fun e w3 he => ?_⟩
          obtain ⟨rfl, J3⟩ := he
          -- the answer
          have J4 : ItJ idm N m0 w0 W0 H0 T H' a y zs b l rc' ((17, .p (.bool c)) :: itT l k) (a1.put o.dst (.bool c)) w3 := by
            have hd17 : o.dst = some 17 := by simpa using y1
            rw [hd17]
            have J1' : ItJ idm N m0 w0 W0 H0 T H a y zs b l rc (itT l k) a1 w1 := J1.less fun i => by
              by_cases h1 : 11 = i
              · subst h1; exact .inl rfl
              · by_cases h2 : 12 = i
                · subst h2; exact .inl rfl
                · by_cases h3 : 16 = i
                  · subst h3; exact .inl rfl
                  · exact .inr (by simp [tget, h1, h2, h3])
            refine ⟨J3, J1.d, by rw [Act.put_size]; exact J1.sz, hbox, fun i => ?_⟩
            rw [Act.put_get _ _ _ _ (by rw [J1.sz]; decide)]
            by_cases hi : 17 = i
            · subst hi; rw [if_pos rfl]; rfl
            · rw [if_neg hi, show tget ((17, AV.p (.bool c)) :: itT l k) i = tget (itT l k) i by simp [tget, hi]]
              exact J1'.v i
          show wpOpsIn (rdF none) d P ops Q (List.range' 7 it7.length ++ []) (a1.put o.dst (.bool c)) w3
          refine it_pre (T2 := (18, .p (.bool !c)) :: itT l k) (preL_get h7) hnd' (run7 zs l k c) ?_ ?_ J4 fun a' w' J' => hQ a' w' J'
          · intro i
            by_cases h1 : 18 = i
            · subst h1; exact .inr rfl
            · by_cases h2 : 17 = i
              · subst h2; exact .inl rfl
              · exact .inr (by simp [tget, h1, h2])
          · intro i
            simp only [itT, tget]
            repeat' split
            all_goals rfl
        · cases y3
      · cases y3

theorem opdL_fn {idm : FuncId → FuncId} {x : Operand} {y0 : Opd} (h : opdL idm x y0 = true) {m : NMap} {w : World} {W : Nat → Prop} {st : St} {a : Act} (s : Sim idm N m w W st a) {g : FuncId} (he : ev st.T y0 = .fn g [] [.ptr y 0]) :
    ∃ b, (m y).base = some b ∧ a.eval x = .func (.func (idm g)) #[] #[.pointer (some ⟨b, 0, none⟩)] := by
  obtain ⟨h1, _⟩ := opdL_rep h s
  rw [he] at h1
  generalize a.eval x = u at h1
  cases h1 with
  | fn _ _ _ va vb ha hb g1 g2 =>
    have e1 : va = #[] := Array.eq_empty_of_size_eq_zero (by simpa using ha)
    subst e1
    have hb1 : 0 < vb.size := by rw [hb]; exact Nat.one_pos
    have hv := g2 0 (.ptr y 0) (vb[0]'hb1) rfl (Array.getElem?_eq_getElem hb1)
    generalize hv0 : vb[0]'hb1 = v0 at hv
    cases hv with
    | ptr _ _ b hbb =>
      refine ⟨b, hbb, ?_⟩
      have : vb = #[.pointer (some ⟨b, 0, none⟩)] := by
        apply Array.ext
        · simpa using hb
        · intro i h1 h2
          have : i = 0 := by simp at h2; omega
          subst this
          simpa using hv0
      rw [this]

theorem back_ok {cf : CF} {raw : FuncId → Bool} (k d : Nat) {f : Operand} {ps : Array Tmp} {A B : Code} {g : FuncId} {x : Opd} {p q : Nat} {SA SB : SCode}
    (l1 : opdL idm f x = true) (l2 : ps.toList = [p, q]) (hp : p < N) (hq : q < N) (l10 : backL P idm g = true)
    (ihA : ∀ (l d n : Nat) (m0 : NMap) (w0 : World) (W0 : Nat → Prop) (H0 : Hp) (st st' : St) (e : Ex) (a : Act) (w : World) (Q : Exit → Act → World → Prop), sexec cf raw n k SA st = some (e, st') → FI idm N m0 w0 W0 H0 st a w → (∀ a w, FI idm N m0 w0 W0 H0 st' a w → Q (exOf e) a w) → A.wpIn (rdF (some l)) d P Q a w)
    (ihB : ∀ (l d n : Nat) (m0 : NMap) (w0 : World) (W0 : Nat → Prop) (H0 : Hp) (st st' : St) (e : Ex) (a : Act) (w : World) (Q : Exit → Act → World → Prop), sexec cf raw n k SB st = some (e, st') → FI idm N m0 w0 W0 H0 st a w → (∀ a w, FI idm N m0 w0 W0 H0 st' a w → Q (exOf e) a w) → B.wpIn (rdF (some l)) d P Q a w)
    {st st' : St} {e : Ex} {a : Act} {w : World} {Q : Exit → Act → World → Prop} (h : backX (fun n st => nrmX (sexec cf raw n k SA st) fun st => sexec cf raw n k SB st) g (ev st.T x) p q st.T st.H = some (e, st')) (hfi : FI idm N m0 w0 W0 H0 st a w)
    (hQ : ∀ a w, FI idm N m0 w0 W0 H0 st' a w → Q (exOf e) a w) : (Code.rangeFunc f ps A B).wpIn (rdF none) d P Q a w := by
  have hps : ps = #[p, q] := by
    have := congrArg List.toArray l2
    simpa using this
  subst hps
  unfold backX at h
  cases hcap : capOf g st.H (ev st.T x) with
  | none => simp [hcap, obind_none] at h
  | some yz =>
  obtain ⟨y, zs⟩ := yz
  simp only [hcap, obind_some] at h
  cases hre : reach st.H 64 (namesT st.T) [] with
  | none => simp [hre, obind_none] at h
  | some ns =>
  simp only [hre, obind_some] at h
  obtain ⟨F, hF⟩ : ∃ F, F = roundX (fun st => nrmX (sexec cf raw ns.length k SA st) fun st => sexec cf raw ns.length k SB st) ns st.T p q := ⟨_, rfl⟩
  rw [← hF] at h
  cases hro : roundsX F y zs zs.length st.H with
  | none => simp [hro, obind_none] at h
  | some rr =>
  obtain ⟨e', Hf⟩ := rr
  simp only [hro, obind_some, Option.some.injEq, Prod.mk.injEq] at h
  obtain ⟨rfl, rfl⟩ := h
  -- the value that is ranged over
  obtain ⟨hev, hat, hlen⟩ : ev st.T x = .fn g [] [.ptr y 0] ∧ capAt st.H y = some zs ∧ zs.length ≤ most := by
    unfold capOf at hcap
    split at hcap
    · rename_i g' y' hv
      split at hcap
      · rename_i hg
        subst hg
        split at hcap
        · rename_i zs' hz
          split at hcap
          · rename_i hle
            simp only [Option.some.injEq, Prod.mk.injEq] at hcap
            obtain ⟨rfl, rfl⟩ := hcap
            exact ⟨hv, hz, hle⟩
          · cases hcap
        · cases hcap
      · cases hcap
    · cases hcap
  obtain ⟨mrk, m, W, s, si⟩ := hfi
  obtain ⟨b, hb, hval⟩ := opdL_fn l1 s hev
  unfold backL at l10
  cases hP : P.funcs[idm g]? with
  | none => simp [hP] at l10
  | some fn =>
  simp only [hP, Bool.and_eq_true, decide_eq_true_eq, beq_iff_eq] at l10
  obtain ⟨⟨⟨hbody, hname⟩, hnt⟩, hres⟩ := l10
  split at hbody
  · rename_i i0 o0 i1 o1 i3 o3 i2 o2 hb0
    simp only [Bool.and_eq_true, beq_iff_eq] at hbody
    obtain ⟨⟨⟨⟨⟨⟨⟨⟨⟨⟨⟨⟨⟨b0, b1⟩, b2⟩, b3⟩, b7⟩, by_⟩, z0⟩, z1⟩, z2⟩, z3⟩, n0⟩, n1⟩, n2⟩, n3⟩ := hbody
    refine wpIn_rangeFunc fun fnid _ => ?_
    obtain ⟨W1, hW1⟩ : ∃ W1, W1 = (w.alloc (.deferred (some []))).alloc (.loop (rcR fnid a p q A B w.heap.size)) := ⟨_, rfl⟩
    obtain ⟨a', ha'⟩ : ∃ a' : Act, a' = { a with defers := [{ target := .collected w.heap.size, args := #[] }] ++ a.defers } := ⟨_, rfl⟩
    have hent : ∀ (args : Array Value) (w : World), (callFunc (idm g) args).run P w = .ok (.enter (idm g) args) w := fun args w => by simp [callFunc, hP, hb0, hname]
    have qW : ∀ B, Quiet B w W1 := fun B => by rw [hW1]; exact (Quiet.alloc B _ _).trans (Quiet.alloc B _ _)
    have hW0 : w0.heap.size ≤ w.heap.size := si.tr.size
    have hD1 : W1.heap[w.heap.size]? = some (Obj.deferred (some [])) := by
      rw [hW1, heap_alloc, Array.getElem?_push_lt (by simp [heap_alloc])]
      simp [heap_alloc]
    have hL1 : W1.heap[w.heap.size + 1]? = some (Obj.loop (rcR fnid a' p q A B w.heap.size)) := by
      rw [hW1, ha']
      have := World.alloc_heap_new (w.alloc (.deferred (some []))) (.loop (rcR fnid a p q A B w.heap.size))
      rw [show (w.alloc (.deferred (some []))).heap.size = w.heap.size + 1 by simp [heap_alloc]] at this
      exact this
    refine ⟨w.heap.size + 1, [{ target := .collected w.heap.size, args := #[] }], W1, { target := .fn (.func (idm g)) #[.pointer (some ⟨b, 0, none⟩)], args := #[.func (.yield (w.heap.size + 1)) #[] #[]] }, W1, idm g,
      #[.func (.yield (w.heap.size + 1)) #[] #[]] ++ #[.pointer (some ⟨b, 0, none⟩)], W1, ?_, ?_, fun _ _ => trivial, ?_, fun h => by simp at h, ?_⟩
    · rw [hW1]; exact run_enterLoop_outer _ _ _ _ _
    · simp only [resolve, hval]
      simp [Deferred.ofValue]
      rfl
    · simp [invoke, hent]
    · rw [← ha']
      refine callsIn_of_wp hP hb0 trivial ?_
      -- the iterator
      have T1 : ∀ i, Rep idm m W1 W (tget st.T i) (a'.tmps.getD i undef) ∧ ∀ x ∈ (tget st.T i).names, (hget st.H x).isSome = true := by
        intro i
        rw [show a'.tmps = a.tmps by rw [ha']]
        exact ⟨(s.t i).quiet (qW 0), fun x hx => s.ct i x hx⟩
      have J0 : OJ idm N m0 w0 W0 H0 st.T st.H a' y b (w.heap.size + 1) (rcR fnid a' p q A B w.heap.size) W1 := by
        refine ⟨⟨fun dd hdd => ?_, ?_⟩, ⟨m, W, { toSimH := s.toSimH.quiet (qW 0), sz := by rw [ha']; exact s.sz, t := fun i => (T1 i).1, ct := fun i => (T1 i).2 }, si.quiet (qW w0.heap.size) (Nat.le_refl _), hb⟩, hL1, by omega⟩
        · rw [ha'] at hdd
          rcases List.mem_cons.1 hdd with rfl | hdd
          · exact ⟨_, rfl, hW0, hD1⟩
          · obtain ⟨D, g1, g2, g3⟩ := mrk.all dd hdd
            refine ⟨D, g1, g2, ?_⟩
            have hlt := (Array.getElem?_eq_some_iff.1 g3).1
            rw [hW1, heap_alloc, heap_alloc, Array.getElem?_push_lt (by simp; omega), Array.getElem_push_lt hlt, ← g3, Array.getElem?_eq_getElem hlt]
        · rw [ha']
          refine List.nodup_cons.2 ⟨fun hm => ?_, mrk.nodup⟩
          obtain ⟨D, g1, g2, g3⟩ := mrk.all _ hm
          have hlt := (Array.getElem?_eq_some_iff.1 g3).1
          simp at g1
          omega
      have I0 : ItJ idm N m0 w0 W0 H0 st.T st.H a' y zs b (w.heap.size + 1) (rcR fnid a' p q A B w.heap.size) [(0, .yld (w.heap.size + 1)), (1, .ptr (.ext 0) 0)]
          { tmps := (#[.func (.yield (w.heap.size + 1)) #[] #[]] ++ #[.pointer (some ⟨b, 0, none⟩)]) ++ Array.replicate (fn.ntmps - (#[Value.func (.yield (w.heap.size + 1)) #[] #[]] ++ #[Value.pointer (some ⟨b, 0, none⟩)]).size) undef, defers := [] } W1 := by
        refine ⟨J0, rfl, by simp [hnt], capAt_some hat, fun i => ?_⟩
        simp only [tget]
        split
        · rename_i h; subst h; simp [sv, Array.getD_eq_getD_getElem?, Array.getElem?_append]
        · split
          · rename_i h; subst h; simp [sv, Array.getD_eq_getD_getElem?, Array.getElem?_append]
          · trivial
      -- the end of all
      obtain ⟨R, hR⟩ : ∃ R, R = rangePost (rdF none) d P (w.heap.size + 1) Q a' := ⟨_, rfl⟩
      rw [← hR]
      have hres' : fn.results = #[] := by simpa using hres
      have done : ∀ (ai : Act) (w4 : World) (mode : Exit) (e1 : Ex) (H1 : Hp), (mode = .normal ∨ mode = .ret) → ItJ idm N m0 w0 W0 H0 st.T Hf a' y zs b (w.heap.size + 1) (rcE fnid a' p q A B w.heap.size e') [] ai w4 → bodyPost P fn R mode ai w4 := by
        intro ai w4 mode _ _ hmode J4
        have hfin : ∃ v, (results fn ai.tmps).run P w4 = .ok v w4 ∧ R (.returned v) w4 := by
          refine ⟨.tuple #[], by simp [results, hres'], ?_⟩
          rw [hR]
          have hend := run_endLoop (P := P) J4.o.lp (by simp [rcE]; split <;> simp)
          refine ⟨_, _, hend, ?_⟩
          have J5 := J4.o.put { rcE fnid a' p q A B w.heap.size e' with state := .exhausted }
          obtain ⟨m5, W5, s5, si5, _⟩ := J5.sim
          have fi5 : FI idm N m0 w0 W0 H0 ⟨st.T, Hf⟩ a' _ := ⟨J5.mrk, m5, W5, s5, si5⟩
          cases e' with
          | nrm => exact hQ _ _ fi5
          | ex id => exact wpIn_exit (hQ _ _ fi5)
          | ret => exact wpIn_ret (hQ _ _ fi5)
        rcases hmode with rfl | rfl
        · exact ⟨J4.d, hfin⟩
        · exact ⟨J4.d, hfin⟩
      refine wpIn_seq (it_reg (T2 := itT (w.heap.size + 1) ((zs.length : Int) - 1)) b0 z0 n0 (run0 zs _ hlen) ?_ ?_ I0 fun a1 w1 J1 => ?_)
      · intro i
        by_cases h1 : 0 = i
        · subst h1; exact .inr rfl
        · by_cases h2 : 1 = i
          · subst h2; exact .inr rfl
          · by_cases h3 : 3 = i
            · subst h3; exact .inr rfl
            · exact .inl (by simp [itT, tget, h1, h2, h3])
      · intro i
        simp only [itT, tget]
        repeat' split
        all_goals rfl
      · refine wpIn_block (wpIn_loop (fun ai wi => ∃ (kk : Nat) (H' : Hp), kk ≤ zs.length ∧ ItJ idm N m0 w0 W0 H0 st.T H' a' y zs b (w.heap.size + 1) (rcR fnid a' p q A B w.heap.size) (itT (w.heap.size + 1) ((kk : Int) - 1)) ai wi ∧ roundsX F y zs kk H' = some (e', Hf))
          (fun ai _ => match ai.tmps.getD 3 undef with | .int _ n => (n + 1).toNat | _ => 0) ⟨zs.length, st.H, Nat.le_refl _, J1, hro⟩ ?_)
        rintro ai wi ⟨kk, H', hkk, J2, hro'⟩
        have hmu : (match ai.tmps.getD 3 undef with | .int _ n => (n + 1).toNat | _ => 0) = kk := by
          have : ai.tmps.getD 3 undef = .int .i64 ((kk : Int) - 1) := J2.v 3
          rw [this]
          simp
        rw [hmu]
        refine wpIn_seq (wpIn_seq (it_reg (T2 := (8, .p (.bool (decide (0 ≤ ((kk : Int) - 1))))) :: itT (w.heap.size + 1) ((kk : Int) - 1)) b1 z1 n1 (run1 zs _ _) ?_ ?_ J2 fun a2 w2 J3 => ?_))
        · intro i
          by_cases h1 : 8 = i
          · subst h1; exact .inr rfl
          · by_cases h2 : 7 = i
            · subst h2; exact .inl rfl
            · exact .inr (by simp [tget, h1, h2])
        · intro i
          simp only [itT, tget]
          repeat' split
          all_goals rfl
        · have v8 : a2.eval (.tmp 8) = .bool (decide (0 ≤ ((kk : Int) - 1))) := J3.v 8
          have J3' := J3.less (T2 := itT (w.heap.size + 1) ((kk : Int) - 1)) fun i => by
            by_cases h1 : 8 = i
            · subst h1; exact .inl rfl
            · exact .inr (by simp [tget, h1])
          cases kk with
          | zero =>
            refine wpIn_cond_false (by rw [v8]; simp) (wpIn_exit ?_)
            simp only [roundsX, Option.some.injEq, Prod.mk.injEq] at hro'
            obtain ⟨rfl, rfl⟩ := hro'
            exact done a2 w2 .normal .nrm [] (.inl rfl) (by rw [rcE_nrm]; exact J3'.less fun i => .inl rfl)
          | succ kk =>
            refine wpIn_cond_true (by rw [v8]; simp) (wpIn_skip ?_)
            have e1 : ((kk + 1 : Nat) : Int) - 1 = (kk : Int) := by omega
            rw [e1] at J3'
            simp only [roundsX] at hro'
            have hz : zs[kk]? = some zs[kk] := List.getElem?_eq_getElem (by omega)
            rw [hz, obind_some] at hro'
            cases hr1 : F kk zs[kk] H' with
            | none => simp [hr1, obind_none] at hro'
            | some r1 =>
              obtain ⟨e1', H1⟩ := r1
              simp only [hr1, obind_some, nextX] at hro'
              split at hro'
              · rename_i hcap1
                have hround : ∀ w', OJ idm N m0 w0 W0 H0 st.T H' a' y b (w.heap.size + 1) (rcR fnid a' p q A B w.heap.size) w' → RoundIn (rdF none) (d - 1 - 1) P (w.heap.size + 1) fnid ((#[p, q].zip #[Value.int .i64 kk, Value.int .i64 zs[kk]]).foldl (fun t x => t.setIfInBounds x.1 x.2) a'.tmps) A B w' fun e2 w3 =>
                    e2 = .returned (.bool (decide (e1' = .nrm))) ∧ OJ idm N m0 w0 W0 H0 st.T H1 a' y b (w.heap.size + 1) (rcE fnid a' p q A B w.heap.size e1') w3 := fun w' Jw => by
                  rw [hF] at hr1
                  exact round_ok ihA ihB hp hq (reach_nodup hre List.nodup_nil) (by rw [J3'.box]; rfl) Jw hr1
                refine wpIn_seq (wpIn_block (wpIn_seq (it_yield (k := kk) b3 b7 by_ z3 n3 J3' hz rfl (capAt_some hcap1) hround fun a4 w4 J4 => ?_)))
                have v18 : a4.eval (.tmp 18) = .bool (!decide (e1' = .nrm)) := J4.v 18
                have J4' := J4.less (T2 := itT (w.heap.size + 1) (kk : Int)) fun i => by
                  by_cases h1 : 18 = i
                  · subst h1; exact .inl rfl
                  · exact .inr (by simp [tget, h1])
                cases e1' with
                | nrm =>
                  refine wpIn_cond_false (by rw [v18]; simp) (wpIn_skip ?_)
                  rw [rcE_nrm] at J4'
                  refine it_reg (T2 := itT (w.heap.size + 1) ((kk : Int) - 1)) b2 z2 n2 (run2 zs _ kk (by omega)) ?_ ?_ J4' fun a5 w5 J5 => ?_
                  · intro i
                    by_cases h1 : 0 = i
                    · subst h1; exact .inr rfl
                    · by_cases h2 : 1 = i
                      · subst h2; exact .inr rfl
                      · by_cases h3 : 3 = i
                        · subst h3; exact .inr rfl
                        · exact .inl (by simp [itT, tget, h1, h2, h3])
                  · intro i
                    simp only [itT, tget]
                    repeat' split
                    all_goals rfl
                  · refine ⟨⟨kk, H1, by omega, J5, hro'⟩, ?_⟩
                    have : a5.tmps.getD 3 undef = .int .i64 ((kk : Int) - 1) := J5.v 3
                    rw [this]
                    simp
                | ex id =>
                  refine wpIn_cond_true (by rw [v18]; simp) (wpIn_ret ?_)
                  simp only [Option.some.injEq, Prod.mk.injEq] at hro'
                  obtain ⟨rfl, rfl⟩ := hro'
                  exact done a4 w4 .ret .nrm [] (.inr rfl) (J4'.less fun i => .inl rfl)
                | ret =>
                  refine wpIn_cond_true (by rw [v18]; simp) (wpIn_ret ?_)
                  simp only [Option.some.injEq, Prod.mk.injEq] at hro'
                  obtain ⟨rfl, rfl⟩ := hro'
                  exact done a4 w4 .ret .nrm [] (.inr rfl) (J4'.less fun i => .inl rfl)
              · cases hro'
  · cases hbody
end
end Go.Ab

/-! Code. -/
namespace Go.Ab
open Go

section
variable (P : Program) (idm : FuncId → FuncId) (N : Nat)

/-- No ranges over functions. -/
def noBack : SCode → Bool
  | .seq a b => noBack a && noBack b
  | .cond _ a b => noBack a && noBack b
  | .blk _ b => noBack b
  | .loop _ _ b => noBack b
  | .trim _ _ _ _ b => noBack b
  | .rback .. => false
  | _ => true

def codeL : Code → SCode → Bool
  | c, .trim _ _ _ _ b => codeL c b
  | .skip, .skip => true
  | .region _ ops false, .reg _ sops => opersL P idm N ops ops.toList sops
  | .region _ ops true, .draw _ sops pairs => opersL P idm N ops ops.toList sops && drawOk ops sops pairs
  | .seq a b, .seq a' b' => codeL a a' && codeL b b'
  | .cond c a b, .cond c' a' b' => opdL idm c c' && codeL a a' && codeL b b'
  | .block id b, .blk id' b' => id == id' && codeL b b'
  | .loop b, .loop _ _ b' => codeL b b'
  | .exit id, .exit id' => id == id'
  | .ret, .ret => true
  | .rangeFunc f ps a b, .rback g x p q _ _ a' b' => opdL idm f x && ps.toList == [p, q] && decide (p < N) && decide (q < N) && decide (p ≠ q) && codeL a a' && codeL b b' && noBack a' && noBack b' && backL P idm g
  | _, _ => false

end

theorem mem_keepT {T : Tm} : ∀ {kt : List Nat} {i : Nat}, tget (keepT T kt) i = tget T i ∨ tget (keepT T kt) i = .undef
  | [], i => .inr rfl
  | j :: r, i => by
    simp only [keepT, tget]
    split
    · rename_i h; subst h; exact .inl rfl
    · exact mem_keepT
theorem names_tget : ∀ {T : Tm} {i : Nat} {x : Nm}, x ∈ (tget T i).names → x ∈ namesT T
  | [], i, x, h => by simp [tget, AV.names] at h
  | (j, v) :: r, i, x, h => by
    simp only [tget] at h
    simp only [namesT, List.mem_append]
    split at h
    · exact .inl h
    · exact .inr (names_tget h)
theorem names_hget : ∀ {H : Hp} {y x : Nm} {o : AObj}, hget H y = some o → x ∈ o.names → x ∈ namesH H
  | [], y, x, o, h, _ => by simp [hget] at h
  | (z, q) :: r, y, x, o, h, hx => by
    simp only [hget] at h
    split at h
    · subst h; simp only [namesH, List.mem_append]; exact .inl hx
    · have := names_hget h hx
      cases q with
      | none => simpa [namesH] using this
      | some q => simp only [namesH, List.mem_append]; exact .inr this
theorem hget_exts {H : Hp} : ∀ {n k : Nat} {x : Nm} {o : AObj}, hget (exts H k n) x = some o → hget H x = some o
  | 0, k, x, o, h => by simp [exts, hget] at h
  | n + 1, k, x, o, h => by
    simp only [exts, hget] at h
    split at h
    · rename_i e; subst e; exact h
    · exact hget_exts h
theorem hget_keepH {H : Hp} : ∀ {ns : List Nm} {x : Nm} {o : AObj}, hget (keepH H ns) x = some o → hget H x = some o
  | [], x, o, h => by simp [keepH, hget] at h
  | y :: r, x, o, h => by
    simp only [keepH, hget] at h
    split at h
    · rename_i e; subst e; exact h
    · exact hget_keepH h
theorem allIn_spec {H : Hp} : ∀ {ns : List Nm}, allIn H ns = true → ∀ x ∈ ns, (hget H x).isSome = true
  | [], _, x, h => by cases h
  | y :: r, ha, x, h => by
    simp only [allIn, Bool.and_eq_true] at ha
    rcases List.mem_cons.1 h with rfl | h
    · exact ha.1
    · exact allIn_spec ha.2 x h

section
variable {P : Program} {idm : FuncId → FuncId} {N : Nat} {m0 : NMap} {w0 : World} {W0 : Nat → Prop} {H0 : Hp} {cf : CF} {raw : FuncId → Bool} {n : Nat}

theorem cutX_ok {kt : List Nat} {kh : List Nm} {st st' : St} (h : cutX n kt kh st = some st') {a : Act} {w : World} (hfi : FI idm N m0 w0 W0 H0 st a w) : FI idm N m0 w0 W0 H0 st' a w := by
  simp only [cutX] at h
  split at h
  · rename_i hc
    simp only [Option.some.injEq] at h
    subst h
    simp only [Bool.and_eq_true] at hc
    obtain ⟨h0, m, W, s, si⟩ := hfi
    have hsub : ∀ x o, hget (exts st.H 0 n ++ keepH st.H kh) x = some o → hget st.H x = some o := fun x o h => by
      rw [hget_append] at h
      split at h
      · exact hget_exts h
      · exact hget_keepH h
    refine ⟨h0, m, W, { h := fun x o hx => s.h x o (hsub x o hx), sep := fun x y o o' b hx hy => s.sep x y o o' b (hsub x o hx) (hsub y o' hy), ch := fun y o x hy hx => allIn_spec hc.2 x (names_hget hy hx), lt := s.lt, sz := s.sz, t := fun i => ?_, ct := fun i x hx => allIn_spec hc.1 x (names_tget hx) }, si.less hsub⟩
    rcases mem_keepT (T := st.T) (kt := kt) (i := i) with e | e
    · show Rep idm m w W (tget (keepT st.T kt) i) _
      rw [e]; exact s.t i
    · show Rep idm m w W (tget (keepT st.T kt) i) _
      rw [e]; exact .undef _
  · cases h

theorem least_of {p : Nat → Prop} (h : ∃ n, p n) : ∃ n, p n ∧ ∀ m, p m → n ≤ m := by
  obtain ⟨n, hn⟩ := h
  induction n using Nat.strongRecOn with
  | _ n ih =>
    by_cases hx : ∃ m, m < n ∧ p m
    · obtain ⟨m, h1, h2⟩ := hx; exact ih m h1 h2
    · exact ⟨n, hn, fun m hm => by
        rcases Nat.lt_or_ge m n with h | h
        · exact absurd ⟨m, h, hm⟩ hx
        · exact h⟩

open Classical in
noncomputable def least (p : Nat → Prop) : Nat := if h : ∃ n, p n then Classical.choose (least_of h) else 0
theorem least_spec {p : Nat → Prop} (h : ∃ n, p n) : p (least p) ∧ ∀ m, p m → least p ≤ m := by
  unfold least
  rw [dif_pos h]
  exact Classical.choose_spec (least_of h)

theorem opL_defer {c : Call} {s : SOp} : opL P idm (.defer c) s = false := by cases s <;> rfl
theorem noDefer {ops : Array Go.Oper} {sops : List SOper} (hl : opersL P idm N ops ops.toList sops = true) : ∀ (i : Nat) (o : Go.Oper), ops[i]? = some o → ∀ c, o.op ≠ .defer c := by
  intro i o ho c hc
  obtain ⟨h1, h2⟩ := opersL_get hl
  have hlt := (Array.getElem?_eq_some_iff.1 ho).1
  have hs : i < sops.length := by rw [← h1]; simpa using hlt
  have := h2 i o sops[i] (by simpa using ho) (List.getElem?_eq_getElem hs)
  simp only [operL, Bool.and_eq_true] at this
  rw [hc, opL_defer] at this
  cases this.2

theorem sexec_in (cfok : CFOK P idm cf) (k : Nat) : ∀ (c' : SCode) (rd : Option Nat) (d n : Nat) (m0 : NMap) (w0 : World) (W0 : Nat → Prop) (H0 : Hp) (c : Code) (st st' : St) (e : Ex) (a : Act) (w : World) (Q : Exit → Act → World → Prop), codeL P idm N c c' = true → (rd.isSome = true → noBack c' = true) → sexec cf raw n k c' st = some (e, st') → FI idm N m0 w0 W0 H0 st a w →
    (∀ a w, FI idm N m0 w0 W0 H0 st' a w → Q (exOf e) a w) → c.wpIn (rdF rd) d P Q a w := by
  intro c'
  induction c' with
  | skip =>
    intro rd d n m0 w0 W0 H0 c st st' e a w Q hl hnb h hfi hQ
    cases c <;> simp [codeL] at hl
    simp only [sexec, Option.some.injEq, Prod.mk.injEq] at h
    obtain ⟨rfl, rfl⟩ := h
    exact wpIn_skip (hQ a w hfi)
  | reg r sops =>
    intro rd d n m0 w0 W0 H0 c st st' e a w Q hl hnb h hfi hQ
    obtain ⟨id, ops, rfl⟩ : ∃ id ops, c = .region id ops false := by
      cases c with
      | region id ops d => cases d with
        | false => exact ⟨id, ops, rfl⟩
        | true => simp [codeL] at hl
      | _ => simp [codeL] at hl
    simp only [codeL] at hl
    simp only [sexec] at h
    cases hx : opsX cf raw r 0 sops st with
    | none => simp [hx, obind_none] at h
    | some st1 =>
      simp only [hx, obind_some, Option.some.injEq, Prod.mk.injEq] at h
      obtain ⟨rfl, rfl⟩ := h
      exact wpIn_mono (wpIn_region (wpOpsIn_of_wpOps (Q := fun e a w => e = .normal ∧ FI idm N m0 w0 W0 H0 st1 a w) (fun a w h => by cases h.1) (noDefer hl) _ _ _ (ops_region_reg cfok hl hx (fun a w h => ⟨rfl, h⟩) hfi))) fun e a w h => h.1 ▸ hQ a w h.2
  | draw r sops pairs =>
    intro rd d n m0 w0 W0 H0 c st st' e a w Q hl hnb h hfi hQ
    obtain ⟨id, ops, rfl⟩ : ∃ id ops, c = .region id ops true := by
      cases c with
      | region id ops d => cases d with
        | true => exact ⟨id, ops, rfl⟩
        | false => simp [codeL] at hl
      | _ => simp [codeL] at hl
    simp only [codeL, Bool.and_eq_true] at hl
    simp only [sexec] at h
    cases hx : drawX cf raw r sops pairs st with
    | none => simp [hx, obind_none] at h
    | some st1 =>
      simp only [hx, obind_some, Option.some.injEq, Prod.mk.injEq] at h
      obtain ⟨rfl, rfl⟩ := h
      exact wpIn_mono (wpIn_region_draw fun t => wpOpsIn_of_wpOps (Q := fun e a w => e = .normal ∧ FI idm N m0 w0 W0 H0 st1 a w) (fun a w h => by cases h.1) (noDefer hl.1) _ _ _ (ops_region_drawn cfok hl.1 hl.2 hx (fun a w h => ⟨rfl, h⟩) hfi t)) fun e a w h => h.1 ▸ hQ a w h.2
  | seq x y ihx ihy =>
    intro rd d n m0 w0 W0 H0 c st st' e a w Q hl hnb h hfi hQ
    cases c <;> simp [codeL] at hl
    simp only [sexec, seqX] at h
    cases hx : sexec cf raw n k x st with
    | none => simp [hx] at h
    | some p =>
      obtain ⟨e1, st1⟩ := p
      simp only [noBack, Bool.and_eq_true] at hnb
      refine wpIn_seq (ihx rd d n _ _ _ _ _ st st1 e1 a w _ hl.1 (fun h => (hnb h).1) hx hfi fun a1 w1 h1 => ?_)
      rw [hx] at h
      cases e1 with
      | nrm => exact ihy rd d n _ _ _ _ _ st1 st' e a1 w1 Q hl.2 (fun h => (hnb h).2) h h1 hQ
      | ex id => simp only [Option.some.injEq, Prod.mk.injEq] at h; obtain ⟨rfl, rfl⟩ := h; exact hQ a1 w1 h1
      | ret => simp only [Option.some.injEq, Prod.mk.injEq] at h; obtain ⟨rfl, rfl⟩ := h; exact hQ a1 w1 h1
  | cond cnd x y ihx ihy =>
    intro rd d n m0 w0 W0 H0 c st st' e a w Q hl hnb h hfi hQ
    cases c <;> simp [codeL] at hl
    simp only [sexec, onB] at h
    split at h
    · rename_i b hb
      obtain ⟨h0, m, W, s, si⟩ := hfi
      obtain ⟨hr, _⟩ := opdL_rep hl.1.1 s
      rw [hb] at hr
      simp only [noBack, Bool.and_eq_true] at hnb
      refine wpIn_cond hr.bool_inv ?_
      cases b with
      | true => simp only [if_true] at h ⊢; exact ihx rd d n _ _ _ _ _ st st' e a w Q hl.1.2 (fun h => (hnb h).1) h ⟨h0, m, W, s, si⟩ hQ
      | false => simp only [Bool.false_eq_true, if_false] at h ⊢; exact ihy rd d n _ _ _ _ _ st st' e a w Q hl.2 (fun h => (hnb h).2) h ⟨h0, m, W, s, si⟩ hQ
    · cases h
  | blk id b ih =>
    intro rd d n m0 w0 W0 H0 c st st' e a w Q hl hnb h hfi hQ
    cases c <;> simp [codeL] at hl
    obtain ⟨rfl, hl⟩ := hl
    simp only [sexec, blkX] at h
    cases hx : sexec cf raw n k b st with
    | none => simp [hx] at h
    | some p =>
      obtain ⟨e1, st1⟩ := p
      refine wpIn_block (ih rd d n _ _ _ _ _ st st1 e1 a w _ hl hnb hx hfi fun a1 w1 h1 => ?_)
      rw [hx] at h
      cases e1 with
      | nrm => simp only [Option.some.injEq, Prod.mk.injEq] at h; obtain ⟨rfl, rfl⟩ := h; exact hQ a1 w1 h1
      | ex id' =>
        simp only [exOf, Exit.inBlock]
        simp only at h
        split at h
        · rename_i hid
          simp only [Option.some.injEq, Prod.mk.injEq] at h
          obtain ⟨rfl, rfl⟩ := h
          rw [if_pos hid]; exact hQ a1 w1 h1
        · rename_i hid
          simp only [Option.some.injEq, Prod.mk.injEq] at h
          obtain ⟨rfl, rfl⟩ := h
          rw [if_neg hid]; exact hQ a1 w1 h1
      | ret => simp only [Option.some.injEq, Prod.mk.injEq] at h; obtain ⟨rfl, rfl⟩ := h; exact hQ a1 w1 h1
  | loop kt kh b ih =>
    intro rd d n m0 w0 W0 H0 c st st' e a w Q hl hnb h hfi hQ
    cases c <;> simp [codeL] at hl
    rename_i body
    simp only [sexec] at h
    have key : ∀ (a : Act) (w : World), (∃ j, ∃ st, loopN (fun st => obind (cutX n kt kh st) fun st => sexec cf raw n k b st) j st = some (e, st') ∧ FI idm N m0 w0 W0 H0 st a w) →
        body.wpIn (rdF rd) d P (Exit.then (fun a' w' => (∃ j, ∃ st, loopN (fun st => obind (cutX n kt kh st) fun st => sexec cf raw n k b st) j st = some (e, st') ∧ FI idm N m0 w0 W0 H0 st a' w') ∧
          least (fun j => ∃ st, loopN (fun st => obind (cutX n kt kh st) fun st => sexec cf raw n k b st) j st = some (e, st') ∧ FI idm N m0 w0 W0 H0 st a' w') <
          least (fun j => ∃ st, loopN (fun st => obind (cutX n kt kh st) fun st => sexec cf raw n k b st) j st = some (e, st') ∧ FI idm N m0 w0 W0 H0 st a w)) Q) a w := by
      intro a w hI
      obtain ⟨⟨st1, h1, h2⟩, _⟩ := least_spec hI
      generalize least (fun j => ∃ st, loopN (fun st => obind (cutX n kt kh st) fun st => sexec cf raw n k b st) j st = some (e, st') ∧ FI idm N m0 w0 W0 H0 st a w) = j at h1
      cases j with
      | zero => simp [loopN] at h1
      | succ j =>
        simp only [loopN] at h1
        cases hc : cutX n kt kh st1 with
        | none => simp [hc, obind_none] at h1
        | some st2 =>
          simp only [hc, obind_some] at h1
          cases hb : sexec cf raw n k b st2 with
          | none => simp [hb] at h1
          | some p =>
            obtain ⟨e1, st3⟩ := p
            refine ih rd d n _ _ _ _ _ st2 st3 e1 a w _ hl hnb hb (cutX_ok hc h2) fun a1 w1 h3 => ?_
            rw [hb] at h1
            cases e1 with
            | nrm =>
              simp only at h1
              have hI1 : ∃ j, ∃ st, loopN (fun st => obind (cutX n kt kh st) fun st => sexec cf raw n k b st) j st = some (e, st') ∧ FI idm N m0 w0 W0 H0 st a1 w1 := ⟨j, st3, h1, h3⟩
              exact ⟨hI1, Nat.lt_succ_of_le ((least_spec hI1).2 j ⟨st3, h1, h3⟩)⟩
            | ex id => simp only [Option.some.injEq, Prod.mk.injEq] at h1; obtain ⟨rfl, rfl⟩ := h1; exact hQ a1 w1 h3
            | ret => simp only [Option.some.injEq, Prod.mk.injEq] at h1; obtain ⟨rfl, rfl⟩ := h1; exact hQ a1 w1 h3
    exact wpIn_loop (fun a w => ∃ j, ∃ st, loopN (fun st => obind (cutX n kt kh st) fun st => sexec cf raw n k b st) j st = some (e, st') ∧ FI idm N m0 w0 W0 H0 st a w)
      (fun a w => least (fun j => ∃ st, loopN (fun st => obind (cutX n kt kh st) fun st => sexec cf raw n k b st) j st = some (e, st') ∧ FI idm N m0 w0 W0 H0 st a w)) ⟨k, st, h, hfi⟩ key
  | exit id =>
    intro rd d n m0 w0 W0 H0 c st st' e a w Q hl hnb h hfi hQ
    cases c <;> simp [codeL] at hl
    subst hl
    simp only [sexec, Option.some.injEq, Prod.mk.injEq] at h
    obtain ⟨rfl, rfl⟩ := h
    exact wpIn_exit (hQ a w hfi)
  | ret =>
    intro rd d n m0 w0 W0 H0 c st st' e a w Q hl hnb h hfi hQ
    cases c <;> simp [codeL] at hl
    simp only [sexec, Option.some.injEq, Prod.mk.injEq] at h
    obtain ⟨rfl, rfl⟩ := h
    exact wpIn_ret (hQ a w hfi)
  | cut kt kh =>
    intro rd d n m0 w0 W0 H0 c st st' e a w Q hl hnb h hfi hQ
    cases c <;> simp [codeL] at hl
  | trim kn kr ke kh b ih =>
    intro rd d n m0 w0 W0 H0 c st st' e a w Q hl hnb h hfi hQ
    have hl' : codeL P idm N c b = true := by cases c <;> simpa [codeL] using hl
    simp only [sexec] at h
    cases hx : sexec cf raw n k b st with
    | none => simp [hx, trimX] at h
    | some p =>
      obtain ⟨e1, st1⟩ := p
      refine ih rd d n _ _ _ _ c st st1 e1 a w Q hl' hnb hx hfi fun a1 w1 h1 => ?_
      rw [hx] at h
      have hcut : ∀ (kt : List Nat) (e2 : Ex), (obind (cutX n kt kh st1) fun st => some (e2, st)) = some (e, st') → e2 = e ∧ FI idm N m0 w0 W0 H0 st' a1 w1 := by
        intro kt e2 hh
        cases hc : cutX n kt kh st1 with
        | none => simp [hc, obind_none] at hh
        | some st2 =>
          simp only [hc, obind_some, Option.some.injEq, Prod.mk.injEq] at hh
          obtain ⟨rfl, rfl⟩ := hh
          exact ⟨rfl, cutX_ok hc h1⟩
      cases e1 with
      | nrm => obtain ⟨rfl, h2⟩ := hcut kn .nrm h; exact hQ a1 w1 h2
      | ret => obtain ⟨rfl, h2⟩ := hcut kr .ret h; exact hQ a1 w1 h2
      | ex id =>
        simp only [trimX] at h
        split at h
        · rename_i k1 _; obtain ⟨rfl, h2⟩ := hcut k1 (.ex id) h; exact hQ a1 w1 h2
        · simp only [Option.some.injEq, Prod.mk.injEq] at h; obtain ⟨rfl, rfl⟩ := h; exact hQ a1 w1 h1
  | rback g x p q kt kh a b iha ihb =>
    intro rd d n m0 w0 W0 H0 c st st' e a w Q hl hnb h hfi hQ
    cases rd with
    | some l => simp [noBack] at hnb
    | none =>
      cases c <;> simp only [codeL, Bool.false_eq_true] at hl
      simp only [Bool.and_eq_true, decide_eq_true_eq, beq_iff_eq] at hl
      obtain ⟨⟨⟨⟨⟨⟨⟨⟨⟨l1, l2⟩, l3⟩, l4⟩, l5⟩, l6⟩, l7⟩, l8⟩, l9⟩, l10⟩ := hl
      simp only [sexec] at h
      cases hct : cutX n kt kh st with
      | none => simp [hct, obind_none] at h
      | some st1 =>
      simp only [hct, obind_some] at h
      exact back_ok k d l1 l2 l3 l4 l10 (fun l d n m0 w0 W0 H0 st st' e a w Q h hfi hQ => iha (some l) d n m0 w0 W0 H0 _ st st' e a w Q l6 (fun _ => l8) h hfi hQ) (fun l d n m0 w0 W0 H0 st st' e a w Q h hfi hQ => ihb (some l) d n m0 w0 W0 H0 _ st st' e a w Q l7 (fun _ => l9) h hfi hQ) h (cutX_ok hct hfi) hQ

theorem sexec_ok (cfok : CFOK P idm cf) (k : Nat) : ∀ (c' : SCode) (c : Code) (st st' : St) (e : Ex) (a : Act) (w : World) (Q : Exit → Act → World → Prop), codeL P idm N c c' = true → sexec cf raw n k c' st = some (e, st') → FI idm N m0 w0 W0 H0 st a w →
    (∀ a w, FI idm N m0 w0 W0 H0 st' a w → Q (exOf e) a w) → c.wp P Q a w :=
  fun c' c st st' e a w Q hl h hfi hQ => wpIn_wide.1 (sexec_in cfok k c' none 0 n m0 w0 W0 H0 c st st' e a w Q hl (fun h => by cases h) h hfi hQ)
end
end Go.Ab

/-! The end of a call; all calls. -/
namespace Go.Ab
open Go

theorem operL_mono {P : Program} {idm : FuncId → FuncId} {N N' : Nat} (h : N ≤ N') {ops : Array Go.Oper} {o : Go.Oper} {s : SOper} (hl : operL P idm N ops o s = true) : operL P idm N' ops o s = true := by
  simp only [operL, Bool.and_eq_true] at hl ⊢
  obtain ⟨⟨⟨h1, h2⟩, h3⟩, h4⟩ := hl
  refine ⟨⟨⟨h1, ?_⟩, ?_⟩, h4⟩
  · split
    · rename_i t ht; rw [ht] at h2; simp only [decide_eq_true_eq] at h2 ⊢; exact Nat.lt_of_lt_of_le h2 h
    · rfl
  · unfold guardL at h3 ⊢
    split at h3
    · rfl
    · simp only [Bool.and_eq_true, decide_eq_true_eq] at h3 ⊢; exact ⟨h3.1, Nat.lt_of_lt_of_le h3.2 h⟩
    · cases h3
theorem opersL_mono {P : Program} {idm : FuncId → FuncId} {N N' : Nat} (h : N ≤ N') {ops : Array Go.Oper} : ∀ {l : List Go.Oper} {q : List SOper}, opersL P idm N ops l q = true → opersL P idm N' ops l q = true
  | [], [], _ => rfl
  | o :: r, s :: q, hl => by
    simp only [opersL, Bool.and_eq_true] at hl ⊢
    exact ⟨operL_mono h hl.1, opersL_mono h hl.2⟩
  | [], _ :: _, h => by simp [opersL] at h
  | _ :: _, [], h => by simp [opersL] at h
theorem codeL_mono {P : Program} {idm : FuncId → FuncId} {N N' : Nat} (h : N ≤ N') : ∀ {c : Code} {c' : SCode}, codeL P idm N c c' = true → codeL P idm N' c c' = true := by
  intro c c'
  induction c' generalizing c with
  | skip => cases c <;> simp [codeL]
  | exit => cases c <;> simp [codeL]
  | ret => cases c <;> simp [codeL]
  | cut => cases c <;> simp [codeL]
  | reg r sops => cases c with
    | region id ops d => cases d <;> simp only [codeL] <;> first | exact opersL_mono h | exact fun h => h
    | _ => simp [codeL]
  | draw r sops pairs => cases c with
    | region id ops d => cases d <;> simp only [codeL, Bool.and_eq_true] <;> first | exact fun h' => ⟨opersL_mono h h'.1, h'.2⟩ | exact fun h => h
    | _ => simp [codeL]
  | seq a b iha ihb => cases c <;> simp [codeL]; exact fun h1 h2 => ⟨iha h1, ihb h2⟩
  | cond x a b iha ihb => cases c <;> simp [codeL]; exact fun h0 h1 h2 => ⟨⟨h0, iha h1⟩, ihb h2⟩
  | blk id b ih => cases c <;> simp [codeL]; exact fun h0 h1 => ⟨h0, ih h1⟩
  | loop kt kh b ih => cases c <;> simp [codeL]; exact fun h1 => ih h1
  | trim kn kr ke kh b ih => cases c <;> simp only [codeL] <;> exact fun h1 => ih h1
  | rback g x p q kt kh a b iha ihb =>
    cases c <;> simp only [codeL, Bool.false_eq_true, false_implies]
    simp only [Bool.and_eq_true, decide_eq_true_eq]
    rintro ⟨⟨⟨⟨⟨⟨⟨⟨⟨l1, l2⟩, l3⟩, l4⟩, l5⟩, l6⟩, l7⟩, l8⟩, l9⟩, l10⟩
    exact ⟨⟨⟨⟨⟨⟨⟨⟨⟨l1, l2⟩, by omega⟩, by omega⟩, l5⟩, iha l6⟩, ihb l7⟩, l8⟩, l9⟩, l10⟩

/-- A function's code agrees. -/
def fnL (P : Program) (idm : FuncId → FuncId) (f : FuncId) (F : SFn) : Bool :=
  match P.funcs[idm f]? with
  | none => false
  | some fn => (match fn.body with
    | some c => codeL P idm fn.ntmps c F.body
    | none => false) && decide (fn.name ≠ "runtime.NumGoroutine") && rvsL P fn.results.toList F.rv

structure EnvOK (P : Program) (idm : FuncId → FuncId) (E : Env) : Prop where
  fn : ∀ f F, E.fn f = some F → fnL P idm f F = true
  ex : CFOK P idm E.ex

theorem tget_argT : ∀ {vs : List AV} {k i : Nat}, tget (argT k vs) i = if k ≤ i then (vs[i - k]?).getD .undef else .undef
  | [], k, i => by simp [argT, tget]
  | v :: r, k, i => by
    simp only [argT, tget]
    by_cases h : k = i
    · subst h; simp
    · rw [if_neg h, tget_argT]
      by_cases h2 : k ≤ i
      · rw [if_pos (by omega), if_pos h2]
        obtain ⟨d, hd⟩ : ∃ d, i - k = d + 1 := ⟨i - k - 1, by omega⟩
        rw [hd, show i - (k + 1) = d by omega]
        simp
      · rw [if_neg (by omega), if_neg h2]

theorem acall_ok {P : Program} {idm : FuncId → FuncId} {E : Env} (h : EnvOK P idm E) : ∀ k, CFOK P idm (acall E k)
  | 0 => fun f args objs c hc => by simp [acall] at hc
  | k + 1 => by
    intro f args objs c hc m w W vs hs hr hn
    simp only [acall] at hc
    cases hF : E.fn f with
    | none => simp only [hF] at hc; exact h.ex f args objs c hc m w W vs hs hr hn
    | some F =>
      simp only [hF] at hc
      have hfl := h.fn f F hF
      unfold fnL at hfl
      cases hP : P.funcs[idm f]? with
      | none => simp [hP] at hfl
      | some fn =>
        simp only [hP, Bool.and_eq_true, decide_eq_true_eq] at hfl
        obtain ⟨⟨h1, h2⟩, h3⟩ := hfl
        cases hb : fn.body with
        | none => simp [hb] at h1
        | some body =>
          simp only [hb] at h1
          right
          refine ⟨?_, ?_⟩
          · simp [callFunc, hP, hb, h2]
          · refine calls_of_wpM hP hb (wpIn_wide.2 ?_)
            cases hx : sexec (acall E k) E.raw objs.length k F.body { T := argT 0 args, H := argH 0 objs } with
            | none => simp [hx, endX] at hc
            | some p =>
              obtain ⟨e, st'⟩ := p
              have hfi : FI idm (vs.size + (fn.ntmps - vs.size)) m w W (argH 0 objs) { T := argT 0 args, H := argH 0 objs } { tmps := vs ++ Array.replicate (fn.ntmps - vs.size) undef, defers := [] } w := by
                refine ⟨Marks.nil _ _, m, W, { toSimH := hs, sz := by simp, t := fun i => ?_, ct := fun i x hx => ?_ }, Since.refl ..⟩
                · rw [tget_argT]
                  simp only [Nat.zero_le, if_true, Nat.sub_zero]
                  cases hi : args[i]? with
                  | none => exact .undef _
                  | some v =>
                    have hlt := (List.getElem?_eq_some_iff.1 hi).1
                    have hlt' : i < vs.size := by rw [hr.hl]; exact hlt
                    have hv : (vs ++ Array.replicate (fn.ntmps - vs.size) undef).getD i undef = vs[i] := by
                      simp [Array.getD_eq_getD_getElem?, Array.getElem?_append, hlt']
                    simp only [Option.getD_some]
                    rw [hv]
                    exact hr.h i v _ hi (Array.getElem?_eq_getElem hlt')
                · simp only [tget_argT, Nat.zero_le, if_true, Nat.sub_zero] at hx
                  cases hi : args[i]? with
                  | none => rw [hi] at hx; simp [AV.names] at hx
                  | some v => rw [hi] at hx; exact hn x (mem_namesL.2 ⟨v, List.mem_of_getElem? hi, by simpa using hx⟩)
              refine sexec_ok (acall_ok h k) k F.body body _ st' e _ w _ (codeL_mono (by omega) h1) hx hfi fun a' w' hfi' => ?_
              rw [hx] at hc
              cases e with
              | nrm =>
                simp only [endX] at hc
                exact leave_ok h3 hc hfi' fun _ _ h => h
              | ret =>
                simp only [endX] at hc
                exact leave_ok h3 hc hfi' fun _ _ h => h
              | ex id => simp [endX] at hc

theorem callW_ok {P : Program} {idm : FuncId → FuncId} {E : Env} (h : EnvOK P idm E) : CFOK P idm (callW E) := by
  intro f args objs c hc
  obtain ⟨k, hk⟩ := (callW_iff E f args objs c).1 hc
  exact acall_ok h k f args objs c hk
end Go.Ab
