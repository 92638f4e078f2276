/- A part of the proof: an executor over plain data, shown sound for the model, and what it computes of the functions. -/
import Derived.Test.YtmnjnpgmenigiaaOpBin
set_option linter.all false
/-! '==' of structs. -/
set_option linter.unusedVariables false
set_option linter.unusedSimpArgs false
namespace Go.Ab
open Go

theorem eqCells_append (ks qs : List CK) : ∀ (cs ds : List PV) (b : Bool), eqCells (ks ++ qs) cs ds = some b →
    ∃ b1 b2, eqCells ks (cs.take ks.length) (ds.take ks.length) = some b1 ∧ eqCells qs (cs.drop ks.length) (ds.drop ks.length) = some b2 ∧ b = (b1 && b2) := by
  induction ks with
  | nil => intro cs ds b h; exact ⟨true, b, by simp [eqCells], by simpa using h, by simp⟩
  | cons k ks ih =>
    intro cs ds b h
    cases k with
    | i k => cases cs with
      | nil => simp [eqCells] at h
      | cons c cs => cases ds with
        | nil => cases c <;> simp [eqCells] at h
        | cons d ds => cases c <;> cases d <;> simp only [List.cons_append, eqCells, Option.ite_none_right_eq_some, Option.map_eq_some_iff, reduceCtorEq] at h
                       obtain ⟨hk, b', hb', rfl⟩ := h
                       obtain ⟨b1, b2, h1, h2, rfl⟩ := ih cs ds b' hb'
                       exact ⟨_, b2, by simp only [List.length_cons, List.take_succ_cons, eqCells, hk, and_self, if_true, h1]; rfl, by simpa using h2, by rw [Bool.and_assoc]⟩
    | s => cases cs with
      | nil => simp [eqCells] at h
      | cons c cs => cases ds with
        | nil => cases c <;> simp [eqCells] at h
        | cons d ds => cases c <;> cases d <;> simp only [List.cons_append, eqCells, Option.map_eq_some_iff, reduceCtorEq] at h
                       obtain ⟨b', hb', rfl⟩ := h
                       obtain ⟨b1, b2, h1, h2, rfl⟩ := ih cs ds b' hb'
                       exact ⟨_, b2, by simp only [List.length_cons, List.take_succ_cons, eqCells, h1]; rfl, by simpa using h2, by rw [Bool.and_assoc]⟩
    | b => cases cs with
      | nil => simp [eqCells] at h
      | cons c cs => cases ds with
        | nil => cases c <;> simp [eqCells] at h
        | cons d ds => cases c <;> cases d <;> simp only [List.cons_append, eqCells, Option.map_eq_some_iff, reduceCtorEq] at h
                       obtain ⟨b', hb', rfl⟩ := h
                       obtain ⟨b1, b2, h1, h2, rfl⟩ := ih cs ds b' hb'
                       exact ⟨_, b2, by simp only [List.length_cons, List.take_succ_cons, eqCells, h1]; rfl, by simpa using h2, by rw [Bool.and_assoc]⟩

section
variable {P : Program} (w : World) (W : Nat → Prop)

def Cells2 (cs : List PV) (xs : List Value) : Prop := xs.length = cs.length ∧ ∀ (i : Nat) (c : PV) (v : Value), cs[i]? = some c → xs[i]? = some v → PRep w W c v
theorem Cells2.drop {cs : List PV} {xs : List Value} (h : Cells2 w W cs xs) (n : Nat) : Cells2 w W (cs.drop n) (xs.drop n) :=
  ⟨by simp [h.1], fun i c v hc hv => h.2 (n + i) c v (by simpa using hc) (by simpa using hv)⟩
theorem Cells2.take {cs : List PV} {xs : List Value} (h : Cells2 w W cs xs) (n : Nat) : Cells2 w W (cs.take n) (xs.take n) :=
  ⟨by simp [h.1], fun i c v hc hv => by
    rw [List.getElem?_take] at hc hv
    split at hc
    · rename_i hlt; rw [if_pos hlt] at hv; exact h.2 i c v hc hv
    · cases hc⟩

/-- A value of a type out of its cells. -/
def mkV (P : Program) (t : TypeId) (xs : List Value) : Value := if aggT P t = some true then .agg xs.toArray else xs.headD undef

theorem eqCells_len : ∀ {ks : List CK} {cs ds : List PV} {b : Bool}, eqCells ks cs ds = some b → cs.length = ks.length ∧ ds.length = ks.length
  | [], [], [], _, _ => ⟨rfl, rfl⟩
  | .i k :: ks, .int k1 a :: x, .int k2 b :: y, _, h => by
    simp only [eqCells, Option.ite_none_right_eq_some, Option.map_eq_some_iff] at h
    obtain ⟨_, b', hb', _⟩ := h
    have := eqCells_len hb'
    simp [this]
  | .s :: ks, .str a :: x, .str b :: y, _, h => by
    simp only [eqCells, Option.map_eq_some_iff] at h
    obtain ⟨b', hb', _⟩ := h
    have := eqCells_len hb'
    simp [this]
  | .b :: ks, .bool a :: x, .bool b :: y, _, h => by
    simp only [eqCells, Option.map_eq_some_iff] at h
    obtain ⟨b', hb', _⟩ := h
    have := eqCells_len hb'
    simp [this]

theorem part_mkV {t : TypeId} {XS : List Value} {o n : Nat} (hs : szOK P t n = true) (hl : o + n ≤ XS.length) :
    (part t XS.toArray o).run P w = .ok (mkV P t ((XS.drop o).take n)) w := by
  unfold szOK at hs
  cases hA : aggT P t with
  | none => simp [hA] at hs
  | some q =>
    rw [hA] at hs
    unfold part mkV
    rw [hA]
    simp only [Sem.run_bind, run_isAgg hA, Result.andThen_ok]
    cases q with
    | true =>
      have hs := eq_of_beq hs
      simp only [if_true, Sem.run_bind, run_sizeT hs, Result.andThen_ok, Sem.run_pure]
      congr 2
      simp [List.extract_eq_take_drop]
    | false =>
      have hs := eq_of_beq hs
      subst hs
      have hlt : o < XS.length := by omega
      have e1 : (XS.toArray[o]? : Option Value) = some XS[o] := by simp [List.getElem?_eq_getElem hlt]
      have e2 : ((XS.drop o).take 1).headD undef = XS[o] := by rw [List.drop_eq_getElem_cons hlt]; rfl
      simp only [Bool.false_eq_true, if_false, e1, e2, Sem.run_pure, Option.some.injEq]

theorem run_eqFields (g : TypeId → Option (List CK)) (d : Nat)
    (hg : ∀ t ks, g t = some ks → ∀ (xs ys : List Value) (cs ds : List PV) (b : Bool), Cells2 w W cs xs → Cells2 w W ds ys → eqCells ks cs ds = some b → (Op.equalIn d t (mkV P t xs) (mkV P t ys)).run P w = .ok b w) :
    ∀ (fs : List Field) (o : Nat) (ks : List CK) (XS YS : List Value) (cs ds : List PV) (b : Bool), eqFK P g o fs = some ks → Cells2 w W cs (XS.drop o) → Cells2 w W ds (YS.drop o) → eqCells ks cs ds = some b →
      (Op.eqFields d XS.toArray YS.toArray fs).run P w = .ok b w
  | [], o, ks, XS, YS, cs, ds, b, hk, hx, hy, he => by
    simp only [eqFK, Option.some.injEq] at hk
    subst hk
    cases cs <;> cases ds <;> simp [eqCells] at he
    subst he
    simp [Op.eqFields]
  | f :: r, o, ks, XS, YS, cs, ds, b, hk, hx, hy, he => by
    simp only [eqFK] at hk
    split at hk
    · cases hk
    · rename_i hno
      simp only [Bool.or_eq_true, not_or, Bool.not_eq_true, bne_eq_false_iff_eq] at hno
      cases hgf : g f.type with
      | none => simp [hgf] at hk
      | some k1 =>
        simp only [hgf] at hk
        split at hk
        · rename_i hsz
          cases hr : eqFK P g (o + k1.length) r with
          | none => simp [hr] at hk
          | some qs =>
            simp only [hr, Option.some.injEq] at hk
            subst hk
            obtain ⟨b1, b2, h1, h2, rfl⟩ := eqCells_append k1 qs cs ds b he
            obtain ⟨l1, l2⟩ := eqCells_len he
            have hnm : f.name ≠ "_" := by have := hno.1; simpa using this
            have hoff : f.offset = o := hno.2
            simp only [List.length_append] at l1 l2
            have lx : o + k1.length ≤ XS.length ∨ k1.length = 0 := by have := hx.1; simp at this; omega
            have ly : o + k1.length ≤ YS.length ∨ k1.length = 0 := by have := hy.1; simp at this; omega
            have hk0 : k1.length ≠ 0 := by
              intro h0
              rw [List.length_eq_zero_iff] at h0
              subst h0
              simp at hsz
            have hsz := (Bool.and_eq_true_iff.1 hsz).2
            have px := part_mkV (P := P) w (t := f.type) (XS := XS) (o := o) (n := k1.length) hsz (by omega)
            have py := part_mkV (P := P) w (t := f.type) (XS := YS) (o := o) (n := k1.length) hsz (by omega)
            have e1 := hg f.type k1 hgf _ _ _ _ b1 (hx.take w W k1.length) (hy.take w W k1.length) h1
            have e2 := run_eqFields g d hg r (o + k1.length) qs XS YS (cs.drop k1.length) (ds.drop k1.length) b2 hr (by have := hx.drop w W k1.length; rwa [List.drop_drop] at this) (by have := hy.drop w W k1.length; rwa [List.drop_drop] at this) h2
            rw [Op.eqFields]
            simp only [if_pos hnm, Sem.run_bind, hoff, px, py, e1, Result.andThen_ok]
            cases b1 with
            | true => simpa using e2
            | false => simp
        · cases hk
theorem run_eqK : ∀ (d : Nat) (t : TypeId) (ks : List CK), eqK P d t = some ks → ∀ (k : Nat), d ≤ k → ∀ (xs ys : List Value) (cs ds : List PV) (b : Bool), Cells2 w W cs xs → Cells2 w W ds ys → eqCells ks cs ds = some b →
    (Op.equalIn k t (mkV P t xs) (mkV P t ys)).run P w = .ok b w
  | 0, t, ks, h, k, _, xs, ys, cs, ds, b, hx, hy, he => by simp [eqK] at h
  | d + 1, t, ks, h, k, hk, xs, ys, cs, ds, b, hx, hy, he => by
    obtain ⟨k, rfl⟩ : ∃ j, k = j + 1 := ⟨k - 1, by omega⟩
    simp only [eqK] at h
    have one : ∀ {c d' : PV}, cs = [c] → ds = [d'] → ∃ x y, xs = [x] ∧ ys = [y] ∧ PRep w W c x ∧ PRep w W d' y := by
      rintro c d' rfl rfl
      have l1 := hx.1; have l2 := hy.1
      match xs, ys, l1, l2 with
      | [x], [y], _, _ => exact ⟨x, y, rfl, rfl, hx.2 0 c x rfl rfl, hy.2 0 d' y rfl rfl⟩
    split at h
    · rename_i kk hu
      simp only [Option.some.injEq] at h
      subst h
      have hA : aggT P t = some false := by simp [aggT, hu, aggD]
      obtain ⟨l1, l2⟩ := eqCells_len he
      match cs, ds, l1, l2 with
      | [c], [d'], _, _ =>
        obtain ⟨x, y, rfl, rfl, hpx, hpy⟩ := one rfl rfl
        cases c <;> cases d' <;> simp only [eqCells, reduceCtorEq, Option.ite_none_right_eq_some] at he
        obtain ⟨⟨rfl, rfl⟩, he⟩ := he
        cases hpx; cases hpy
        simp at he
        subst he
        simp only [mkV, hA]
        simp [run_equalIn_int (P := P) w k t _ _ _ _ hu]
        rw [Bool.eq_iff_iff]; simp
    · rename_i hu
      simp only [Option.some.injEq] at h
      subst h
      have hA : aggT P t = some false := by simp [aggT, hu, aggD]
      obtain ⟨l1, l2⟩ := eqCells_len he
      match cs, ds, l1, l2 with
      | [c], [d'], _, _ =>
        obtain ⟨x, y, rfl, rfl, hpx, hpy⟩ := one rfl rfl
        cases c <;> cases d' <;> simp only [eqCells, reduceCtorEq, Option.ite_none_right_eq_some] at he
        cases hpx; cases hpy
        simp at he
        subst he
        simp only [mkV, hA]
        simp [Go.Ab.run_equalIn_bool hu]
    · rename_i hu
      simp only [Option.some.injEq] at h
      subst h
      have hA : aggT P t = some false := by simp [aggT, hu, aggD]
      obtain ⟨l1, l2⟩ := eqCells_len he
      match cs, ds, l1, l2 with
      | [c], [d'], _, _ =>
        obtain ⟨x, y, rfl, rfl, hpx, hpy⟩ := one rfl rfl
        cases c <;> cases d' <;> simp only [eqCells, reduceCtorEq, Option.ite_none_right_eq_some] at he
        cases hpx; cases hpy
        simp at he
        subst he
        simp only [mkV, hA]
        simp [run_equalIn_string (P := P) w k t _ _ hu]
        rename_i a b
        rw [ByteArray.toList_eq, ByteArray.toList_eq, Bool.eq_iff_iff]
        simp only [beq_iff_eq, decide_eq_true_eq]
        exact ⟨fun h => ByteArray.ext (Array.toList_inj.1 h), fun h => by rw [h]⟩
    · rename_i fs hu
      split at h
      · cases h
      · rename_i hp
        have hA : aggT P t = some true := by simp [aggT, hu, aggD]
        have hf : P.fieldsOf t = fs := by simp [Program.fieldsOf, hu]
        have hr := run_eqFields (P := P) w W (eqK P d) k (fun t ks ht xs ys cs ds b h1 h2 h3 => run_eqK d t ks ht k (by omega) xs ys cs ds b h1 h2 h3) fs.toList 0 ks xs ys cs ds b h (by simpa using hx) (by simpa using hy) he
        simp only [mkV, hA, if_true]
        rw [run_equalIn_struct (P := P) w k t _ _ (by rw [hf]; exact hu) (by simpa using hp), hf]
        exact hr
    · cases h
end

section
variable {P : Program} {idm : FuncId → FuncId} {N : Nat} {m : NMap} {w : World} {W : Nat → Prop} {st : St} {a : Act} {o : Oper} (s : Sim idm N m w W st a)
include s

theorem ok_eqs {op : BinOp} {t t2 : TypeId} {x y : Operand} {x' y' : Opd} {neq : Bool} {ks : List CK} (ho : o.op = .binOp op t x y t2) (hop : (op = .eql ∧ neq = false) ∨ (op = .neq ∧ neq = true))
    (hk : eqK P 20 t = some ks) (hg : P.eqGuardType P.depth t = false) (hs : ∃ fs, P.underlying t = some (.struct fs)) (hx : opdL idm x x' = true) (hy : opdL idm y y' = true)
    {cs ds : List PV} (h1 : ev st.T x' = .p (.agg cs)) (h2 : ev st.T y' = .p (.agg ds)) {b : Bool} (hb : eqCells ks cs ds = some b) : OpOK P idm m w W st.H o a { v := .p (.bool (if neq then !b else b)) } := by
  obtain ⟨g1, _⟩ := opdL_rep hx s
  obtain ⟨g2, _⟩ := opdL_rep hy s
  rw [h1] at g1; rw [h2] at g2
  obtain ⟨fs, hu⟩ := hs
  have hA : aggT P t = some true := by simp [aggT, hu, aggD]
  cases g1 with
  | p _ v1 p1 => cases g2 with
    | p _ v2 p2 =>
      generalize e1 : a.eval x = u1 at *
      generalize e2 : a.eval y = u2 at *
      cases p1 with
      | agg _ vs l1 f1 r1 => cases p2 with
        | agg _ us l2 f2 r2 =>
          have hr := run_eqK (P := P) w W 20 t ks hk 10000 (by omega) vs.toList us.toList cs ds b ⟨by simpa using l1, fun i c v hc hv => r1 i c v hc (by simpa using hv)⟩ ⟨by simpa using l2, fun i c v hc hv => r2 i c v hc (by simpa using hv)⟩ hb
          simp only [mkV, hA, if_true, Array.toArray_toList] at hr
          have hgd := run_eqGuard_agg (P := P) w op t x y vs us hg
          rcases hop with ⟨rfl, rfl⟩ | ⟨rfl, rfl⟩
          · refine OpOK.pure s (v := .bool b) ?_ (.p _ _ (.bool _)) (by simp [AV.names])
            simp [execOp, ho, e1, e2, hgd, run_eql_struct, hr]
          · refine OpOK.pure s (v := .bool (!b)) ?_ (.p _ _ (.bool _)) (by simp [AV.names])
            simp [execOp, ho, e1, e2, hgd, run_neq_struct, hr]
end
end Go.Ab
