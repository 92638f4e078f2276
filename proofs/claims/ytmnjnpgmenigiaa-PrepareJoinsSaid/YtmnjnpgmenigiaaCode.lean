/- A part of the proof: an executor over plain data, shown sound for the model, and what it computes of the functions. -/
import Derived.Test.YtmnjnpgmenigiaaDraw4
set_option linter.all false
/-! Code. -/
set_option linter.unusedVariables false
set_option linter.unusedSimpArgs false
set_option linter.unusedSectionVars false
namespace Go.Ab
open Go

section
variable (P : Program) (idm : FuncId → FuncId) (N : Nat)

def codeL : Code → SCode → Bool
  | c, .trim _ _ _ _ b => codeL c b
  | .skip, .skip => true
  | .region _ ops false, .reg _ sops => opersL P idm N ops ops.toList sops
  | .region _ ops true, .draw _ sops pairs => opersL P idm N ops ops.toList sops && drawOk ops sops pairs
  | .seq a b, .seq a' b' => codeL a a' && codeL b b'
  | .cond c a b, .cond c' a' b' => opdL idm c c' && codeL a a' && codeL b b'
  | .block id b, .blk id' b' => id == id' && codeL b b'
  | .loop b, .loop _ _ b' => codeL b b'
  | .exit id, .exit id' => id == id'
  | .ret, .ret => true
  | _, _ => false

def rvsL : List ResultVar → List RV → Bool
  | [], [] => true
  | .tmp t :: r, .tmp t' :: q => t == t' && rvsL r q
  | .cell a t :: r, .cell a' agg size :: q => a == a' && aggT P t == some agg && sizeT P t == some size && rvsL r q
  | _, _ => false

end

def exOf : Ex → Exit
  | .nrm => .normal
  | .ex id => .exit id
  | .ret => .ret

theorem mem_keepT {T : Tm} : ∀ {kt : List Nat} {i : Nat}, tget (keepT T kt) i = tget T i ∨ tget (keepT T kt) i = .undef
  | [], i => .inr rfl
  | j :: r, i => by
    simp only [keepT, tget]
    split
    · rename_i h; subst h; exact .inl rfl
    · exact mem_keepT
theorem names_tget : ∀ {T : Tm} {i : Nat} {x : Nm}, x ∈ (tget T i).names → x ∈ namesT T
  | [], i, x, h => by simp [tget, AV.names] at h
  | (j, v) :: r, i, x, h => by
    simp only [tget] at h
    simp only [namesT, List.mem_append]
    split at h
    · exact .inl h
    · exact .inr (names_tget h)
theorem names_hget : ∀ {H : Hp} {y x : Nm} {o : AObj}, hget H y = some o → x ∈ o.names → x ∈ namesH H
  | [], y, x, o, h, _ => by simp [hget] at h
  | (z, q) :: r, y, x, o, h, hx => by
    simp only [hget] at h
    split at h
    · subst h; simp only [namesH, List.mem_append]; exact .inl hx
    · have := names_hget h hx
      cases q with
      | none => simpa [namesH] using this
      | some q => simp only [namesH, List.mem_append]; exact .inr this
theorem hget_exts {H : Hp} : ∀ {n k : Nat} {x : Nm} {o : AObj}, hget (exts H k n) x = some o → hget H x = some o
  | 0, k, x, o, h => by simp [exts, hget] at h
  | n + 1, k, x, o, h => by
    simp only [exts, hget] at h
    split at h
    · rename_i e; subst e; exact h
    · exact hget_exts h
theorem hget_keepH {H : Hp} : ∀ {ns : List Nm} {x : Nm} {o : AObj}, hget (keepH H ns) x = some o → hget H x = some o
  | [], x, o, h => by simp [keepH, hget] at h
  | y :: r, x, o, h => by
    simp only [keepH, hget] at h
    split at h
    · rename_i e; subst e; exact h
    · exact hget_keepH h
theorem allIn_spec {H : Hp} : ∀ {ns : List Nm}, allIn H ns = true → ∀ x ∈ ns, (hget H x).isSome = true
  | [], _, x, h => by cases h
  | y :: r, ha, x, h => by
    simp only [allIn, Bool.and_eq_true] at ha
    rcases List.mem_cons.1 h with rfl | h
    · exact ha.1
    · exact allIn_spec ha.2 x h

section
variable {P : Program} {idm : FuncId → FuncId} {N : Nat} {m0 : NMap} {w0 : World} {W0 : Nat → Prop} {H0 : Hp} {cf : CF} {raw : FuncId → Bool} {n : Nat}

theorem cutX_ok {kt : List Nat} {kh : List Nm} {st st' : St} (h : cutX n kt kh st = some st') {a : Act} {w : World} (hfi : FI idm N m0 w0 W0 H0 st a w) : FI idm N m0 w0 W0 H0 st' a w := by
  simp only [cutX] at h
  split at h
  · rename_i hc
    simp only [Option.some.injEq] at h
    subst h
    simp only [Bool.and_eq_true] at hc
    obtain ⟨h0, m, W, s, si⟩ := hfi
    have hsub : ∀ x o, hget (exts st.H 0 n ++ keepH st.H kh) x = some o → hget st.H x = some o := fun x o h => by
      rw [hget_append] at h
      split at h
      · exact hget_exts h
      · exact hget_keepH h
    refine ⟨h0, m, W, { h := fun x o hx => s.h x o (hsub x o hx), sep := fun x y o o' b hx hy => s.sep x y o o' b (hsub x o hx) (hsub y o' hy), ch := fun y o x hy hx => allIn_spec hc.2 x (names_hget hy hx), lt := s.lt, sz := s.sz, t := fun i => ?_, ct := fun i x hx => allIn_spec hc.1 x (names_tget hx) }, si.less hsub⟩
    rcases mem_keepT (T := st.T) (kt := kt) (i := i) with e | e
    · show Rep idm m w W (tget (keepT st.T kt) i) _
      rw [e]; exact s.t i
    · show Rep idm m w W (tget (keepT st.T kt) i) _
      rw [e]; exact .undef _
  · cases h

theorem least_of {p : Nat → Prop} (h : ∃ n, p n) : ∃ n, p n ∧ ∀ m, p m → n ≤ m := by
  obtain ⟨n, hn⟩ := h
  induction n using Nat.strongRecOn with
  | _ n ih =>
    by_cases hx : ∃ m, m < n ∧ p m
    · obtain ⟨m, h1, h2⟩ := hx; exact ih m h1 h2
    · exact ⟨n, hn, fun m hm => by
        rcases Nat.lt_or_ge m n with h | h
        · exact absurd ⟨m, h, hm⟩ hx
        · exact h⟩

open Classical in
noncomputable def least (p : Nat → Prop) : Nat := if h : ∃ n, p n then Classical.choose (least_of h) else 0
theorem least_spec {p : Nat → Prop} (h : ∃ n, p n) : p (least p) ∧ ∀ m, p m → least p ≤ m := by
  unfold least
  rw [dif_pos h]
  exact Classical.choose_spec (least_of h)

theorem sexec_ok (cfok : CFOK P idm cf) (k : Nat) : ∀ (c' : SCode) (c : Code) (st st' : St) (e : Ex) (a : Act) (w : World) (Q : Exit → Act → World → Prop), codeL P idm N c c' = true → sexec cf raw n k c' st = some (e, st') → FI idm N m0 w0 W0 H0 st a w →
    (∀ a w, FI idm N m0 w0 W0 H0 st' a w → Q (exOf e) a w) → c.wp P Q a w := by
  intro c'
  induction c' with
  | skip =>
    intro c st st' e a w Q hl h hfi hQ
    cases c <;> simp [codeL] at hl
    simp only [sexec, Option.some.injEq, Prod.mk.injEq] at h
    obtain ⟨rfl, rfl⟩ := h
    exact wp_skip (hQ a w hfi)
  | reg r sops =>
    intro c st st' e a w Q hl h hfi hQ
    obtain ⟨id, ops, rfl⟩ : ∃ id ops, c = .region id ops false := by
      cases c with
      | region id ops d => cases d with
        | false => exact ⟨id, ops, rfl⟩
        | true => simp [codeL] at hl
      | _ => simp [codeL] at hl
    simp only [codeL] at hl
    simp only [sexec] at h
    cases hx : opsX cf raw r 0 sops st with
    | none => simp [hx, obind_none] at h
    | some st1 =>
      simp only [hx, obind_some, Option.some.injEq, Prod.mk.injEq] at h
      obtain ⟨rfl, rfl⟩ := h
      exact wp_region_reg cfok hl hx hQ hfi
  | draw r sops pairs =>
    intro c st st' e a w Q hl h hfi hQ
    obtain ⟨id, ops, rfl⟩ : ∃ id ops, c = .region id ops true := by
      cases c with
      | region id ops d => cases d with
        | true => exact ⟨id, ops, rfl⟩
        | false => simp [codeL] at hl
      | _ => simp [codeL] at hl
    simp only [codeL, Bool.and_eq_true] at hl
    simp only [sexec] at h
    cases hx : drawX cf raw r sops pairs st with
    | none => simp [hx, obind_none] at h
    | some st1 =>
      simp only [hx, obind_some, Option.some.injEq, Prod.mk.injEq] at h
      obtain ⟨rfl, rfl⟩ := h
      exact wp_region_drawn cfok hl.1 hl.2 hx hQ hfi
  | seq x y ihx ihy =>
    intro c st st' e a w Q hl h hfi hQ
    cases c <;> simp [codeL] at hl
    simp only [sexec, seqX] at h
    cases hx : sexec cf raw n k x st with
    | none => simp [hx] at h
    | some p =>
      obtain ⟨e1, st1⟩ := p
      refine wp_seq (ihx _ st st1 e1 a w _ hl.1 hx hfi fun a1 w1 h1 => ?_)
      rw [hx] at h
      cases e1 with
      | nrm => exact ihy _ st1 st' e a1 w1 Q hl.2 h h1 hQ
      | ex id => simp only [Option.some.injEq, Prod.mk.injEq] at h; obtain ⟨rfl, rfl⟩ := h; exact hQ a1 w1 h1
      | ret => simp only [Option.some.injEq, Prod.mk.injEq] at h; obtain ⟨rfl, rfl⟩ := h; exact hQ a1 w1 h1
  | cond cnd x y ihx ihy =>
    intro c st st' e a w Q hl h hfi hQ
    cases c <;> simp [codeL] at hl
    simp only [sexec, onB] at h
    split at h
    · rename_i b hb
      obtain ⟨h0, m, W, s, si⟩ := hfi
      obtain ⟨hr, _⟩ := opdL_rep hl.1.1 s
      rw [hb] at hr
      refine wp_cond hr.bool_inv ?_
      cases b with
      | true => simp only [if_true] at h ⊢; exact ihx _ st st' e a w Q hl.1.2 h ⟨h0, m, W, s, si⟩ hQ
      | false => simp only [Bool.false_eq_true, if_false] at h ⊢; exact ihy _ st st' e a w Q hl.2 h ⟨h0, m, W, s, si⟩ hQ
    · cases h
  | blk id b ih =>
    intro c st st' e a w Q hl h hfi hQ
    cases c <;> simp [codeL] at hl
    obtain ⟨rfl, hl⟩ := hl
    simp only [sexec, blkX] at h
    cases hx : sexec cf raw n k b st with
    | none => simp [hx] at h
    | some p =>
      obtain ⟨e1, st1⟩ := p
      refine wp_block (ih _ st st1 e1 a w _ hl hx hfi fun a1 w1 h1 => ?_)
      rw [hx] at h
      cases e1 with
      | nrm => simp only [Option.some.injEq, Prod.mk.injEq] at h; obtain ⟨rfl, rfl⟩ := h; exact hQ a1 w1 h1
      | ex id' =>
        simp only [exOf, Exit.inBlock]
        simp only at h
        split at h
        · rename_i hid
          simp only [Option.some.injEq, Prod.mk.injEq] at h
          obtain ⟨rfl, rfl⟩ := h
          rw [if_pos hid]; exact hQ a1 w1 h1
        · rename_i hid
          simp only [Option.some.injEq, Prod.mk.injEq] at h
          obtain ⟨rfl, rfl⟩ := h
          rw [if_neg hid]; exact hQ a1 w1 h1
      | ret => simp only [Option.some.injEq, Prod.mk.injEq] at h; obtain ⟨rfl, rfl⟩ := h; exact hQ a1 w1 h1
  | loop kt kh b ih =>
    intro c st st' e a w Q hl h hfi hQ
    cases c <;> simp [codeL] at hl
    rename_i body
    simp only [sexec] at h
    have key : ∀ (a : Act) (w : World), (∃ j, ∃ st, loopN (fun st => obind (cutX n kt kh st) fun st => sexec cf raw n k b st) j st = some (e, st') ∧ FI idm N m0 w0 W0 H0 st a w) →
        body.wp P (Exit.then (fun a' w' => (∃ j, ∃ st, loopN (fun st => obind (cutX n kt kh st) fun st => sexec cf raw n k b st) j st = some (e, st') ∧ FI idm N m0 w0 W0 H0 st a' w') ∧
          least (fun j => ∃ st, loopN (fun st => obind (cutX n kt kh st) fun st => sexec cf raw n k b st) j st = some (e, st') ∧ FI idm N m0 w0 W0 H0 st a' w') <
          least (fun j => ∃ st, loopN (fun st => obind (cutX n kt kh st) fun st => sexec cf raw n k b st) j st = some (e, st') ∧ FI idm N m0 w0 W0 H0 st a w)) Q) a w := by
      intro a w hI
      obtain ⟨⟨st1, h1, h2⟩, _⟩ := least_spec hI
      generalize least (fun j => ∃ st, loopN (fun st => obind (cutX n kt kh st) fun st => sexec cf raw n k b st) j st = some (e, st') ∧ FI idm N m0 w0 W0 H0 st a w) = j at h1
      cases j with
      | zero => simp [loopN] at h1
      | succ j =>
        simp only [loopN] at h1
        cases hc : cutX n kt kh st1 with
        | none => simp [hc, obind_none] at h1
        | some st2 =>
          simp only [hc, obind_some] at h1
          cases hb : sexec cf raw n k b st2 with
          | none => simp [hb] at h1
          | some p =>
            obtain ⟨e1, st3⟩ := p
            refine ih _ st2 st3 e1 a w _ hl hb (cutX_ok hc h2) fun a1 w1 h3 => ?_
            rw [hb] at h1
            cases e1 with
            | nrm =>
              simp only at h1
              have hI1 : ∃ j, ∃ st, loopN (fun st => obind (cutX n kt kh st) fun st => sexec cf raw n k b st) j st = some (e, st') ∧ FI idm N m0 w0 W0 H0 st a1 w1 := ⟨j, st3, h1, h3⟩
              exact ⟨hI1, Nat.lt_succ_of_le ((least_spec hI1).2 j ⟨st3, h1, h3⟩)⟩
            | ex id => simp only [Option.some.injEq, Prod.mk.injEq] at h1; obtain ⟨rfl, rfl⟩ := h1; exact hQ a1 w1 h3
            | ret => simp only [Option.some.injEq, Prod.mk.injEq] at h1; obtain ⟨rfl, rfl⟩ := h1; exact hQ a1 w1 h3
    exact wp_loop (fun a w => ∃ j, ∃ st, loopN (fun st => obind (cutX n kt kh st) fun st => sexec cf raw n k b st) j st = some (e, st') ∧ FI idm N m0 w0 W0 H0 st a w)
      (fun a w => least (fun j => ∃ st, loopN (fun st => obind (cutX n kt kh st) fun st => sexec cf raw n k b st) j st = some (e, st') ∧ FI idm N m0 w0 W0 H0 st a w)) ⟨k, st, h, hfi⟩ key
  | exit id =>
    intro c st st' e a w Q hl h hfi hQ
    cases c <;> simp [codeL] at hl
    subst hl
    simp only [sexec, Option.some.injEq, Prod.mk.injEq] at h
    obtain ⟨rfl, rfl⟩ := h
    exact wp_exit (hQ a w hfi)
  | ret =>
    intro c st st' e a w Q hl h hfi hQ
    cases c <;> simp [codeL] at hl
    simp only [sexec, Option.some.injEq, Prod.mk.injEq] at h
    obtain ⟨rfl, rfl⟩ := h
    exact wp_ret (hQ a w hfi)
  | cut kt kh =>
    intro c st st' e a w Q hl h hfi hQ
    cases c <;> simp [codeL] at hl
  | trim kn kr ke kh b ih =>
    intro c st st' e a w Q hl h hfi hQ
    have hl' : codeL P idm N c b = true := by cases c <;> simpa [codeL] using hl
    simp only [sexec] at h
    cases hx : sexec cf raw n k b st with
    | none => simp [hx, trimX] at h
    | some p =>
      obtain ⟨e1, st1⟩ := p
      refine ih c st st1 e1 a w Q hl' hx hfi fun a1 w1 h1 => ?_
      rw [hx] at h
      have hcut : ∀ (kt : List Nat) (e2 : Ex), (obind (cutX n kt kh st1) fun st => some (e2, st)) = some (e, st') → e2 = e ∧ FI idm N m0 w0 W0 H0 st' a1 w1 := by
        intro kt e2 hh
        cases hc : cutX n kt kh st1 with
        | none => simp [hc, obind_none] at hh
        | some st2 =>
          simp only [hc, obind_some, Option.some.injEq, Prod.mk.injEq] at hh
          obtain ⟨rfl, rfl⟩ := hh
          exact ⟨rfl, cutX_ok hc h1⟩
      cases e1 with
      | nrm => obtain ⟨rfl, h2⟩ := hcut kn .nrm h; exact hQ a1 w1 h2
      | ret => obtain ⟨rfl, h2⟩ := hcut kr .ret h; exact hQ a1 w1 h2
      | ex id =>
        simp only [trimX] at h
        split at h
        · rename_i k1 _; obtain ⟨rfl, h2⟩ := hcut k1 (.ex id) h; exact hQ a1 w1 h2
        · simp only [Option.some.injEq, Prod.mk.injEq] at h; obtain ⟨rfl, rfl⟩ := h; exact hQ a1 w1 h1
end
end Go.Ab
